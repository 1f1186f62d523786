import Derived.Test.YtneflbpekennkaaGreatB41
/- Contracts: one time, from its stages. -/
namespace Go.Fx
open Go Go.Proofs

/-- A world, and how it is by now; who began, who is gone, who runs. -/
abbrev XTk := Fu.World × Fu.World × List Int × List Int × Int × Int
def traceZ : List AV := [.lit .i64 0, .lit .i64 0, .lit .i64 0, .lit .i64 0, .nils, .nils, .nils]
def hTk (x : XTk) : Heap := [(0, .cells (encW x.1)), (1, .cells zeroWA), (2, .cells traceZ), (3, .cells [.int .i64 x.2.1.Now, .own 4, .own 5, .int .i64 x.2.1.Cur]), (4, .rows .task 47 x.2.1.T), (5, .rows .ape 49 x.2.1.A), (6, .rows (.int .i64) 3 x.2.2.1), (7, .cells [.int .i64 x.2.2.2.2.1, .int .i64 x.2.2.2.2.2]), (8, .cells [.own 9]), (9, .rows (.int .i64) 3 x.2.2.2.1)]
def S1k (x : XTk) : St := ⟨puts (J 80) [(2, .ptr 0 0), (4, .ptr 1 0), (5, .ptr 2 0), (7, .ptr 3 0), (8, .own 6), (9, .ptr 7 0), (10, .ptr 8 0)], hTk x, 10⟩
def s1Tk : List Sh := sets (Js 80) [(2, .keep), (4, .keep), (5, .keep), (7, .keep), (8, .keep), (9, .keep), (10, .keep)]
def ksTk : List Nat := [0, 1, 2, 3, 4, 5, 6, 7, 8, 9]
def f1Tk (σ : St) : St := ordH ksTk (norm2 0 [.tmp 2, .tmp 4, .tmp 5, .tmp 7, .cell 6 1, .cell 6 2, .tmp 8, .tmp 9, .tmp 10, .cell 9 0] ksTk s1Tk σ)
def lsTk : List Loc := [.tmp 2, .tmp 4, .tmp 5, .tmp 7, .cell 3 1, .cell 3 2, .tmp 8, .tmp 9, .tmp 10, .cell 8 0]
def f2Tk (σ : St) : St := ordH ksTk (norm2 0 lsTk ksTk s1Tk σ)
def s3Tk : List Sh := sets (Js 80) [(2, .keep), (4, .keep), (5, .keep), (7, .keep), (8, .keep), (9, .keep), (10, .keep), (13, .int)]
def f3Tk (σ : St) : St := genBlk 3 [.int, .keep, .keep, .int] (ordH ksTk (norm2 0 lsTk ksTk s3Tk σ))
def lTick : List (Nat × (St → St)) := [(5, f1Tk), (1, f2Tk), (1, f3Tk)]
theorem lTick_weak : ∀ p ∈ lTick, ∀ σ, Weak 0 σ (p.2 σ) := by
  intro p hp σ
  rcases List.mem_cons.1 hp with rfl | hp
  · exact (Weak.norm2 0 _ ksTk s1Tk σ).trans (Weak.ordH 0 ksTk _)
  rcases List.mem_cons.1 hp with rfl | hp
  · exact (Weak.norm2 0 _ ksTk s1Tk σ).trans (Weak.ordH 0 ksTk _)
  rcases List.mem_cons.1 hp with rfl | hp
  · exact ((Weak.norm2 0 _ ksTk s3Tk σ).trans (Weak.ordH 0 ksTk _)).trans (Weak.genBlk 0 3 _ _)
  · cases hp
def S3k (x : XTk) (f : Int) : St := ⟨puts (J 80) [(2, .ptr 0 0), (4, .ptr 1 0), (5, .ptr 2 0), (7, .ptr 3 0), (8, .own 6), (9, .ptr 7 0), (10, .ptr 8 0), (13, .int .i64 f)], hTk x, 10⟩

/-! ### what one time comes to -/
/-- Behind those that begin. -/
def startW (w : Fu.World) (d : List Int) : Fu.World := ⟨w.Now, (beginW w d).1.T, w.A, w.Cur⟩
/-- Without those that are gone. -/
def leftW (w : Fu.World) (d : List Int) : Fu.World := ⟨w.Now, (beginW w d).1.T, dropA (pickW (startW w d)).2 w.A, w.Cur⟩
def curW (x : Fu.World) (c : Int × Int) : Fu.World := bif !(c.1 == 1 || c.1 == 3) && c.1 == 2 then { x with Cur := c.2 } else x
def ranTask (x : Fu.World) (id : Int) : Fu.World := { x with T := upd .task x.T (idxT x.T id) (runK (rd .task x.T (idxT x.T id))) }
def ranA (a : Fu.Ape) : Fu.Ape := ⟨a.ID, a.Due, a.C, a.V, IntKind.i64.wrap (a.Ran + 1)⟩
def ranAs (A : List Fu.Ape) (id : Int) : List Fu.Ape := upd .ape A (atA A id) (ranA (rd .ape A (atA A id)))
def doneB (A : List Fu.Ape) (id : Int) : Bool := decide ((rd .ape (ranAs A id) (atA A id)).Ran ≥ (rd .ape (ranAs A id) (atA A id)).C)
def noCur (x : Fu.World) : Fu.World := bif atA x.A x.Cur == -1 then { x with Cur := -1 } else x
/-- Somebody runs: how the world is then, and what became of it. -/
def ranWho (x : Fu.World) (c : Int × Int) : Fu.World × Int := bif c.1 == 1 || c.1 == 3 then (ranTask x c.2, stepF (rd .task x.T (idxT x.T c.2)).J) else
  bif c.1 == 2 then (bif doneB x.A c.2 then ({ x with A := (ranAs x.A c.2).eraseIdx (atA x.A c.2).toNat }, 1) else ({ x with A := ranAs x.A c.2 }, 0)) else (x, 0)
def ranW (x : Fu.World) (c : Int × Int) : Fu.World × Int := (noCur (ranWho x c).1, (ranWho x c).2)
def fin3 (x : XTk) (y : Fu.World) (f : Int) : Tree (Ex × St) := .asrt ((y.A.length : Int) < 17592186044416) (.ite (atA y.A y.Cur == -1) (.ret (.normal, S3k (x.1, { y with Cur := -1 }, x.2.2) f)) (.ret (.normal, S3k (x.1, y, x.2.2) f)))
def apeAt (x : Fu.World) (id : Int) : Prop := 0 ≤ atA x.A id ∧ atA x.A id < x.A.length
def apeAt' (x : Fu.World) (id : Int) : Prop := 0 ≤ atA x.A id ∧ atA x.A id < (ranAs x.A id).length
def taskAt (x : Fu.World) (id : Int) : Prop := 0 ≤ idxT x.T id ∧ idxT x.T id < x.T.length
def t3Tk (x : XTk) : Tree (Ex × St) := .asrt (smallW x.2.1) (.ite (x.2.2.2.2.1 == 1 || x.2.2.2.2.1 == 3)
  (.asrt (taskAt x.2.1 x.2.2.2.2.2) (.asrt (taskAt x.2.1 x.2.2.2.2.2) (.asrt (smallC (rd .task x.2.1.T (idxT x.2.1.T x.2.2.2.2.2)).J) (.asrt (taskAt x.2.1 x.2.2.2.2.2) (.asrt (taskAt x.2.1 x.2.2.2.2.2) (fin3 x (ranTask x.2.1 x.2.2.2.2.2) (stepF (rd .task x.2.1.T (idxT x.2.1.T x.2.2.2.2.2)).J)))))))
  (.ite (x.2.2.2.2.1 == 2) (.asrt (apeAt x.2.1 x.2.2.2.2.2) (.asrt (apeAt x.2.1 x.2.2.2.2.2) (.asrt (apeAt x.2.1 x.2.2.2.2.2) (.asrt (apeAt x.2.1 x.2.2.2.2.2) (.asrt (apeAt' x.2.1 x.2.2.2.2.2) (.asrt (apeAt' x.2.1 x.2.2.2.2.2) (.asrt (apeAt' x.2.1 x.2.2.2.2.2) (.asrt (apeAt' x.2.1 x.2.2.2.2.2)
    (.ite (doneB x.2.1.A x.2.2.2.2.2) (.asrt (49 = 49 ∧ apeAt' x.2.1 x.2.2.2.2.2 ∧ IntKind.i64.wrap (atA x.2.1.A x.2.2.2.2.2 + 1) = atA x.2.1.A x.2.2.2.2.2 + 1) (fin3 x { x.2.1 with A := (ranAs x.2.1.A x.2.2.2.2.2).eraseIdx (atA x.2.1.A x.2.2.2.2.2).toNat } 1))
      (fin3 x { x.2.1 with A := ranAs x.2.1.A x.2.2.2.2.2 } 0)))))))))) (fin3 x x.2.1 0)))
theorem s1Tick (w : Fu.World) (d : List Int) : stA c128 100 12 5 f1Tk [.agg (encW w), .view (.int .i64) d] =
  .asrt (smallW w) (.ite (!mayW w || w.Now == 274877906944) (.asrt (boundLT w.T) (.asrt (boundLA w.A) (.ret (.ret, ⟨puts (J 80) [(0, .agg (encW w)), (1, .view (.int .i64) d), (2, .ptr 0 0), (4, .ptr 1 0), (5, .ptr 2 0), (6, .blit false), (16, .bool (bif !mayW w then mayW w else mayW w)), (17, .bool (bif !mayW w then !mayW w else !mayW w)), (18, .bool !mayW w), (22, .blit true), (23, .ptr 0 1), (24, .view .task w.T), (25, .own 19), (26, .ptr 0 2), (27, .view .ape w.A), (28, .own 83), (29, .ptr 0 1), (30, .ptr 0 2), (31, .agg [.int .i64 w.Now, .own 19, .own 83, .int .i64 w.Cur]), (32, .agg traceZ)],
      [(0, .cells [.int .i64 w.Now, .own 19, .own 83, .int .i64 w.Cur]), (1, .cells [.int .i64 w.Now, .own 19, .own 83, .int .i64 w.Cur]), (2, .cells traceZ), (19, .rows .task 47 w.T), (83, .rows .ape 49 w.A)], 84⟩))))
    (.asrt (smallW w) (.asrt (okWho (startW w d)) (.asrt ((w.A.length : Int) < 17592186044416 ∧ ((pickW (startW w d)).2.length : Int) < 17592186044416) (.ret (.normal, S1k (w, leftW w d, (beginW w d).2, (pickW (startW w d)).2, whoW (startW w d)))))))) := by kernel_rfl
theorem s2Tick (x : XTk) : stM c128 100 12 5 1 f2Tk (S1k x) =
  .asrt (smallW x.2.1) (.ite (x.2.2.2.2.1 == 1 || x.2.2.2.2.1 == 3) (.ret (.normal, S1k x)) (.ite (x.2.2.2.2.1 == 2) (.ret (.normal, S1k (x.1, { x.2.1 with Cur := x.2.2.2.2.2 }, x.2.2))) (.ret (.normal, S1k x)))) := by kernel_rfl
theorem s3Tick (x : XTk) : stM c128 100 12 6 1 f3Tk (S1k x) = t3Tk x := by kernel_rfl
def laterW (x : Fu.World) : Fu.World := ⟨IntKind.i64.wrap (x.Now + 1), x.T, x.A, x.Cur⟩
def resTk (at' : Int) (c : Int × Int) (f : Int) (o g : List Int) (y : Fu.World) (m : List Int) : AV × List Blk := (.tup [.agg [.int .i64 y.Now, .own 2, .own 3, .int .i64 y.Cur], .agg [.int .i64 at', .int .i64 c.1, .int .i64 c.2, .int .i64 f, .own 0, .own 4, .own 1], .blit true], [.rows (.int .i64) 3 o, .rows (.int .i64) 3 g, .rows .task 47 y.T, .rows .ape 49 y.A, .rows (.int .i64) 3 m])
theorem s4Tick (x : XTk) (f : Int) : stB c128 100 12 7 (S3k x f) = .asrt (smallW (laterW x.2.1)) (.ret (resTk x.1.Now x.2.2.2.2 f x.2.2.1 x.2.2.2.1 (endW (laterW x.2.1)) (missedW (laterW x.2.1)))) := by kernel_rfl
def zTick (w : Fu.World) : AV × List Blk := (.tup [.agg [.int .i64 w.Now, .own 0, .own 1, .int .i64 w.Cur], .agg traceZ, .blit false], [.rows .task 47 w.T, .rows .ape 49 w.A])
theorem s0Tick (w : Fu.World) (d : List Int) : stF c128 12 (.ret, ⟨puts (J 80) [(0, .agg (encW w)), (1, .view (.int .i64) d), (2, .ptr 0 0), (4, .ptr 1 0), (5, .ptr 2 0), (6, .blit false), (16, .bool (bif !mayW w then mayW w else mayW w)), (17, .bool (bif !mayW w then !mayW w else !mayW w)), (18, .bool !mayW w), (22, .blit true), (23, .ptr 0 1), (24, .view .task w.T), (25, .own 19), (26, .ptr 0 2), (27, .view .ape w.A), (28, .own 83), (29, .ptr 0 1), (30, .ptr 0 2), (31, .agg [.int .i64 w.Now, .own 19, .own 83, .int .i64 w.Cur]), (32, .agg traceZ)],
      [(0, .cells [.int .i64 w.Now, .own 19, .own 83, .int .i64 w.Cur]), (1, .cells [.int .i64 w.Now, .own 19, .own 83, .int .i64 w.Cur]), (2, .cells traceZ), (19, .rows .task 47 w.T), (83, .rows .ape 49 w.A)], 84⟩) = .ret (zTick w) := by kernel_rfl
theorem fin3_out {x : XTk} {y : Fu.World} {f : Int} (h : (y.A.length : Int) < 17592186044416) : (fin3 x y f).Out (.normal, S3k (x.1, noCur y, x.2.2) f) := by
  refine ⟨h, ?_⟩
  unfold noCur
  cases hb : (atA y.A y.Cur == -1) with
  | true => exact (Tree.out_ite_true rfl).2 rfl
  | false => exact (Tree.out_ite_false rfl).2 rfl
theorem ranAs_len (A : List Fu.Ape) (id : Int) : (ranAs A id).length = A.length := by simp [ranAs, upd]
/-- What is asked of a world in which somebody runs. -/
def ranOK (x : Fu.World) (c : Int × Int) : Prop := smallW x ∧ (c.1 = 1 ∨ c.1 = 3 → taskAt x c.2 ∧ smallC (rd .task x.T (idxT x.T c.2)).J) ∧ (c.1 = 2 → apeAt x c.2)
theorem t3_out {x : XTk} (h : ranOK x.2.1 x.2.2.2.2) : (t3Tk x).Out (.normal, S3k (x.1, (ranW x.2.1 x.2.2.2.2).1, x.2.2) (ranW x.2.1 x.2.2.2.2).2) := by
  obtain ⟨⟨h1, h2⟩, h3, h4⟩ := h
  refine ⟨⟨h1, h2⟩, ?_⟩
  unfold ranW ranWho
  cases hb : (x.2.2.2.2.1 == 1 || x.2.2.2.2.1 == 3) with
  | true =>
    obtain ⟨k1, k2⟩ := h3 (by simpa using hb)
    exact (Tree.out_ite_true rfl).2 ⟨k1, k1, k2, k1, k1, fin3_out (by show (x.2.1.A.length : Int) < _; omega)⟩
  | false =>
    refine (Tree.out_ite_false rfl).2 ?_
    cases hc : (x.2.2.2.2.1 == 2) with
    | true =>
      have k1 := h4 (by simpa using hc)
      have k2 : apeAt' x.2.1 x.2.2.2.2.2 := ⟨k1.1, by rw [ranAs_len]; exact k1.2⟩
      refine (Tree.out_ite_true rfl).2 ⟨k1, k1, k1, k1, k2, k2, k2, k2, ?_⟩
      have hl := ranAs_len x.2.1.A x.2.2.2.2.2
      simp only [cond_false, cond_true]
      cases hd : doneB x.2.1.A x.2.2.2.2.2 with
      | true =>
        obtain ⟨q1, q2⟩ := k1
        refine (Tree.out_ite_true rfl).2 ⟨⟨by trivial, k2, wrap_fits (by omega) (by omega)⟩, fin3_out ?_⟩
        have := List.length_eraseIdx_le (ranAs x.2.1.A x.2.2.2.2.2) (atA x.2.1.A x.2.2.2.2.2).toNat
        show (((ranAs x.2.1.A x.2.2.2.2.2).eraseIdx _).length : Int) < _
        omega
      | false =>
        refine (Tree.out_ite_false rfl).2 (fin3_out ?_)
        show ((ranAs x.2.1.A x.2.2.2.2.2).length : Int) < _
        omega
    | false => exact (Tree.out_ite_false rfl).2 (fin3_out (by omega))
theorem s2_out {x : XTk} (h : smallW x.2.1) : Gets (stM c128 100 12 5 1 f2Tk (S1k x)) (.normal, S1k (x.1, curW x.2.1 x.2.2.2.2, x.2.2)) := by
  refine .of_eq (s2Tick x) ⟨h, ?_⟩
  unfold curW
  cases hb : (x.2.2.2.2.1 == 1 || x.2.2.2.2.1 == 3) with
  | true => exact (Tree.out_ite_true rfl).2 rfl
  | false =>
    refine (Tree.out_ite_false rfl).2 ?_
    cases hc : (x.2.2.2.2.1 == 2) with
    | true => exact (Tree.out_ite_true rfl).2 rfl
    | false => exact (Tree.out_ite_false rfl).2 rfl
/-- How the world is when somebody has run, and what became of it. -/
def midW (w : Fu.World) (d : List Int) : Fu.World × Int := ranW (curW (leftW w d) (whoW (startW w d))) (whoW (startW w d))
/-- One time later. -/
def tickW (w : Fu.World) (d : List Int) : Fu.World := endW (laterW (midW w d).1)
def tickM (w : Fu.World) (d : List Int) : List Int := missedW (laterW (midW w d).1)
def tickR (w : Fu.World) (d : List Int) : AV × List Blk := resTk w.Now (whoW (startW w d)) (midW w d).2 (beginW w d).2 (pickW (startW w d)).2 (tickW w d) (tickM w d)
def okTick (w : Fu.World) (d : List Int) : Prop := okWho (startW w d) ∧ ((pickW (startW w d)).2.length : Int) < 17592186044416 ∧ ranOK (curW (leftW w d) (whoW (startW w d))) (whoW (startW w d)) ∧ smallW (leftW w d) ∧ smallW (laterW (midW w d).1)
theorem callTick {w : Fu.World} {d : List Int} (h1 : smallW w) (hb : (!mayW w || w.Now == 274877906944) = false) (h2 : okTick w d) : Gets (callW c128 lTick 100 12 [.agg (encW w), .view (.int .i64) d]) (tickR w d) := by
  obtain ⟨k1, k2, k3, k4, k5⟩ := h2
  have q1 : Gets (stA c128 100 12 5 f1Tk [.agg (encW w), .view (.int .i64) d]) (.normal, S1k (w, leftW w d, (beginW w d).2, (pickW (startW w d)).2, whoW (startW w d))) :=
    .of_eq (s1Tick w d) ⟨h1, (Tree.out_ite_false hb).2 ⟨h1, k1, ⟨by have := h1.2; omega, k2⟩, rfl⟩⟩
  have q2 := s2_out (x := (w, leftW w d, (beginW w d).2, (pickW (startW w d)).2, whoW (startW w d))) k4
  have q3 : Gets (stM c128 100 12 6 1 f3Tk (S1k (w, curW (leftW w d) (whoW (startW w d)), (beginW w d).2, (pickW (startW w d)).2, whoW (startW w d)))) (.normal, S3k (w, (midW w d).1, (beginW w d).2, (pickW (startW w d)).2, whoW (startW w d)) (midW w d).2) :=
    .of_eq (s3Tick _) (t3_out (x := (w, curW (leftW w d) (whoW (startW w d)), (beginW w d).2, (pickW (startW w d)).2, whoW (startW w d))) k3)
  have q4 : Gets (stB c128 100 12 7 (S3k (w, (midW w d).1, (beginW w d).2, (pickW (startW w d)).2, whoW (startW w d)) (midW w d).2)) (tickR w d) :=
    .of_eq (s4Tick (w, (midW w d).1, (beginW w d).2, (pickW (startW w d)).2, whoW (startW w d)) (midW w d).2) ⟨k5, rfl⟩
  exact G_start (by kernel_rfl) q1 (G_next q2 (G_next q3 (G_last q4)))
theorem callTick0 {w : Fu.World} {d : List Int} (h1 : smallW w) (hb : (!mayW w || w.Now == 274877906944) = true) : Gets (callW c128 lTick 100 12 [.agg (encW w), .view (.int .i64) d]) (zTick w) := by
  have q2 : Gets _ _ := .of_eq (s0Tick w d) (show (Tree.ret (zTick w)).Out (zTick w) from rfl)
  refine G_early (by kernel_rfl) (.of_eq (s1Tick w d) ⟨h1, (Tree.out_ite_true hb).2 ⟨?_, ?_, rfl⟩⟩) q2
  · unfold boundLT; have := h1.1; omega
  · unfold boundLA; have := h1.2; omega
end Go.Fx
