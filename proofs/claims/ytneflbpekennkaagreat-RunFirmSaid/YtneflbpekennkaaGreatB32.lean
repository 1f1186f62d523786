import Derived.Test.YtneflbpekennkaaGreatB31
/- Contracts: jobs begin in a world. -/
namespace Go.Fx
open Go Go.Proofs Go.RowKit

/-! ### release.Begin: the jobs -/
abbrev PBg := (Int × List Fu.Ape × Int) × List Int × List (Int × Bool)
abbrev ABg := List Fu.Task × PBg
def ownB (p : PBg) : List AV := [.int .i64 p.1.1, .own 20, .own 84, .int .i64 p.1.2.2]
def TBg (x : Int × ABg × Int) : St := ⟨puts (J 75) [(1, .view (.int .i64) x.2.1.2.2.1), (2, .ptr 0 0), (4, .ptr 1 0), (6, .map 85), (24, .own 20), (25, .int .i64 x.1), (26, .int .i64 x.2.2)], [(0, .cells (ownB x.2.1.2)), (1, .cells zeroWA), (20, .rows .task 47 x.2.1.1), (84, .rows .ape 49 x.2.1.2.1.2.1), (85, .imap .bool x.2.1.2.2.2)], 86⟩
def sBg : List Sh := sets (Js 75) [(1, .keep), (2, .keep), (4, .keep), (6, .keep), (24, .keep), (25, .int), (26, .int)]
def eBg : List Sh := sets (Js 75) [(1, .keep), (2, .keep), (4, .keep), (6, .keep)]
def EBg (x : ABg) : Ex × St := (.exit 0, ⟨puts (J 75) [(1, .view (.int .i64) x.2.2.1), (2, .ptr 0 0), (4, .ptr 1 0), (6, .map 85)], [(0, .cells (ownB x.2)), (1, .cells zeroWA), (20, .rows .task 47 x.1), (84, .rows .ape 49 x.2.1.2.1), (85, .imap .bool x.2.2.2)], 86⟩)
def begD (p : PBg) (t : Fu.Task) : Bool := begOK t p.1.1 (lastD t p.2.1)
def fBeg1 (p : PBg) (t : Fu.Task) : Fu.Task := begK t p.1.1 (lastD t p.2.1)
def gBeg1 (p : PBg) (t : Fu.Task) : PBg := bif begD p t then (p.1, p.2.1.tail, mput p.2.2 t.ID true) else p
theorem bBg (N : Int) (x : ABg) (i : Int) : roundN c80 90 14 (loopAt c80.P 14 6) (norm2 86 [] [0, 1, 20, 84, 85] sBg) (norm2 86 [] [0, 1, 20, 84, 85] eBg) (TBg (N, x, i)) =
    .ite (decide (i < N)) (.asrt (0 ≤ i ∧ i < x.1.length) (.asrt (0 ≤ i ∧ i < x.1.length) (.ite (begD x.2 (rd .task x.1 i))
      (.asrt (0 ≤ i ∧ i < x.1.length) (.asrt (0 ≤ i ∧ i < x.1.length) (.ret (.normal, TBg (N, (upd .task x.1 i (fBeg1 x.2 (rd .task x.1 i)), (x.2.1, x.2.2.1.tail, mput x.2.2.2 (rd .task x.1 i).ID true)), IntKind.i64.wrap (i + 1))))))
      (.ret (.normal, TBg (N, x, IntKind.i64.wrap (i + 1))))))) (.ret (EBg x)) := by kernel_rfl
def gBg (σ : St) : Option (Int × ABg × Int) :=
  match nth σ.tmps 1, nth σ.tmps 25, nth σ.tmps 26, σ.heap with
  | .view (.int .i64) d, .int .i64 N, .int .i64 i, [(_, .cells [.int .i64 a, _, _, .int .i64 c]), _, (_, .rows .task _ T), (_, .rows .ape _ A), (_, .imap .bool es)] => some (N, (T, ((a, A, c), d, es)), i)
  | _, _, _, _ => none
def okBeg1 (_ : PBg) (_ : Fu.Task) : Prop := True
def LBg : LoopCon := countF 86 (norm2 86 [] [0, 1, 20, 84, 85] sBg) TBg gBg (okM (r := .task) okBeg1) (nxtM (r := .task) fBeg1 gBeg1) EBg
theorem lBg (hs : SubOf c80.P 14 (.loop (loopAt c80.P 14 6))) : SoundLoop c80 (loopAt c80.P 14 6) LBg :=
  count_fold (C := c80) (g := 14) (l := 6) c80_good 90 86 _ _ (Weak.norm2 86 [] [0, 1, 20, 84, 85] sBg) (Weak.norm2 86 [] [0, 1, 20, 84, 85] eBg) hs TBg gBg (okM (r := .task) okBeg1) (nxtM (r := .task) fBeg1 gBeg1) EBg (fun _ => by intro h; cases h)
    (fun N x i h0 hi hm hok => .of_eq (bBg N x i) (by
      unfold maxI64 at hm
      rw [wrap_fits (n := i + 1) (by omega) (by omega)]
      have a : 0 ≤ i ∧ i < (x.1.length : Int) := ⟨h0, hok.1⟩
      refine (Tree.out_ite_true (decide_eq_true hi)).2 ⟨a, a, ?_⟩
      unfold nxtM gBeg1
      cases h : begD x.2 (rd .task x.1 i) with
      | true => exact (Tree.out_ite_true rfl).2 ⟨a, a, rfl⟩
      | false =>
        have e : fBeg1 x.2 (rd .task x.1 i) = rd .task x.1 i := by
          unfold fBeg1 begK
          unfold begD at h
          rw [h]; rfl
        rw [e, upd_self a.1 a.2]
        exact (Tree.out_ite_false rfl).2 rfl))
    (fun N x i hi => .of_eq (bBg N x i) ((Tree.out_ite_false (decide_eq_false (by omega))).2 rfl))
noncomputable def c81 : Cfg := c80.addLoop 14 6 LBg
theorem c81_good : GoodCfg c81 := c80_good.addLoop (by unfold OneLoop; kernel_rfl) lBg
abbrev PBh := (Int × List Fu.Ape × Int) × List (Int × Bool) × List Int
abbrev ABh := List Fu.Task × PBh
def ownH (p : PBh) : List AV := [.int .i64 p.1.1, .own 20, .own 84, .int .i64 p.1.2.2]
def heapH (x : ABh) : Heap := [(0, .cells (ownH x.2)), (1, .cells zeroWA), (20, .rows .task 47 x.1), (84, .rows .ape 49 x.2.1.2.1), (85, .imap .bool x.2.2.1), (86, .rows (.int .i64) 3 x.2.2.2)]
def TBh (x : Int × ABh × Int) : St := ⟨puts (J 75) [(2, .ptr 0 0), (4, .ptr 1 0), (6, .map 85), (13, .own 86), (57, .own 20), (58, .int .i64 x.1), (59, .int .i64 x.2.2)], heapH x.2.1, 87⟩
def sBh : List Sh := sets (Js 75) [(2, .keep), (4, .keep), (6, .keep), (13, .keep), (57, .keep), (58, .int), (59, .int)]
def eBh : List Sh := sets (Js 75) [(2, .keep), (4, .keep), (13, .keep)]
def fBh (ss : List Sh) (σ : St) : St := norm2 86 [.tmp 13] [0, 1, 20, 84, 85, 86] ss (ownSlot 13 (.int .i64) 3 σ)
theorem weak_fBh (ss : List Sh) (σ : St) : Weak 86 σ (fBh ss σ) := (Weak.ownSlot 86 13 (.int .i64) 3 σ).trans (Weak.norm2 86 [.tmp 13] [0, 1, 20, 84, 85, 86] ss _)
def EBh (x : ABh) : Ex × St := (.exit 2, ⟨puts (J 75) [(2, .ptr 0 0), (4, .ptr 1 0), (13, .own 86)], heapH x, 87⟩)
def hadB (es : List (Int × Bool)) (t : Fu.Task) : Bool := (mget es t.ID).getD false
theorem bBh (N : Int) (x : ABh) (i : Int) : roundN c81 90 14 (loopAt c81.P 14 16) (fBh sBh) (fBh eBh) (TBh (N, x, i)) =
    .ite (decide (i < N)) (.asrt (0 ≤ i ∧ i < x.1.length) (.asrt (0 ≤ i ∧ i < x.1.length) (.ite (hadB x.2.2.1 (rd .task x.1 i))
      (.asrt ((x.2.2.2 ++ [(rd .task x.1 i).ID]).length * 8 ≤ 140737488355328) (.ret (.normal, TBh (N, (x.1, x.2.1, x.2.2.1, x.2.2.2 ++ [(rd .task x.1 i).ID]), IntKind.i64.wrap (i + 1)))))
      (.ret (.normal, TBh (N, x, IntKind.i64.wrap (i + 1))))))) (.ret (EBh x)) := by kernel_rfl
def gBh (σ : St) : Option (Int × ABh × Int) :=
  match nth σ.tmps 58, nth σ.tmps 59, σ.heap with
  | .int .i64 N, .int .i64 i, [(_, .cells [.int .i64 a, _, _, .int .i64 c]), _, (_, .rows .task _ T), (_, .rows .ape _ A), (_, .imap .bool es), (_, .rows (.int .i64) _ o)] => some (N, (T, (a, A, c), es, o), i)
  | _, _, _ => none
def nxtBh (x : ABh) (i : Int) : ABh := (x.1, x.2.1, x.2.2.1, bif hadB x.2.2.1 (rd .task x.1 i) then x.2.2.2 ++ [(rd .task x.1 i).ID] else x.2.2.2)
def okBh (x : ABh) (i : Int) : Prop := i < x.1.length ∧ (x.2.2.2.length + 1) * 8 ≤ 140737488355328
def LBh : LoopCon := countF 86 (fBh sBh) TBh gBh okBh nxtBh EBh
theorem lBh (hs : SubOf c81.P 14 (.loop (loopAt c81.P 14 16))) : SoundLoop c81 (loopAt c81.P 14 16) LBh :=
  count_fold (C := c81) (g := 14) (l := 16) c81_good 90 86 _ _ (weak_fBh sBh) (weak_fBh eBh) hs TBh gBh okBh nxtBh EBh (fun _ => by intro h; cases h)
    (fun N x i h0 hi hm hok => .of_eq (bBh N x i) (by
      unfold maxI64 at hm
      rw [wrap_fits (n := i + 1) (by omega) (by omega)]
      have a : 0 ≤ i ∧ i < (x.1.length : Int) := ⟨h0, hok.1⟩
      refine (Tree.out_ite_true (decide_eq_true hi)).2 ⟨a, a, ?_⟩
      unfold nxtBh
      cases h : hadB x.2.2.1 (rd .task x.1 i) with
      | true => exact (Tree.out_ite_true rfl).2 ⟨by rw [List.length_append]; exact hok.2, rfl⟩
      | false => exact (Tree.out_ite_false rfl).2 rfl))
    (fun N x i hi => .of_eq (bBh N x i) ((Tree.out_ite_false (decide_eq_false (by omega))).2 rfl))
noncomputable def c82 : Cfg := c81.addLoop 14 16 LBh
theorem c82_good : GoodCfg c82 := c81_good.addLoop (by unfold OneLoop; kernel_rfl) lBh
/-- Jobs begin: the tasks then, and whose. -/
def begTs (now : Int) : List Int → List Fu.Task → List Fu.Task × List Int
  | _, [] => ([], [])
  | d, t :: l => bif begOK t now (lastD t d) then (begT t now (lastD t d) :: (begTs now d.tail l).1, t.ID :: (begTs now d.tail l).2) else (t :: (begTs now d l).1, (begTs now d l).2)
def beginW (w : Fu.World) (d : List Int) : Fu.World × List Int := bif mayW w then ({ w with T := (begTs w.Now d w.T).1 }, (begTs w.Now d w.T).2) else (w, [])
def begIn (w : Fu.World) (d : List Int) : ABg := (w.T, ((w.Now, w.A, w.Cur), d, []))
def begA1 (w : Fu.World) (d : List Int) : ABg := foldI (nxtM (r := .task) fBeg1 gBeg1) ((w.T.length : Int) - 0).toNat (begIn w d) 0
def begHi (x : ABg) : ABh := (x.1, x.2.1, x.2.2.2, [])
def begH2 (x : ABg) : ABh := foldI nxtBh ((x.1.length : Int) - 0).toNat (begHi x) 0
def nilW (w : Fu.World) : AV × List Blk := (.tup [.agg [.int .i64 w.Now, .own 0, .own 1, .int .i64 w.Cur], .nils], [.rows .task 47 w.T, .rows .ape 49 w.A])
def begHT (x : ABg) : Tree (AV × List Blk) := .asrt (86 = 86 ∧ TBh ((x.1.length : Int), begHi x, 0) = TBh ((x.1.length : Int), begHi x, 0)) (.asrt (0 ≤ (0 : Int) ∧ (x.1.length : Int) ≤ maxI64 ∧ okI nxtBh (fun _ _ => (none : Option Unit)) okBh ((x.1.length : Int) - 0).toNat (begHi x) 0)
  (.ret (resW (begH2 x).2.1.1 (begH2 x).1 (begH2 x).2.1.2.1 (begH2 x).2.1.2.2 (begH2 x).2.2.2)))
def begWT (w : Fu.World) (d : List Int) : Tree (AV × List Blk) := .asrt (boundLT w.T) (.asrt (boundLA w.A) (.asrt (smallW w) (.ite (!mayW w) (.ret (nilW w)) (.asrt (86 = 86 ∧ TBg ((w.T.length : Int), begIn w d, 0) = TBg ((w.T.length : Int), begIn w d, 0))
  (.asrt (0 ≤ (0 : Int) ∧ (w.T.length : Int) ≤ maxI64 ∧ okI (nxtM (r := .task) fBeg1 gBeg1) (fun _ _ => (none : Option Unit)) (okM (r := .task) okBeg1) ((w.T.length : Int) - 0).toNat (begIn w d) 0) (begHT (begA1 w d)))))))
theorem fRelBegin (w : Fu.World) (d : List Int) : callC c82 90 14 [.agg (encW w), .view (.int .i64) d] = begWT w d := by kernel_rfl
theorem mget_mput {α : Type} (k : Int) (v : α) (j : Int) : ∀ es : List (Int × α), mget (mput es k v) j = if j = k then some v else mget es j
  | [] => by unfold mput; simp only [mget]; split <;> split <;> first | rfl | (exfalso; omega)
  | (i, x) :: es => by
    unfold mput
    by_cases h : i = k
    · subst h
      rw [if_pos rfl]
      simp only [mget]
      split <;> split <;> first | rfl | (exfalso; omega)
    · rw [if_neg h]
      simp only [mget]
      rw [mget_mput k v j es]
      split <;> split <;> first | rfl | (exfalso; omega)
theorem had_put (es : List (Int × Bool)) (k : Int) (t : Fu.Task) : hadB (mput es k true) t = (hadB es t || decide (t.ID = k)) := by
  unfold hadB
  rw [mget_mput]
  by_cases h : t.ID = k
  · simp [h]
  · simp [h]
theorem accBeg (q : Int × List Fu.Ape × Int) : ∀ (l : List Fu.Task) (d : List Int) (es : List (Int × Bool)), (accM (r := .task) fBeg1 gBeg1 (q, d, es) l).1 = (begTs q.1 d l).1 ∧ (accM (r := .task) fBeg1 gBeg1 (q, d, es) l).2.1 = q ∧
    ∀ t, hadB (accM (r := .task) fBeg1 gBeg1 (q, d, es) l).2.2.2 t = (hadB es t || decide (t.ID ∈ (begTs q.1 d l).2))
  | [], d, es => ⟨rfl, rfl, fun t => by simp [begTs, accM]⟩
  | y :: l, d, es => by
    unfold accM begTs
    have e : gBeg1 (q, d, es) y = bif begOK y q.1 (lastD y d) then (q, d.tail, mput es y.ID true) else (q, d, es) := rfl
    have ef : fBeg1 (q, d, es) y = bif begOK y q.1 (lastD y d) then begT y q.1 (lastD y d) else y := rfl
    rw [e, ef]
    simp only
    cases begOK y q.1 (lastD y d) with
    | true =>
      obtain ⟨h1, h2, h3⟩ := accBeg q l d.tail (mput es y.ID true)
      simp only [cond_true]
      refine ⟨by rw [h1], h2, fun t => ?_⟩
      rw [h3, had_put, Bool.or_assoc]
      congr 1
      rw [Bool.eq_iff_iff]
      simp [List.mem_cons]
    | false =>
      obtain ⟨h1, h2, h3⟩ := accBeg q l d es
      simp only [cond_false]
      exact ⟨by rw [h1], h2, h3⟩
theorem okBeg (p : PBg) : ∀ (l : List Fu.Task), okAcc (r := .task) gBeg1 okBeg1 p l
  | [] => trivial
  | _ :: l => ⟨trivial, okBeg _ l⟩
theorem begTs_len (now : Int) : ∀ (l : List Fu.Task) (d : List Int), (begTs now d l).1.length = l.length
  | [], _ => rfl
  | y :: l, d => by
    unfold begTs
    cases begOK y now (lastD y d) with
    | true => simp only [cond_true, List.length_cons, begTs_len now l]
    | false => simp only [cond_false, List.length_cons, begTs_len now l]
theorem begTs_sub (now : Int) : ∀ (l : List Fu.Task) (d : List Int) (k : Int), k ∈ (begTs now d l).2 → k ∈ l.map (·.ID)
  | [], _, _, h => by simp [begTs] at h
  | y :: l, d, k, h => by
    unfold begTs at h
    rw [List.map_cons, List.mem_cons]
    cases hb : begOK y now (lastD y d) with
    | true =>
      rw [hb] at h
      simp only [cond_true, List.mem_cons] at h
      exact h.imp id (begTs_sub now l _ k)
    | false =>
      rw [hb] at h
      exact .inr (begTs_sub now l _ k h)
theorem begTs_ids (now : Int) (f : Fu.Task → Bool) : ∀ (l : List Fu.Task) (d : List Int), (l.map (·.ID)).Nodup → (∀ t, t.ID ∈ l.map (·.ID) → f t = decide (t.ID ∈ (begTs now d l).2)) → ((begTs now d l).1.filter f).map (·.ID) = (begTs now d l).2
  | [], _, _, _ => rfl
  | y :: l, d, hn, h => by
    rw [List.map_cons, List.nodup_cons] at hn
    unfold begTs at h ⊢
    cases hb : begOK y now (lastD y d) with
    | true =>
      rw [hb] at h
      simp only [cond_true] at h ⊢
      have h1 : f (begT y now (lastD y d)) = true := by
        rw [h _ (by simp [begT])]
        simp [begT]
      rw [List.filter_cons_of_pos h1, List.map_cons]
      congr 1
      refine begTs_ids now f l d.tail hn.2 fun t ht => ?_
      rw [h t (List.mem_cons_of_mem _ ht)]
      have : t.ID ≠ y.ID := fun e => hn.1 (e ▸ ht)
      simp [this]
    | false =>
      rw [hb] at h
      simp only [cond_false] at h ⊢
      have h1 : f y = false := by
        rw [h y (by simp)]
        rw [decide_eq_false_iff_not]
        exact fun hm => hn.1 (begTs_sub now l d _ hm)
      rw [List.filter_cons_of_neg (by simp [h1])]
      exact begTs_ids now f l d hn.2 fun t ht => h t (List.mem_cons_of_mem _ ht)
theorem ascT_lt : ∀ (l : List Fu.Task) (t : Fu.Task), ascT (t :: l) = true → ∀ u ∈ l, t.ID < u.ID
  | [], _, _, _, hu => by cases hu
  | v :: l, t, h, u, hu => by
    have h' : (decide (t.ID < v.ID) && ascT (v :: l)) = true := h
    rw [Bool.and_eq_true, decide_eq_true_eq] at h'
    rcases List.mem_cons.1 hu with rfl | hu
    · exact h'.1
    · have := ascT_lt l v h'.2 u hu; omega
theorem ascT_tail {t : Fu.Task} {l : List Fu.Task} (h : ascT (t :: l) = true) : ascT l = true := by
  cases l with
  | nil => rfl
  | cons v l =>
    have h' : (decide (t.ID < v.ID) && ascT (v :: l)) = true := h
    rw [Bool.and_eq_true] at h'
    exact h'.2
theorem ascT_nodup : ∀ (l : List Fu.Task), ascT l = true → (l.map (·.ID)).Nodup
  | [], _ => by simp
  | t :: l, h => by
    rw [List.map_cons, List.nodup_cons]
    refine ⟨fun hm => ?_, ascT_nodup l (ascT_tail h)⟩
    obtain ⟨u, hu, e⟩ := List.mem_map.1 hm
    have := ascT_lt l t h u hu
    omega
theorem mayW_asc {w : Fu.World} (h : mayW w = true) : ascT w.T = true := by
  unfold mayW at h
  simp only [Bool.and_eq_true] at h
  exact h.2.1.2
theorem foldBh {T : List Fu.Task} {q : Int × List Fu.Ape × Int} {es : List (Int × Bool)} (hl : (T.length : Int) * 8 ≤ 140737488355328) (k : Nat) : ∀ (out : List Int) (i : Int), 0 ≤ i → i + k = T.length → out.length + k ≤ T.length →
    foldI nxtBh k (T, q, es, out) i = (T, q, es, out ++ ((T.drop i.toNat).filter (hadB es)).map (·.ID)) ∧ okI nxtBh (fun _ _ => (none : Option Unit)) okBh k (T, q, es, out) i := by
  induction k with
  | zero =>
    intro out i h0 h1 h2
    rw [drop_end (by omega)]
    exact ⟨by simp [foldI], trivial⟩
  | succ k ih =>
    intro out i h0 h1 h2
    have hd := drop_rd (r := .task) (xs := T) h0 (by omega)
    have hok : okBh (T, q, es, out) i := by show i < (T.length : Int) ∧ (out.length + 1) * 8 ≤ 140737488355328; omega
    have e : nxtBh (T, q, es, out) i = (T, q, es, bif hadB es (rd .task T i) then out ++ [(rd .task T i).ID] else out) := rfl
    have hlen : (bif hadB es (rd .task T i) then out ++ [(rd .task T i).ID] else out).length + k ≤ T.length := by
      cases hadB es (rd .task T i) with
      | true => simp only [cond_true, List.length_append, List.length_cons, List.length_nil]; omega
      | false => simp only [cond_false]; omega
    obtain ⟨k1, k2⟩ := ih (bif hadB es (rd .task T i) then out ++ [(rd .task T i).ID] else out) (i + 1) (by omega) (by omega) hlen
    refine ⟨?_, hok, fun _ => by rw [e]; exact k2⟩
    unfold foldI
    rw [e]
    refine k1.trans ?_
    rw [hd, List.filter_cons]
    cases hadB es (rd .task T i) with
    | true => simp
    | false => simp
theorem begWT_rez {w : Fu.World} {d : List Int} (h : smallW w) : Rez (begWT w d) (bif mayW w then resW w.Now (beginW w d).1.T w.A w.Cur (beginW w d).2 else nilW w) := by
  obtain ⟨h1, h2⟩ := h
  refine .asrt (by unfold boundLT; omega) (.asrt (by unfold boundLA; omega) (.asrt ⟨h1, h2⟩ ?_))
  cases hm : mayW w with
  | false => exact .itet rfl (.ret (.refl _) rfl)
  | true =>
    obtain ⟨k1, k2⟩ := foldAcc (r := .task) (f := fBeg1) (g := gBeg1) (okE := okBeg1) w.T [] ((w.Now, w.A, w.Cur), d, []) (okBeg _ _)
    have e : ((w.T.length : Int) - 0).toNat = w.T.length := by omega
    refine .itee rfl (.asrt ⟨rfl, rfl⟩ (.asrt ⟨Int.le_refl _, by unfold maxI64; omega, by rw [e]; exact k2⟩ ?_))
    have k1' : begA1 w d = ([] ++ (accM (r := .task) fBeg1 gBeg1 ((w.Now, w.A, w.Cur), d, []) w.T).1, (accM (r := .task) fBeg1 gBeg1 ((w.Now, w.A, w.Cur), d, []) w.T).2) := by unfold begA1; rw [e]; exact k1
    obtain ⟨a1, a2, a3⟩ := accBeg (w.Now, w.A, w.Cur) w.T d []
    have l1 := begTs_len w.Now w.T d
    generalize begA1 w d = x at k1' ⊢
    obtain ⟨xT, xq, xd, xes⟩ := x
    rw [List.nil_append, Prod.mk.injEq] at k1'
    obtain ⟨e1, e2⟩ := k1'
    rw [← e2] at a2 a3
    rw [a1] at e1
    simp only at e1 a2 a3
    subst e1; subst a2
    obtain ⟨f1, f2⟩ := foldBh (T := (begTs w.Now d w.T).1) (q := (w.Now, w.A, w.Cur)) (es := xes) (by rw [l1]; omega) (((begTs w.Now d w.T).1.length : Int) - 0).toNat [] 0 (Int.le_refl _) (by omega) (by simp)
    have f3 := begTs_ids w.Now (hadB xes) w.T d (ascT_nodup _ (mayW_asc hm)) fun t _ => by rw [a3]; rfl
    rw [show (0 : Int).toNat = 0 from rfl, List.drop_zero, List.nil_append, f3] at f1
    refine .asrt ⟨rfl, rfl⟩ (.asrt ⟨Int.le_refl _, by unfold maxI64; simp only [l1]; omega, f2⟩ ?_)
    have f1' : begH2 ((begTs w.Now d w.T).1, (w.Now, w.A, w.Cur), xd, xes) = ((begTs w.Now d w.T).1, (w.Now, w.A, w.Cur), xes, (begTs w.Now d w.T).2) := f1
    rw [f1']
    refine .ret ?_ ?_
    · exact .refl _
    · simp only [beginW, hm, cond_true]
def conBegin0 : Con := resCon (d2 dWorld (dView (.int .i64))) (fun x => smallW x.1) fun x => bif mayW x.1 then resW x.1.Now (beginW x.1 x.2).1.T x.1.A x.1.Cur (beginW x.1 x.2).2 else nilW x.1
theorem conBegin0_valid : ValidCon c82.P 14 conBegin0 := resCon_valid c82_good 90 (by kernel_rfl) fun x h => ⟨_, fRelBegin x.1 x.2, begWT_rez h⟩
def conRBegin : Con := resCon (d2 dWorld (dView (.int .i64))) (fun x => smallW x.1) fun x => resW x.1.Now (beginW x.1 x.2).1.T x.1.A x.1.Cur (beginW x.1 x.2).2
theorem conRBegin_valid : ValidCon c82.P 14 conRBegin := conBegin0_valid.nilTail fun args r hr => by
  unfold conRBegin resCon at hr
  unfold conBegin0 resCon
  split at hr
  · rename_i x hx
    obtain ⟨h1, h2⟩ := hr
    cases hm : mayW x.1 with
    | true => exact .inl ⟨_, .refl _, h1, by simp only [hm, cond_true]; exact h2⟩
    | false =>
      refine .inr ⟨.agg [.int .i64 x.1.Now, .own 0, .own 1, .int .i64 x.1.Cur], (nilW x.1).2, .int .i64, 3, ?_, h1, ?_⟩
      · rw [← h2]
        have e : beginW x.1 x.2 = (x.1, []) := by unfold beginW; rw [hm]; rfl
        show resW x.1.Now (beginW x.1 x.2).1.T x.1.A x.1.Cur (beginW x.1 x.2).2 = _
        rw [e]
        rfl
      · simp only [hm, cond_false]; rfl
  · exact hr.elim
noncomputable def c83 : Cfg := c82.addCon 14 conRBegin
theorem c83_good : GoodCfg c83 := c82_good.addCon conRBegin_valid (by kernel_rfl)
end Go.Fx
