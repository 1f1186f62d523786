import Derived.Test.YtdpcphkhkhdbnaaR4
import Derived.Test.YtdpcphkhkhdbnaaPlR
/- The law ReleaseEnds. -/
namespace Go.Fx
open Go Go.Proofs

/-! ### near -/
abbrev ANr := Fu.World × Bool
def TNr (x : ANr × Int) : St := ⟨puts (J 158) [(1, .ptr 0 0), (3, .bool x.1.2), (4, .int .i64 x.2)], [(0, .cells (encW x.1.1))], 1⟩
def sNr : List Sh := sets (Js 158) [(1, .keep), (3, .bool), (4, .int)]
def eNr : List Sh := sets (Js 158) [(1, .keep), (3, .bool)]
def ENr (x : ANr) : Ex × St := (.exit 0, ⟨puts (J 158) [(1, .ptr 0 0), (3, .bool x.2)], [(0, .cells (encW x.1))], 1⟩)
def inR (a b : Int) : Bool := decide (a ≤ b) && decide (a ≥ -b)
def nT (t : Fu.Task) : Bool := decide (t.J.C ≤ 1000) && (decide (t.J.C ≥ -1000) && (decide (t.J.D ≤ 1000) && (decide (t.J.D ≥ -1000) && (decide (t.J.Ran ≤ 1000) && (decide (t.J.Ran ≥ -1000) && (decide (t.Next ≤ 1099511627776) && (decide (t.Next ≥ -1099511627776) && (decide (t.At ≤ 1125899906842624) && (decide (t.At ≥ -1125899906842624) && (decide (t.N ≤ 1125899906842624) && decide (t.N ≥ -1125899906842624)))))))))))
theorem bNr (x : ANr) (i : Int) : roundN c93 60 22 (loopAt c93.P 22 3) (norm2 1 [] [0] sNr) (norm2 1 [] [0] eNr) (TNr (x, i)) =
    .ite (decide (i < x.1.T.length) && x.2) (.asrt (0 ≤ i ∧ i < x.1.T.length) (.ret (.normal, TNr ((x.1, nT (rd .task x.1.T i)), IntKind.i64.wrap (i + 1))))) (.ret (ENr x)) := by kernel_rfl
def gNr (σ : St) : Option (ANr × Int) :=
  match nth σ.tmps 3, nth σ.tmps 4, σ.heap with
  | .bool b, .int .i64 i, [(_, .cells [.int .i64 a, .view .task t, .view .ape q, .int .i64 c])] => some ((⟨a, t, q, c⟩, b), i)
  | _, _, _ => none
def LxNr (x : ANr × Int) : Tree (Ex × St) := .asrt (0 ≤ x.2 ∧ x.2 ≤ x.1.1.T.length ∧ (x.1.1.T.length : Int) < 17592186044416) (.ret (ENr (x.1.1, x.1.2 && (x.1.1.T.drop x.2.toNat).all nT)))
def LNr : LoopCon := entry 1 (norm2 1 [] [0] sNr) TNr gNr LxNr
theorem lNr (hs : SubOf c93.P 22 (.loop (loopAt c93.P 22 3))) : SoundLoop c93 (loopAt c93.P 22 3) LNr := by
  refine loop_rule3 (C := c93) (g := 22) (l := 3) c93_good 60 1 _ _ (Weak.norm2 1 [] [0] sNr) (Weak.norm2 1 [] [0] eNr) hs TNr LxNr (fun x => (x.1.1.T.length - x.2).toNat) (fun x q h => ?_) entry_out
  obtain ⟨⟨w, ok⟩, i⟩ := x
  obtain ⟨⟨h0, h1, h2⟩, h⟩ := Tree.out_asrt.1 h
  simp only at h0 h1 h2 h
  refine .of_eq (bNr (w, ok) i) ?_
  simp only
  rw [wrap_fits (n := i + 1) (by omega) (by omega)]
  refine Tree.wp_ite.2 ⟨fun hi => ?_, fun hi => ?_⟩
  · rw [Bool.and_eq_true, decide_eq_true_eq] at hi
    obtain ⟨hi, rfl⟩ := hi
    rw [drop_rd (r := .task) (xs := w.T) h0 hi, List.all_cons, Bool.true_and] at h
    exact ⟨⟨h0, hi⟩, Rnd.go (m := fun x : ANr × Int => (x.1.1.T.length - x.2).toNat) (x := ((w, true), i)) ((w, nT (rd .task w.T i)), i + 1) (by simp only; omega) (Tree.out_asrt.2 ⟨⟨by simp only; omega, by simp only; omega, h2⟩, h⟩)⟩
  · rw [Bool.and_eq_false_iff, decide_eq_false_iff_not] at hi
    have e : (ok && (w.T.drop i.toNat).all nT) = ok := by
      rcases hi with hi | hi
      · rw [drop_end (xs := w.T) (by omega)]; simp
      · rw [hi]; rfl
    rw [e] at h
    exact Rnd.out h
noncomputable def c94 : Cfg := c93.addLoop 22 3 LNr
theorem c94_good : GoodCfg c94 := c93_good.addLoop (by unfold OneLoop; kernel_rfl) lNr
def TNa (x : ANr × Int) : St := ⟨puts (J 158) [(1, .ptr 0 0), (3, .bool x.1.2), (7, .int .i64 x.2)], [(0, .cells (encW x.1.1))], 1⟩
def sNa : List Sh := sets (Js 158) [(1, .keep), (3, .bool), (7, .int)]
def eNa : List Sh := sets (Js 158) [(3, .bool)]
def ENa (b : Bool) : Ex × St := (.exit 2, ⟨puts (J 158) [(3, .bool b)], [], 1⟩)
def nA (a : Fu.Ape) : Bool := decide (a.Due ≤ 1125899906842624) && (decide (a.Due ≥ -1125899906842624) && (decide (a.C ≤ 1125899906842624) && (decide (a.C ≥ -1125899906842624) && (decide (a.Ran ≤ 1125899906842624) && (decide (a.Ran ≥ -1125899906842624) && (decide (a.ID ≤ 1125899906842624) && decide (a.ID ≥ -1125899906842624)))))))
theorem bNa (x : ANr) (i : Int) : roundN c94 60 22 (loopAt c94.P 22 9) (norm2 1 [] [0] sNa) (norm2 1 [] [] eNa) (TNa (x, i)) =
    .ite (decide (i < x.1.A.length) && x.2) (.asrt (0 ≤ i ∧ i < x.1.A.length) (.ret (.normal, TNa ((x.1, nA (rd .ape x.1.A i)), IntKind.i64.wrap (i + 1))))) (.ret (ENa x.2)) := by kernel_rfl
def gNa (σ : St) : Option (ANr × Int) :=
  match nth σ.tmps 3, nth σ.tmps 7, σ.heap with
  | .bool b, .int .i64 i, [(_, .cells [.int .i64 a, .view .task t, .view .ape q, .int .i64 c])] => some ((⟨a, t, q, c⟩, b), i)
  | _, _, _ => none
def LxNa (x : ANr × Int) : Tree (Ex × St) := .asrt (0 ≤ x.2 ∧ x.2 ≤ x.1.1.A.length ∧ (x.1.1.A.length : Int) < 17592186044416) (.ret (ENa (x.1.2 && (x.1.1.A.drop x.2.toNat).all nA)))
def LNa : LoopCon := entry 1 (norm2 1 [] [0] sNa) TNa gNa LxNa
theorem lNa (hs : SubOf c94.P 22 (.loop (loopAt c94.P 22 9))) : SoundLoop c94 (loopAt c94.P 22 9) LNa := by
  refine loop_rule3 (C := c94) (g := 22) (l := 9) c94_good 60 1 _ _ (Weak.norm2 1 [] [0] sNa) (Weak.norm2 1 [] [] eNa) hs TNa LxNa (fun x => (x.1.1.A.length - x.2).toNat) (fun x q h => ?_) entry_out
  obtain ⟨⟨w, ok⟩, i⟩ := x
  obtain ⟨⟨h0, h1, h2⟩, h⟩ := Tree.out_asrt.1 h
  simp only at h0 h1 h2 h
  refine .of_eq (bNa (w, ok) i) ?_
  simp only
  rw [wrap_fits (n := i + 1) (by omega) (by omega)]
  refine Tree.wp_ite.2 ⟨fun hi => ?_, fun hi => ?_⟩
  · rw [Bool.and_eq_true, decide_eq_true_eq] at hi
    obtain ⟨hi, rfl⟩ := hi
    rw [drop_rd (r := .ape) (xs := w.A) h0 hi, List.all_cons, Bool.true_and] at h
    exact ⟨⟨h0, hi⟩, Rnd.go (m := fun x : ANr × Int => (x.1.1.A.length - x.2).toNat) (x := ((w, true), i)) ((w, nA (rd .ape w.A i)), i + 1) (by simp only; omega) (Tree.out_asrt.2 ⟨⟨by simp only; omega, by simp only; omega, h2⟩, h⟩)⟩
  · rw [Bool.and_eq_false_iff, decide_eq_false_iff_not] at hi
    have e : (ok && (w.A.drop i.toNat).all nA) = ok := by
      rcases hi with hi | hi
      · rw [drop_end (xs := w.A) (by omega)]; simp
      · rw [hi]; rfl
    rw [e] at h
    exact Rnd.out h
noncomputable def c95 : Cfg := c94.addLoop 22 9 LNa
theorem c95_good : GoodCfg c95 := c94_good.addLoop (by unfold OneLoop; kernel_rfl) lNa
def n0W (w : Fu.World) : Bool := decide ((w.T.length : Int) ≤ 10) && (decide ((w.A.length : Int) ≤ 10) && (decide (w.Now ≤ 1125899906842624) && decide (w.Now ≥ -1125899906842624)))
def nearW (w : Fu.World) : Bool := (n0W w && (w.T.drop (0 : Int).toNat).all nT) && (w.A.drop (0 : Int).toNat).all nA
def nearWT (w : Fu.World) : Tree (AV × List Blk) := .asrt (1 = 1 ∧ TNr ((w, n0W w), 0) = TNr ((w, n0W w), 0)) (.asrt (0 ≤ (0 : Int) ∧ (0 : Int) ≤ w.T.length ∧ (w.T.length : Int) < 17592186044416)
  (.asrt (1 = 1 ∧ TNa ((w, n0W w && (w.T.drop (0 : Int).toNat).all nT), 0) = TNa ((w, n0W w && (w.T.drop (0 : Int).toNat).all nT), 0)) (.asrt (0 ≤ (0 : Int) ∧ (0 : Int) ≤ w.A.length ∧ (w.A.length : Int) < 17592186044416) (.ret (.bool (nearW w), [])))))
theorem fNearW (w : Fu.World) : callC c95 60 22 [.agg (encW w)] = nearWT w := by kernel_rfl
def conNearW : Con := flatCon (d1 dWorld) smallW fun w => .bool (nearW w)
theorem conNearW_valid : ValidCon c95.P 22 conNearW := flatCon_valid c95_good 60 (by kernel_rfl) fun w h => ⟨_, fNearW w, by
  obtain ⟨h1, h2⟩ := h
  exact .asrt ⟨rfl, rfl⟩ (.asrt ⟨Int.le_refl _, by omega, by omega⟩ (.asrt ⟨rfl, rfl⟩ (.asrt ⟨Int.le_refl _, by omega, by omega⟩ (.ret (.refl _) rfl))))⟩
noncomputable def c96 : Cfg := c95.addQuiet 22 conNearW
theorem c96_good : GoodCfg c96 := c95_good.addQuiet conNearW_valid flatCon_quiet
/-! ### ReleaseEnds -/
abbrev ARe := Fu.World × List Fu.Task × List Int
def hRe (x : ARe) : Heap := [(0, .cells (encW x.1)), (1, .rows .task 39 x.2.1), (2, .rows .ape 63 x.1.A), (3, .rows (.int .i64) 3 x.2.2), (4, .cells [.int .i64 x.1.Now, .own 1, .own 2, .int .i64 x.1.Cur])]
def TRe (x : ARe × Int × Int) : St := ⟨puts (J 166) [(1, .ptr 0 0), (5, .ptr 4 0), (6, .own 3), (7, .int .i64 x.2.1), (8, .int .i64 x.2.2)], hRe x.1, 5⟩
def sRe : List Sh := sets (Js 166) [(1, .keep), (5, .keep), (6, .keep), (7, .int), (8, .int)]
def rRe : List Sh := sets (Js 166) [(2, .keep)]
def xRe : List Sh := sets (Js 166) [(5, .keep), (6, .keep), (7, .int)]
def fRe (σ : St) : St := norm2 5 [] [0, 1, 2, 3, 4] sRe σ
def eRe (σ : St) : St := outE 5 2 [] [1, 2, 3, 4] rRe xRe σ
def RRe (b : Bool) : Ex × St := (.ret, (⟨puts (J 166) [(2, .blit b)], [], 5⟩ : St))
def ERe (x : ARe) (n : Int) : Ex × St := (.exit 0, ⟨puts (J 166) [(5, .ptr 4 0), (6, .own 3), (7, .int .i64 n)], (hRe x).keep [1, 2, 3, 4], 5⟩)
def lateT (now : Int) (t : Fu.Task) : Bool := t.J.On && decide (t.J.Due ≤ now)
def badU (now : Int) (t u : Fu.Task) : Bool := bif lateT now t == u.J.On then t.J.On || (!lateT now t && !eqTaskB u t) else !lateT now t && !eqTaskB u t
def endTail (P Q : Prop) (now : Int) (t u : Fu.Task) (n : Tree (Ex × St)) : Tree (Ex × St) := .asrt Q (.asrt Q (.asrt ((lateT now t == u.J.On) = true → P) (.asrt ((lateT now t == u.J.On) = true → t.J.On = false → (!lateT now t) = true → Q) (.asrt ((lateT now t == u.J.On) = true → t.J.On = false → (!lateT now t) = true → Q) (.asrt ((lateT now t == u.J.On) = true → t.J.On = false → (!lateT now t) = true → P)
  (.asrt ((lateT now t == u.J.On) = false → (!lateT now t) = true → Q) (.asrt ((lateT now t == u.J.On) = false → (!lateT now t) = true → Q) (.asrt ((lateT now t == u.J.On) = false → (!lateT now t) = true → P) (.ite (badU now t u) (.ret (RRe false)) n)))))))))
def rTree (x : ARe) (n i : Int) : Tree (Ex × St) := 
    .ite (decide (i < x.1.T.length)) (.asrt (0 ≤ i ∧ i < x.1.T.length) (.asrt ((rd .task x.1.T i).J.On = true → 0 ≤ i ∧ i < x.1.T.length) (.asrt (lateT x.1.Now (rd .task x.1.T i) = true → 0 ≤ i ∧ i < x.1.T.length) (.ite (lateT x.1.Now (rd .task x.1.T i) && (rd .task x.1.T i).J.Mand)
      (.asrt (decide (n ≥ (x.2.2.length : Int)) = false → 0 ≤ n ∧ n < (x.2.2.length : Int)) (.asrt (decide (n ≥ (x.2.2.length : Int)) = false → 0 ≤ n ∧ n < (x.2.2.length : Int)) (.asrt (decide (n ≥ (x.2.2.length : Int)) = false → 0 ≤ i ∧ i < x.1.T.length) (.ite (decide (n ≥ (x.2.2.length : Int)) || rd (.int .i64) x.2.2 n != (rd .task x.1.T i).ID) (.ret (RRe false))
        (endTail (0 ≤ i ∧ i < x.1.T.length) (0 ≤ i ∧ i < x.2.1.length) x.1.Now (rd .task x.1.T i) (rd .task x.2.1 i) (.ret (.normal, TRe (x, IntKind.i64.wrap (n + 1), IntKind.i64.wrap (i + 1)))))))))
      (endTail (0 ≤ i ∧ i < x.1.T.length) (0 ≤ i ∧ i < x.2.1.length) x.1.Now (rd .task x.1.T i) (rd .task x.2.1 i) (.ret (.normal, TRe (x, n, IntKind.i64.wrap (i + 1))))))))) (.ret (ERe x n))
theorem bRe (x : ARe) (n i : Int) : roundN c96 60 7 (loopAt c96.P 7 10) fRe eRe (TRe (x, n, i)) = rTree x n i := by kernel_rfl
def gRe (σ : St) : Option (ARe × Int × Int) :=
  match nth σ.tmps 7, nth σ.tmps 8, σ.heap with
  | .int .i64 n, .int .i64 i, [(_, .cells [.int .i64 a, .view .task t, .view .ape q, .int .i64 c]), (_, .rows .task _ T), _, (_, .rows (.int .i64) _ o), _] => some ((⟨a, t, q, c⟩, T, o), n, i)
  | _, _, _ => none
def lateIDs (now : Int) (l : List Fu.Task) : List Int := (l.filter (lateM now)).map (·.ID)
def InvRe (x : ARe × Int × Int) : Prop := (0 ≤ x.2.2 ∧ x.2.2 ≤ x.1.1.T.length ∧ (x.1.1.T.length : Int) < 17592186044416) ∧ x.1.2.1 = x.1.1.T.map (fun t => endK t x.1.1.Now) ∧ (0 ≤ x.2.1 ∧ x.2.1 ≤ x.1.2.2.length ∧ (x.1.2.2.length : Int) < 17592186044416) ∧ x.1.2.2.drop x.2.1.toNat = lateIDs x.1.1.Now (x.1.1.T.drop x.2.2.toNat)
def LxRe (x : ARe × Int × Int) : Tree (Ex × St) := .asrt (InvRe x) (.ret (ERe x.1 x.1.2.2.length))
def LRe : LoopCon := entry 5 fRe TRe gRe LxRe
theorem badU_end (now : Int) (t : Fu.Task) : badU now t (endK t now) = false := by
  obtain ⟨_, h2, h3⟩ := overJ_end t now
  have e : lateT now t = overJ t.J now := rfl
  unfold badU
  cases ho : overJ t.J now with
  | true =>
    rw [e, ho, h3 ho]; rfl
  | false =>
    rw [e, ho, h2 ho, eqTaskB_eq]
    cases t.J.On <;> simp
theorem endTail_wp {P Q : Prop} {now : Int} {t : Fu.Task} {n : Tree (Ex × St)} {R : Ex × St → Prop} (hP : P) (hQ : Q) (h : n.wp R) : (endTail P Q now t (endK t now) n).wp R := by
  unfold endTail
  rw [badU_end]
  exact ⟨hQ, hQ, fun _ => hP, fun _ _ _ => hQ, fun _ _ _ => hQ, fun _ _ _ => hP, fun _ _ => hQ, fun _ _ => hQ, fun _ _ => hP, Tree.wp_ite.2 ⟨fun hb => (by cases hb), fun _ => h⟩⟩
theorem rd_mapE (now : Int) {T : List Fu.Task} {i : Int} (h0 : 0 ≤ i) (h1 : i < T.length) : rd .task (T.map fun t => endK t now) i = endK (rd .task T i) now := by
  have hlt : i.toNat < T.length := by omega
  simp [rd, hlt]
theorem lRe (hs : SubOf c96.P 7 (.loop (loopAt c96.P 7 10))) : SoundLoop c96 (loopAt c96.P 7 10) LRe := by
  refine loop_rule3 (C := c96) (g := 7) (l := 10) c96_good 60 5 _ _ (Weak.norm2 5 [] [0, 1, 2, 3, 4] sRe) (weak_outE 5 2 [] [1, 2, 3, 4] rRe xRe) hs TRe LxRe (fun x => (x.1.1.T.length - x.2.2).toNat) (fun x q h => ?_) entry_out
  obtain ⟨⟨w, T, o⟩, n, i⟩ := x
  obtain ⟨⟨⟨h0, h1, hl⟩, hT, ⟨h2, h3, h9⟩, h4⟩, h⟩ := Tree.out_asrt.1 h
  simp only at h0 h1 hl hT h2 h3 h4 h9 h
  subst hT
  have h' : ERe (w, w.T.map (fun t => endK t w.Now), o) o.length = q := h
  refine .of_eq (bRe (w, w.T.map (fun t => endK t w.Now), o) n i) ?_
  unfold rTree
  simp only
  rw [wrap_fits (n := i + 1) (by omega) (by omega), wrap_fits (n := n + 1) (by omega) (by omega)]
  refine Tree.wp_ite.2 ⟨fun hi => ?_, fun hi => ?_⟩
  · have hi : i < (w.T.length : Int) := of_decide_eq_true hi
    have a0 : 0 ≤ i ∧ i < (w.T.length : Int) := ⟨h0, hi⟩
    have a1 : 0 ≤ i ∧ i < ((w.T.map fun t => endK t w.Now).length : Int) := by rw [List.length_map]; exact a0
    rw [drop_rd (r := .task) (xs := w.T) h0 hi] at h4
    have el : lateM w.Now (rd .task w.T i) = (lateT w.Now (rd .task w.T i) && (rd .task w.T i).J.Mand) := lateM_eq _ _
    unfold lateIDs at h4
    rw [List.filter_cons, el] at h4
    rw [rd_mapE w.Now h0 hi]
    refine ⟨a0, fun _ => a0, fun _ => a0, Tree.wp_ite.2 ⟨fun hb => ?_, fun hb => ?_⟩⟩
    · rw [if_pos hb, List.map_cons] at h4
      have hno : n < (o.length : Int) := by
        rcases Int.lt_or_le n o.length with hlt | hge
        · exact hlt
        · rw [drop_end (xs := o) (by omega)] at h4; cases h4
      have h4' : rd (.int .i64) o n :: o.drop (n + 1).toNat = (rd .task w.T i).ID :: _ := (drop_rd (r := .int .i64) (xs := o) h2 hno).symm.trans h4
      rw [List.cons.injEq] at h4'
      refine ⟨fun _ => ⟨h2, hno⟩, fun _ => ⟨h2, hno⟩, fun _ => a0, Tree.wp_ite.2 ⟨fun hc => ?_, fun _ => ?_⟩⟩
      · rw [h4'.1, decide_eq_false (by omega)] at hc
        simp at hc
      · refine endTail_wp a0 a1 ?_
        exact Rnd.go (m := fun x : ARe × Int × Int => (x.1.1.T.length - x.2.2).toNat) (x := ((w, w.T.map (fun t => endK t w.Now), o), n, i)) ((w, w.T.map (fun t => endK t w.Now), o), n + 1, i + 1) (by simp only; omega) (Tree.out_asrt.2 ⟨⟨⟨by simp only; omega, by simp only; omega, hl⟩, rfl, ⟨by simp only; omega, by simp only; omega, h9⟩, h4'.2⟩, h⟩)
    · rw [hb, if_neg (by simp)] at h4
      refine endTail_wp a0 a1 ?_
      exact Rnd.go (m := fun x : ARe × Int × Int => (x.1.1.T.length - x.2.2).toNat) (x := ((w, w.T.map (fun t => endK t w.Now), o), n, i)) ((w, w.T.map (fun t => endK t w.Now), o), n, i + 1) (by simp only; omega) (Tree.out_asrt.2 ⟨⟨⟨by simp only; omega, by simp only; omega, hl⟩, rfl, ⟨h2, h3, h9⟩, h4⟩, h⟩)
  · have hi : ¬ i < (w.T.length : Int) := of_decide_eq_false hi
    rw [drop_end (xs := w.T) (by omega)] at h4
    have h4 : o.drop n.toNat = [] := h4
    have : o.length ≤ n.toNat := by simpa using h4
    have e : (o.length : Int) = n := by omega
    rw [e] at h
    exact Rnd.out h
noncomputable def c97 : Cfg := c96.addLoop 7 10 LRe
theorem c97_good : GoodCfg c97 := c96_good.addLoop (by unfold OneLoop; kernel_rfl) lRe
def reT (w : Fu.World) : Tree (AV × List Blk) :=
  .asrt (smallW w) (.ite (!nearW w) (.ret (.blit true, [])) (.asrt (smallW w) (.ite (((endW w).T.length : Int) != w.T.length || (w.Now != w.Now || (w.Cur != w.Cur || (w.A.length : Int) != w.A.length))) (.ret (.blit false, []))
    (.asrt (5 = 5 ∧ TRe ((w, (endW w).T, missedW w), 0, 0) = TRe ((w, (endW w).T, missedW w), 0, 0)) (.asrt (InvRe ((w, (endW w).T, missedW w), 0, 0)) (.asrt (smallW (endW w)) (.asrt (((missedW w).length : Int) == (missedW w).length → (((missedW (endW w)).length : Int) == 0) = true → smallW (endW w))
      (.ret (.bool (((missedW w).length : Int) == (missedW w).length && ((((missedW (endW w)).length : Int) == 0) && decide (endW w = endW (endW w)))), [])))))))))
theorem fRe17 (w : Fu.World) : callC c97 60 7 [.agg (encW w)] = reT w := by kernel_rfl
theorem reT_tru {w : Fu.World} (h : smallW w) : Tru (reT w) := by
  obtain ⟨h1, h2⟩ := h
  have hl : (endW w).T.length = w.T.length := by unfold endW; simp
  have he : smallW (endW w) := ⟨by rw [hl]; exact h1, h2⟩
  have hm : (missedW w).length ≤ w.T.length := by
    unfold missedW
    rw [List.length_map]
    exact List.length_filter_le _ _
  obtain ⟨k1, k2⟩ := end_again w
  refine .asrt ⟨h1, h2⟩ (.ite (fun _ => .yes) fun _ => .asrt ⟨h1, h2⟩ (.ite (fun hb => ?_) fun _ => .asrt ⟨rfl, rfl⟩ (.asrt ⟨⟨Int.le_refl _, by simp, by simp only; omega⟩, rfl, ⟨Int.le_refl _, by simp, by simp only; omega⟩, rfl⟩ (.asrt he (.asrt (fun _ _ => he) (.of ?_))))))
  · rw [hl] at hb
    simp at hb
  · rw [k1, k2]
    simp
theorem conRe_valid : ValidCon c97.P 7 (lawCon good1W) := lawCon_of (n := 60) c97_good (by kernel_rfl) fun args ⟨w, h1, h2⟩ => by
  subst h1
  exact ⟨_, fRe17 w, reT_tru h2⟩
end Go.Fx
