/- The wire seat's functions of the document's answer: may. -/
import Derived.Test.YtinlnjoapcpmaaaW17
namespace Go.Fx
open Go Go.Proofs

/-! ### fuseeref16.May -/
def mT (ok : Bool) (rest : Fu.Op) : Tree (AV × List Blk) := .asrt ((rest.D.length : Int) < 9223372036854775807) (.ret (.bool (ok && decide (rest = zeroOp)), []))
def mayT (o : Fu.Op) : Tree (AV × List Blk) :=
  .ite (o.Kind == 0) (mT (smallB o.S.C 255 && (smallB o.S.T 255 && (smallB o.S.Max 255 && (smallB o.S.M 255 && (smallB o.S.K 255 && smallB o.S.E 255))))) { o with Kind := 0, S := ⟨0, 0, 0, 0, 0, 0⟩ })
  (.ite (o.Kind == 1) (mT (smallB o.ID 65535 && (smallB o.T 255 && smallB o.Max 255)) { o with Kind := 0, ID := 0, T := 0, Max := 0 })
  (.ite (o.Kind == 2) (mT (smallB o.ID 65535) { o with Kind := 0, ID := 0 })
  (.ite (o.Kind == 3) (mT (smallB o.Within 255 && (smallB o.C 255 && smallB o.V 65535)) { o with Kind := 0, Within := 0, C := 0, V := 0 })
  (.ite (o.Kind == 4) (.asrt (2 = 2 ∧ T21 o (decide ((o.D.length : Int) ≤ 4)) 0 = T21 o (decide ((o.D.length : Int) ≤ 4)) 0 ∧ (0 : Int) = 0 ∧ o.D = o.D ∧ (o.D.length : Int) < maxI64) (mT (decide ((o.D.length : Int) ≤ 4) && o.D.all in20) { o with Kind := 0, D := [] }))
    (.asrt ((o.D.length : Int) < 9223372036854775807) (.ret (.blit false, [])))))))
theorem f21 (o : Fu.Op) : callC w36 100 21 [opAV o] = mayT o := by kernel_rfl
theorem smallB_255 (n : Int) : smallB n 255 = !badF n 1 := by rw [badF1, Bool.not_not]; rfl
theorem smallB_65535 (n : Int) : smallB n 65535 = !badF n 2 := by rw [badF2, Bool.not_not]; rfl
theorem in20_all (l : List Int) : l.all in20 = !l.any odd := by
  induction l with
  | nil => rfl
  | cons d l ih =>
    rw [List.all_cons, List.any_cons, ih, Bool.not_or]
    congr 1
    unfold in20 odd
    rw [Bool.eq_iff_iff]
    simp only [Bool.and_eq_true, decide_eq_true_eq, Bool.not_eq_true', Bool.or_eq_false_iff, decide_eq_false_iff_not]
    omega
theorem mT_rez {ok : Bool} {rest : Fu.Op} {b : Bool} (h : (rest.D.length : Int) < 9223372036854775807) (e : (ok && decide (rest = zeroOp)) = b) : Rez (mT ok rest) (.bool b, []) := .asrt h (.ret (.eq (by rw [e])) rfl)
theorem mayT_rez (o : Fu.Op) (h : (o.D.length : Int) < 9223372036854775807) : Rez (mayT o) (.bool (mayOp o), []) := by
  obtain ⟨k, id, ⟨c, t, mx, m, kk, e⟩, t', mx', wi, c', v, d⟩ := o
  unfold mayT
  simp only at h ⊢
  by_cases h0 : k = 0
  · subst h0
    refine Rez.itet (by rfl) (mT_rez h ?_)
    simp only [mayOp, hasOf, endB, if_true, List.all_cons, List.all_nil, Bool.and_true, smallB_255, zeroOp, Fu.Op.mk.injEq, true_and, Fu.Spec.mk.injEq]
    by_cases hd : d = []
    · subst hd; simp
    · simp [hd]
  refine Rez.itee (by simp [h0]) ?_
  by_cases h1 : k = 1
  · subst h1
    refine Rez.itet (by rfl) (mT_rez h ?_)
    simp only [mayOp, hasOf, endB, if_true, if_neg h0, List.all_cons, List.all_nil, Bool.and_true, smallB_255, smallB_65535, zeroOp, Fu.Op.mk.injEq, true_and, Fu.Spec.mk.injEq]
    by_cases hd : d = []
    · subst hd; simp
    · simp [hd]
  refine Rez.itee (by simp [h1]) ?_
  by_cases h2 : k = 2
  · subst h2
    refine Rez.itet (by rfl) (mT_rez h ?_)
    simp only [mayOp, hasOf, endB, if_true, if_neg h0, if_neg h1, List.all_cons, List.all_nil, Bool.and_true, smallB_65535, zeroOp, Fu.Op.mk.injEq, true_and, Fu.Spec.mk.injEq]
    by_cases hd : d = []
    · subst hd; simp
    · simp [hd]
  refine Rez.itee (by simp [h2]) ?_
  by_cases h3 : k = 3
  · subst h3
    refine Rez.itet (by rfl) (mT_rez h ?_)
    simp only [mayOp, hasOf, endB, if_true, if_neg h0, if_neg h1, if_neg h2, List.all_cons, List.all_nil, Bool.and_true, smallB_255, smallB_65535, zeroOp, Fu.Op.mk.injEq, true_and, Fu.Spec.mk.injEq]
    by_cases hd : d = []
    · subst hd; simp
    · simp [hd]
  refine Rez.itee (by simp [h3]) ?_
  by_cases h4 : k = 4
  · subst h4
    refine Rez.itet (by rfl) (.asrt ⟨trivial, trivial, trivial, trivial, h⟩ (mT_rez (by simp) ?_))
    simp only [mayOp, hasOf, endB, if_true, if_neg h0, if_neg h1, if_neg h2, if_neg h3, List.all_nil, in20_all, zeroOp, Fu.Op.mk.injEq, true_and, Fu.Spec.mk.injEq, and_true, Bool.true_and]
    simp [Bool.and_comm, Bool.and_left_comm]
  refine Rez.itee (by simp [h4]) (.asrt h (.ret (.blit ?_) rfl))
  simp only [mayOp, hasOf, endB, if_neg h0, if_neg h1, if_neg h2, if_neg h3, if_neg h4]
  by_cases hd : d = []
  · subst hd; simp; omega
  · simp [hd]
def small63 (o : Fu.Op) : Prop := (o.D.length : Int) < 9223372036854775807
def con21 : Con := flatCon (d1 dOp) small63 fun o => .bool (mayOp o)
theorem con21_valid : ValidCon w36.P 21 con21 := flatCon_valid w36_good 100 (by kernel_rfl) fun o h => ⟨_, f21 o, mayT_rez o h⟩
noncomputable def w37 : Cfg := w36.addQuiet 21 con21
theorem w37_good : GoodCfg w37 := w36_good.addQuiet con21_valid flatCon_quiet

end Go.Fx
