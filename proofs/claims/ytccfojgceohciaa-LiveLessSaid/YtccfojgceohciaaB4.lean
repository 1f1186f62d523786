/- Contracts: descriptions, units. -/
import Derived.Test.YtccfojgceohciaaB3
import Derived.Test.YtccfojgceohciaaPlB
namespace Go.Fx
open Go Go.Proofs

/-! ### spec.May -/
theorem fSpecMay (s : Fu.Spec) : callC c10 100 61 [.agg (encSpec s)] =
  .ite (decide (s.C < 1)) noB (.ite (decide (s.C > 6)) noB (.ite (decide (s.T < s.C)) noB (.ite (decide (s.T > s.Max)) noB (.ite (decide (s.Max < 1)) noB (.ite (decide (s.Max > 48)) noB
   (.ite (decide (s.M < 1)) noB (.ite (decide (s.M > s.K)) noB (.ite (decide (s.K < 1)) noB (.ite (decide (s.K > 6)) noB (.ite (decide (s.E < 0)) noB (.ite (decide (s.E > 8)) noB
    (.ret (.bool (mayP s.M s.K && (decide (s.E > 0) || s.T == s.Max)), []))))))))))))) := by kernel_rfl
theorem noB_rez {b : Bool} (h : b = false) : Rez noB (.bool b, []) := .ret (.blit h.symm) rfl
theorem ite_rez {c : Bool} {t e : Tree (AV × List Blk)} {r : AV × List Blk} (h1 : c = true → Rez t r) (h2 : c = false → Rez e r) : Rez (.ite c t e) r := by
  cases c with
  | true => exact .itet rfl (h1 rfl)
  | false => exact .itee rfl (h2 rfl)
theorem retB {a b : Bool} (h : a = b) : Rez (.ret (.bool a, [])) (.bool b, []) := .ret (.eq (by rw [h])) rfl
theorem dnot {p q : Prop} [Decidable p] [Decidable q] (h : p → ¬ q) (hp : decide p = true) : decide q = false := decide_eq_false (h (of_decide_eq_true hp))
def conSpecMay : Con := plainCon (d1 dSpec) fun s => .bool (mayS s)
theorem specMay_rez (s : Fu.Spec) : ∃ t, callC c10 100 61 [.agg (encSpec s)] = t ∧ Rez t (.bool (mayS s), []) := by
  refine ⟨_, fSpecMay s, ?_⟩
  unfold mayS
  refine ite_rez (fun h => noB_rez (dnot (fun h => by unfold SpecOK; omega) h)) fun h1 => ite_rez (fun h => noB_rez (dnot (fun h => by unfold SpecOK; omega) h)) fun h2 => ite_rez (fun h => noB_rez (dnot (fun h => by unfold SpecOK; omega) h)) fun h3 =>
    ite_rez (fun h => noB_rez (dnot (fun h => by unfold SpecOK; omega) h)) fun h4 => ite_rez (fun h => noB_rez (dnot (fun h => by unfold SpecOK; omega) h)) fun h5 => ite_rez (fun h => noB_rez (dnot (fun h => by unfold SpecOK; omega) h)) fun h6 =>
    ite_rez (fun h => noB_rez (dnot (fun h => by unfold SpecOK; omega) h)) fun h7 => ite_rez (fun h => noB_rez (dnot (fun h => by unfold SpecOK; omega) h)) fun h8 => ite_rez (fun h => noB_rez (dnot (fun h => by unfold SpecOK; omega) h)) fun h9 =>
    ite_rez (fun h => noB_rez (dnot (fun h => by unfold SpecOK; omega) h)) fun h10 => ite_rez (fun h => noB_rez (dnot (fun h => by unfold SpecOK; omega) h)) fun h11 => ite_rez (fun h => noB_rez (dnot (fun h => by unfold SpecOK; omega) h)) fun h12 => retB ?_
  simp only [decide_eq_false_iff_not] at h1 h2 h3 h4 h5 h6 h7 h8 h9 h10 h11 h12
  rw [Bool.eq_iff_iff]
  simp only [mayP, Bool.and_eq_true, Bool.or_eq_true, decide_eq_true_eq, beq_iff_eq]
  unfold SpecOK
  omega
theorem conSpecMay_valid : ValidCon c10.P 61 conSpecMay := plainCon_valid c10_good 100 (by kernel_rfl) fun s => specMay_rez s
noncomputable def c11 : Cfg := c10.addQuiet 61 conSpecMay
theorem c11_good : GoodCfg c11 := c10_good.addQuiet conSpecMay_valid plainCon_quiet
/-! ### fuseeref05.May -/
theorem fRSpecMay (s : Fu.Spec) : callC c11 100 62 [.agg (encSpec s)] = .ret (.bool (decide (s.C ≥ 1) && (decide (s.C ≤ 6) && (decide (s.T ≥ s.C) && (decide (s.Max ≥ s.T) && (decide (s.Max ≤ 48) && (mayP s.M s.K && (decide (s.E ≥ 0) && (decide (s.E ≤ 8) && (s.E != 0 || s.T == s.Max))))))))), []) := by kernel_rfl
theorem conRSpecMay_valid : ValidCon c11.P 62 conSpecMay := plainCon_valid c11_good 100 (by kernel_rfl) fun s => ⟨_, fRSpecMay s, retB (by
  unfold mayS
  rw [Bool.eq_iff_iff]
  simp only [mayP, Bool.and_eq_true, Bool.or_eq_true, decide_eq_true_eq, beq_iff_eq, bne_iff_ne, ne_eq]
  unfold SpecOK
  omega)⟩
noncomputable def c12 : Cfg := c11.addQuiet 62 conSpecMay
theorem c12_good : GoodCfg c12 := c11_good.addQuiet conRSpecMay_valid plainCon_quiet
end Go.Fx
