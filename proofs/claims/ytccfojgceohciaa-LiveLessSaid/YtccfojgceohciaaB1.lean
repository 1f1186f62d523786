/- Contracts: quotients. -/
import Derived.Test.YtccfojgceohciaaB0
import Derived.Test.YtccfojgceohciaaPlA
namespace Go.Fx
open Go Go.Proofs

/-! ### frac.Ceil -/
def noCeil : Tree (AV × List Blk) := .ret (.tup [.lit .i64 0, .blit false], [])
theorem fCeil (a b : Int) : callC c0 60 51 [.int .i64 a, .int .i64 b] =
  .ite (decide (a ≥ 0) && decide (a ≤ 4611686018427387904)) (.ite (!(decide (b ≥ 1) && decide (b ≤ 4611686018427387904))) noCeil
    (.asrt (b ≠ 0) (.asrt (b ≠ 0) (.ret (.tup [.int .i64 (IntKind.i64.wrap (IntKind.i64.wrap (a.tdiv b) + minI (a.tmod b) 1)), .blit true], []))))) noCeil := by kernel_rfl
def conCeil : Con := plainCon (d2 dInt dInt) fun x => .tup [.int .i64 (ceilV x.1 x.2), .bool (ratioOK x.1 x.2)]
theorem noCeil_rez {a b : Int} (h : ratioOK a b = false) : Rez noCeil (.tup [.int .i64 (ceilV a b), .bool (ratioOK a b)], []) :=
  .ret (.tup (.cons (.lit (by simp [ceilV, h])) (.cons (.blit h.symm) .nil))) rfl
theorem conCeil_valid : ValidCon c0.P 51 conCeil := plainCon_valid c0_good 60 (by kernel_rfl) fun ⟨a, b⟩ => ⟨_, fCeil a b, by
  cases h1 : (decide (a ≥ 0) && decide (a ≤ 4611686018427387904)) with
  | false => exact .itee rfl (noCeil_rez (by unfold ratioOK; rw [h1]; rfl))
  | true =>
    refine .itet rfl ?_
    cases h2 : (decide (b ≥ 1) && decide (b ≤ 4611686018427387904)) with
    | false => exact .itet rfl (noCeil_rez (by unfold ratioOK; rw [h1, h2]; rfl))
    | true =>
      have hr : ratioOK a b = true := by unfold ratioOK; rw [h1, h2]; rfl
      obtain ⟨⟨h3, h4⟩, h5, h6⟩ := ratioOK_iff.1 hr
      refine .itee rfl (.asrt (by omega) (.asrt (by omega) (.ret (.tup (.cons (.eq ?_) (.cons (.blit hr.symm) .nil))) rfl)))
      have e1 : IntKind.i64.wrap (a.tdiv b) = a.tdiv b := by
        rw [Int.tdiv_eq_ediv_of_nonneg h3]
        have := Int.ediv_nonneg h3 (show 0 ≤ b by omega)
        have := Int.ediv_le_self b h3
        exact wrap_fits (by omega) (by omega)
      rw [e1, tdiv_up h3 (by omega), ceilV_of h3 h4 h5 h6]
      have := cdiv_nonneg (b := b) (by omega) h3
      have := cdiv_le_self (b := b) (by omega) h3
      rw [wrap_fits (by omega) (by omega)]⟩
noncomputable def c1 : Cfg := c0.addQuiet 51 conCeil
theorem c1_good : GoodCfg c1 := c0_good.addQuiet conCeil_valid plainCon_quiet

end Go.Fx
