import Derived.Test.YtccfojgceohciaaB17
/- Contracts: sums of units, which fit. -/
namespace Go.Fx
open Go Go.Proofs

def sumV (l : List Int) : Int × Bool := bif decide ((l.length : Int) > 1000) || l.any outU then (0, false) else (l.sum, true)
def sumT (l : List Int) : Tree (AV × List Blk) :=
  .ite (decide ((l.length : Int) > 1000)) (.ret (.tup [.lit .i64 0, .blit false], [])) (.asrt (1 = 1 ∧ TU2 (l, 0) = TU2 (l, 0)) (.asrt (okU2 l 0) (.ite (l.any outU) (.ret (.tup [.lit .i64 0, .blit false], [])) (.ret (.tup [.int .i64 (0 + l.sum), .blit true], [])))))
theorem fSumU (l : List Int) : callC c69 60 63 [.view (.int .i64) l] = sumT l := by kernel_rfl
theorem sumT_rez (l : List Int) : Rez (sumT l) (.tup [.int .i64 (sumV l).1, .bool (sumV l).2], []) := by
  unfold sumT sumV
  cases h1 : decide ((l.length : Int) > 1000) with
  | true => exact .itet rfl (.ret (.tup (.cons (.lit rfl) (.cons (.blit rfl) .nil))) rfl)
  | false =>
    have h1 := of_decide_eq_false h1
    refine .itee rfl (.asrt ⟨rfl, rfl⟩ (.asrt ⟨by omega, Int.le_refl _, by omega⟩ ?_))
    cases h2 : l.any outU with
    | true => exact .itet rfl (.ret (.tup (.cons (.lit rfl) (.cons (.blit rfl) .nil))) rfl)
    | false => exact .itee rfl (.ret (.tup (.cons (.eq (by rw [Int.zero_add]; rfl)) (.cons (.blit rfl) .nil))) rfl)
def conSumU : Con := plainCon (d1 (dView (.int .i64))) fun l => .tup [.int .i64 (sumV l).1, .bool (sumV l).2]
theorem conSumU_valid : ValidCon c69.P 63 conSumU := plainCon_valid c69_good 60 (by kernel_rfl) fun l => ⟨_, fSumU l, sumT_rez l⟩
noncomputable def c70 : Cfg := c69.addQuiet 63 conSumU
theorem c70_good : GoodCfg c70 := c69_good.addQuiet conSumU_valid plainCon_quiet
def fitsV (l : List Int) : Bool := (sumV l).2 && decide ((sumV l).1 ≤ 983040)
theorem fFits (l : List Int) : callC c70 60 50 [.view (.int .i64) l] = .ret (.bool (fitsV l), []) := by kernel_rfl
def conFits : Con := plainCon (d1 (dView (.int .i64))) fun l => .bool (fitsV l)
theorem conFits_valid : ValidCon c70.P 50 conFits := plainCon_valid c70_good 60 (by kernel_rfl) fun l => ⟨_, fFits l, .ret (.refl _) rfl⟩
noncomputable def c71 : Cfg := c70.addQuiet 50 conFits
theorem c71_good : GoodCfg c71 := c70_good.addQuiet conFits_valid plainCon_quiet

end Go.Fx
