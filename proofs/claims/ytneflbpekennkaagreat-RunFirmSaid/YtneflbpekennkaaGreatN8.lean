import Derived.Test.YtneflbpekennkaaGreatB44
import Derived.Test.YtneflbpekennkaaGreatPlY
import Derived.Test.YtneflbpekennkaaGreatFxFr
/- One time, by what is looked at. -/
namespace Go.Fx
open Go Go.Proofs

/-- One time, by what is looked at. -/
def tickF (w : Fu.World) (d : List Int) : AV := .tup [.agg (encW (tickW w d)), .agg [.int .i64 w.Now, .int .i64 (whoW (startW w d)).1, .int .i64 (whoW (startW w d)).2, .int .i64 (midW w d).2, .view (.int .i64) (beginW w d).2, .view (.int .i64) (tickM w d), .view (.int .i64) (pickW (startW w d)).2], .blit true]
def conTickF : Con := flatCon dTk tickY fun x => tickF x.1 x.2
theorem conTickF_valid : ValidCon c142.P 12 conTickF := resCon_frozen conTickY_valid fun _ => ⟨_, rfl, .refl _⟩
noncomputable def c143 : Cfg := c142.addQuiet 12 conTickF
theorem c143_good : GoodCfg c143 := c142_good.addQuiet conTickF_valid flatCon_quiet
/-- The numbers turned by one. -/
def turnD (d : List Int) : List Int := bif decide ((d.length : Int) > 0) then (d.take (d.length : Int).toNat).drop 1 ++ [rd (.int .i64) d 0] else d
theorem turnD_len (d : List Int) : (turnD d).length = d.length := by
  unfold turnD
  cases h : decide ((d.length : Int) > 0) with
  | true =>
    have := of_decide_eq_true h
    simp
    omega
  | false => rfl
/-- Who begins, by what is looked at. -/
def conBeginF : Con := flatCon (d2 dWorld (dView (.int .i64))) (fun x => smallW x.1) fun x => .tup [.agg (encW ⟨x.1.Now, (beginW x.1 x.2).1.T, x.1.A, x.1.Cur⟩), .view (.int .i64) (beginW x.1 x.2).2]
theorem conBeginF_valid : ValidCon c143.P 14 conBeginF := resCon_frozen conRBegin_valid fun _ => ⟨_, rfl, .refl _⟩
noncomputable def c144 : Cfg := c143.addQuiet 14 conBeginF
theorem c144_good : GoodCfg c144 := c143_good.addQuiet conBeginF_valid flatCon_quiet
theorem mayW_small {w : Fu.World} (h : mayW w = true) : smallW w := by
  have h1 := (mayW_iff.1 h).2.1
  have h2 := (mayA_iff.1 (mayW_iff.1 h).2.2.2.1).2.2.1
  exact ⟨by omega, by omega⟩
theorem lowW_iff {w : Fu.World} : lowW w = true ↔ lowN 0 w := by
  unfold lowW lowN
  rw [Bool.and_eq_true, decide_eq_true_iff, List.all_eq_true]
  simp only [decide_eq_true_eq, Int.add_zero]
theorem safeW_may {w : Fu.World} (h : safeW w = true) : mayW w = true := by
  unfold safeW at h
  rw [Bool.and_eq_true] at h
  exact h.1
end Go.Fx
