import Derived.Test.YtneflbpekennkaaGreatC4
/- Contracts: outcomes that are remembered. -/
namespace Go.Fx
open Go Go.Proofs

def decRing2 : AV → Option Fu.Ring
  | .agg [a, b] => match a.i, b.asIntK .u64 with | some a, some b => some ⟨a, b⟩ | _, _ => none
  | _ => none
def dRing : Dc Fu.Ring := ⟨decRing2, fun h => .agg (encRing h), fun v a h => by
  unfold decRing2 at h
  split at h
  · split at h
    · rename_i h1 h2; cases h; exact .agg (.cons (.i h1) (.cons (.ik h2) .nil))
    · cases h
  · cases h⟩
/-- May outcomes be? -/
def ringOK (h : Fu.Ring) : Bool := decide (h.N ≥ 0) && (decide (h.N ≤ 60) && shrI .u64 h.B h.N == 0)
def maskV (n : Int) : Int := IntKind.u64.wrap (shlI .u64 1 n - 1)
def ofRing (h : Fu.Ring) : Fu.Ring := bif ringOK h then h else ⟨0, 0⟩
def putB (h : Fu.Ring) : Int := andI .u64 (shlI .u64 (ofRing h).B 1) (maskV 60)
/-- Behind one more. -/
def putRing (h : Fu.Ring) (good : Bool) : Fu.Ring := ⟨min ((ofRing h).N + 1) 60, bif good then orI .u64 (putB h) 1 else putB h⟩
theorem ringOK_N {h : Fu.Ring} (hr : ringOK h = true) : 0 ≤ h.N ∧ h.N ≤ 60 := by
  unfold ringOK at hr
  simp only [Bool.and_eq_true, decide_eq_true_eq] at hr
  omega
theorem ofRing_N (h : Fu.Ring) : 0 ≤ (ofRing h).N ∧ (ofRing h).N ≤ 60 := by
  unfold ofRing
  cases hr : ringOK h with
  | true => exact ringOK_N hr
  | false => exact ⟨Int.le_refl _, by show (0 : Int) ≤ 60; omega⟩
theorem fRingMay (h : Fu.Ring) : callC c53 60 51 [.agg (encRing h)] = .asrt (decide (h.N ≥ 0) = true → decide (h.N ≤ 60) = true → 0 ≤ h.N) (.ret (.bool (ringOK h), [])) := by kernel_rfl
def conRingMay : Con := plainCon (d1 dRing) fun h => .bool (ringOK h)
theorem conRingMay_valid : ValidCon c53.P 51 conRingMay := plainCon_valid c53_good 60 (by kernel_rfl) fun h => ⟨_, fRingMay h, .asrt (fun h0 _ => of_decide_eq_true h0) (.ret (.refl _) rfl)⟩
noncomputable def c54 : Cfg := c53.addQuiet 51 conRingMay
theorem c54_good : GoodCfg c54 := c53_good.addQuiet conRingMay_valid plainCon_quiet
theorem fMask (n : Int) : callC c54 60 46 [.int .i64 n] = .asrt (0 ≤ n) (.ret (.int .u64 (maskV n), [])) := by kernel_rfl
def conMask : Con := flatCon (d1 dInt) (fun n => 0 ≤ n) fun n => .int .u64 (maskV n)
theorem conMask_valid : ValidCon c54.P 46 conMask := flatCon_valid c54_good 60 (by kernel_rfl) fun n h => ⟨_, fMask n, .asrt h (.ret (.refl _) rfl)⟩
noncomputable def c55 : Cfg := c54.addQuiet 46 conMask
theorem c55_good : GoodCfg c55 := c54_good.addQuiet conMask_valid flatCon_quiet
theorem fRingOf (h : Fu.Ring) : callC c55 60 43 [.agg (encRing h)] = .ite (!ringOK h) (.ret (.agg [.lit .i64 0, .lit .u64 0], [])) (.ret (.agg (encRing h), [])) := by kernel_rfl
def conRingOf : Con := plainCon (d1 dRing) fun h => .agg (encRing (ofRing h))
theorem conRingOf_valid : ValidCon c55.P 43 conRingOf := plainCon_valid c55_good 60 (by kernel_rfl) fun h => ⟨_, fRingOf h, by
  unfold ofRing
  cases hr : ringOK h with
  | true => exact .itee rfl (.ret (.refl _) rfl)
  | false => exact .itet rfl (.ret (.agg (.cons (.lit rfl) (.cons (.lit rfl) .nil))) rfl)⟩
noncomputable def c56 : Cfg := c55.addQuiet 43 conRingOf
theorem c56_good : GoodCfg c56 := c55_good.addQuiet conRingOf_valid plainCon_quiet
theorem fRingPut (h : Fu.Ring) (b : Bool) : callC c56 60 128 [.agg (encRing h), .bool b] = .asrt ((0 : Int) ≤ 60) (.ite b (.ret (.agg [.int .i64 (minI (IntKind.i64.wrap ((ofRing h).N + 1)) 60), .int .u64 (orI .u64 (putB h) 1)], [])) (.ret (.agg [.int .i64 (minI (IntKind.i64.wrap ((ofRing h).N + 1)) 60), .int .u64 (putB h)], []))) := by kernel_rfl
def conRingPut : Con := plainCon (d2 dRing dBool) fun x => .agg (encRing (putRing x.1 x.2))
theorem conRingPut_valid : ValidCon c56.P 128 conRingPut := plainCon_valid c56_good 60 (by kernel_rfl) fun ⟨h, b⟩ => ⟨_, fRingPut h b, .asrt (by omega) (by
  have h1 := ofRing_N h
  rw [wrap_fits (by omega) (by omega), minI_eq]
  unfold putRing
  cases b with
  | true => exact .itet rfl (.ret (.refl _) rfl)
  | false => exact .itee rfl (.ret (.refl _) rfl))⟩
noncomputable def c57 : Cfg := c56.addQuiet 128 conRingPut
theorem c57_good : GoodCfg c57 := c56_good.addQuiet conRingPut_valid plainCon_quiet
end Go.Fx
