/- Contracts: patterns. -/
import Derived.Test.YtccfojgceohciaaB1
namespace Go.Fx
open Go Go.Proofs

def noB : Tree (AV × List Blk) := .ret (.blit false, [])
/-! ### pat.On -/
def wJ (m k r : Int) : Bool := decide (ceilV (IntKind.i64.wrap ((r + 1) * m)) k > ceilV (IntKind.i64.wrap (r * m)) k)
def onT (m k j : Int) (c : Bool) (w : List Bool) : Tree (AV × List Blk) :=
  .ite (decide (m ≥ 1) && c) (.ite (decide (j ≥ 0) && decide (j ≤ 1099511627776)) (.asrt (0 ≤ j.tmod k ∧ j.tmod k < 6) (.ret (.bool (w.getD (j.tmod k).toNat false), []))) noB) noB
theorem fOn1 (m j : Int) : callC c1 60 56 [.int .i64 m, .lit .i64 1, .int .i64 j] = onT m 1 j (decide (m ≤ 1)) [wJ m 1 0, false, false, false, false, false] := by kernel_rfl
theorem fOn2 (m j : Int) : callC c1 60 56 [.int .i64 m, .lit .i64 2, .int .i64 j] = onT m 2 j (decide (m ≤ 2)) [wJ m 2 0, wJ m 2 1, false, false, false, false] := by kernel_rfl
theorem fOn3 (m j : Int) : callC c1 60 56 [.int .i64 m, .lit .i64 3, .int .i64 j] = onT m 3 j (decide (m ≤ 3)) [wJ m 3 0, wJ m 3 1, wJ m 3 2, false, false, false] := by kernel_rfl
theorem fOn4 (m j : Int) : callC c1 60 56 [.int .i64 m, .lit .i64 4, .int .i64 j] = onT m 4 j (decide (m ≤ 4)) [wJ m 4 0, wJ m 4 1, wJ m 4 2, wJ m 4 3, false, false] := by kernel_rfl
theorem fOn5 (m j : Int) : callC c1 60 56 [.int .i64 m, .lit .i64 5, .int .i64 j] = onT m 5 j (decide (m ≤ 5)) [wJ m 5 0, wJ m 5 1, wJ m 5 2, wJ m 5 3, wJ m 5 4, false] := by kernel_rfl
theorem fOn6 (m j : Int) : callC c1 60 56 [.int .i64 m, .lit .i64 6, .int .i64 j] = onT m 6 j (decide (m ≤ 6)) [wJ m 6 0, wJ m 6 1, wJ m 6 2, wJ m 6 3, wJ m 6 4, wJ m 6 5] := by kernel_rfl
noncomputable def onRest (m k j : Int) : Tree (AV × List Blk) := match callC c1 60 56 [.int .i64 m, .int .i64 k, .int .i64 j] with | .ite _ t _ => t | _ => .fail
theorem fOn (m k j : Int) : callC c1 60 56 [.int .i64 m, .int .i64 k, .int .i64 j] = .ite (mayP m k) (onRest m k j) noB := by kernel_rfl
theorem wJ_eq {m k r : Int} (hm : 1 ≤ m) (hk : m ≤ k) (h6 : k ≤ 6) (h0 : 0 ≤ r) (h1 : r < k) : wJ m k r = mandJ m k r := by
  have a1 : 0 ≤ r * m := Int.mul_nonneg h0 (by omega)
  have a2 : r * m ≤ r * 6 := Int.mul_le_mul_of_nonneg_left (by omega) h0
  have a3 : (r + 1) * m = r * m + m := by rw [Int.add_mul, Int.one_mul]
  unfold wJ mandJ
  rw [wrap_fits (by omega) (by omega), wrap_fits (by omega) (by omega), ceilV_of (by omega) (by omega) (by omega) (by omega), ceilV_of a1 (by omega) (by omega) (by omega)]
theorem onT_rez {m k j : Int} {c : Bool} {w : List Bool} (hc : c = decide (m ≤ k)) (h6 : k ≤ 6) (hw : ∀ r : Nat, (r : Int) < k → 1 ≤ m → m ≤ k → w.getD r false = mandJ m k r) : Rez (onT m k j c w) (.bool (onP m k j), []) := by
  subst hc
  have hp : mayP m k = (decide (m ≥ 1) && decide (m ≤ k)) := by unfold mayP; rw [decide_eq_true h6, Bool.and_true]
  unfold onT onP
  rw [hp]
  cases h1 : (decide (m ≥ 1) && decide (m ≤ k)) with
  | false => exact .itee rfl (.ret (.blit rfl) rfl)
  | true =>
    simp only [Bool.and_eq_true, decide_eq_true_eq] at h1
    refine .itet rfl ?_
    show Rez (.ite (inJ j) _ _) _
    cases h2 : inJ j with
    | false => exact .itee rfl (.ret (.blit rfl) rfl)
    | true =>
      have h3 : 0 ≤ j := by simp [inJ] at h2; omega
      have e : j.tmod k = j % k := Int.tmod_eq_emod_of_nonneg h3
      have h4 := Int.emod_nonneg j (show k ≠ 0 by omega)
      have h5 := Int.emod_lt_of_pos j (show 0 < k by omega)
      refine .itet rfl (.asrt (by rw [e]; omega) (.ret (.eq ?_) rfl))
      rw [e, hw (j % k).toNat (by omega) (by omega) h1.2, show (((j % k).toNat : Nat) : Int) = j % k by omega, ← mandJ_mod (by omega)]
      rfl
theorem getD_cons {a : Bool} {l : List Bool} {n : Nat} : (a :: l).getD (n + 1) false = l.getD n false := rfl
def conOn : Con := plainCon (d3 dInt dInt dInt) fun x => .bool (onP x.1 x.2.1 x.2.2)
theorem conOn_valid : ValidCon c1.P 56 conOn := plainCon_validA c1_good 60 (by kernel_rfl) fun ⟨m, k, j⟩ => by
  have toK : ∀ n : Int, k = n → AsArgs ((d3 dInt dInt dInt).enc (m, k, j)) [.int .i64 m, .lit .i64 n, .int .i64 j] := fun n h => .cons (.refl _) (.cons (.toLit h) (.cons (.refl _) .nil))
  have six : ∀ r : Nat, (r : Int) < 6 → r = 0 ∨ r = 1 ∨ r = 2 ∨ r = 3 ∨ r = 4 ∨ r = 5 := fun r h => by omega
  by_cases h1 : k = 1
  · subst h1
    refine ⟨_, _, toK 1 rfl, fOn1 m j, onT_rez rfl (by omega) fun r hr hm hk => ?_⟩
    have : r = 0 := by omega
    subst this; exact wJ_eq hm hk (by omega) (by omega) (by omega)
  by_cases h2 : k = 2
  · subst h2
    refine ⟨_, _, toK 2 rfl, fOn2 m j, onT_rez rfl (by omega) fun r hr hm hk => ?_⟩
    rcases (show r = 0 ∨ r = 1 by omega) with rfl | rfl <;> exact wJ_eq hm hk (by omega) (by omega) (by omega)
  by_cases h3 : k = 3
  · subst h3
    refine ⟨_, _, toK 3 rfl, fOn3 m j, onT_rez rfl (by omega) fun r hr hm hk => ?_⟩
    rcases (show r = 0 ∨ r = 1 ∨ r = 2 by omega) with rfl | rfl | rfl <;> exact wJ_eq hm hk (by omega) (by omega) (by omega)
  by_cases h4 : k = 4
  · subst h4
    refine ⟨_, _, toK 4 rfl, fOn4 m j, onT_rez rfl (by omega) fun r hr hm hk => ?_⟩
    rcases (show r = 0 ∨ r = 1 ∨ r = 2 ∨ r = 3 by omega) with rfl | rfl | rfl | rfl <;> exact wJ_eq hm hk (by omega) (by omega) (by omega)
  by_cases h5 : k = 5
  · subst h5
    refine ⟨_, _, toK 5 rfl, fOn5 m j, onT_rez rfl (by omega) fun r hr hm hk => ?_⟩
    rcases (show r = 0 ∨ r = 1 ∨ r = 2 ∨ r = 3 ∨ r = 4 by omega) with rfl | rfl | rfl | rfl | rfl <;> exact wJ_eq hm hk (by omega) (by omega) (by omega)
  by_cases h6 : k = 6
  · subst h6
    refine ⟨_, _, toK 6 rfl, fOn6 m j, onT_rez rfl (by omega) fun r hr hm hk => ?_⟩
    rcases (show r = 0 ∨ r = 1 ∨ r = 2 ∨ r = 3 ∨ r = 4 ∨ r = 5 by omega) with rfl | rfl | rfl | rfl | rfl | rfl <;> exact wJ_eq hm hk (by omega) (by omega) (by omega)
  have hn : mayP m k = false := by
    cases h : mayP m k with
    | false => rfl
    | true => simp [mayP] at h; omega
  refine ⟨_, _, AsArgs.refl _, fOn m k j, .itee hn (.ret (.blit ?_) rfl)⟩
  simp [onP, hn]
noncomputable def c2 : Cfg := c1.addQuiet 56 conOn
theorem c2_good : GoodCfg c2 := c1_good.addQuiet conOn_valid plainCon_quiet
theorem fPatMay (m k : Int) : callC c2 60 68 [.int .i64 m, .int .i64 k] = .ret (.bool (mayP m k), []) := by kernel_rfl
def conPatMay : Con := plainCon (d2 dInt dInt) fun x => .bool (mayP x.1 x.2)
theorem conPatMay_valid : ValidCon c2.P 68 conPatMay := plainCon_valid c2_good 60 (by kernel_rfl) fun x => ⟨_, fPatMay x.1 x.2, .ret (.refl _) rfl⟩
noncomputable def c3 : Cfg := c2.addQuiet 68 conPatMay
theorem c3_good : GoodCfg c3 := c2_good.addQuiet conPatMay_valid plainCon_quiet
theorem fRefMay (m k : Int) : callC c3 60 71 [.int .i64 m, .int .i64 k] = .ret (.bool (decide (m ≥ 1) && (decide (k ≥ m) && decide (k ≤ 6))), []) := by kernel_rfl
theorem conRefMay_valid : ValidCon c3.P 71 conPatMay := plainCon_valid c3_good 60 (by kernel_rfl) fun x => ⟨_, fRefMay x.1 x.2, .ret (.refl _) rfl⟩
noncomputable def c4 : Cfg := c3.addQuiet 71 conPatMay
theorem c4_good : GoodCfg c4 := c3_good.addQuiet conRefMay_valid plainCon_quiet

end Go.Fx
