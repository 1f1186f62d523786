import Derived.Test.YtccfojgceohciaaB21
/- Contracts: when jobs end; how much a task must have done. -/
namespace Go.Fx
open Go Go.Proofs

def badEnds (s : Fu.Spec) (p a b : Int) : Bool := unitsV s p == 0 || (decide (a < 0) || (decide (a > b) || (decide (b > 1099511627776) || decide (IntKind.i64.wrap (b - a) > 5000))))
def endsT (s : Fu.Spec) (p a b : Int) : Tree (AV × List Blk) :=
  .ite (badEnds s p a b) (.ret (.nils, [])) (.asrt (okSteps (IntKind.i64.wrap (a + p), p, b)) (.ret (.own 0, [.rows (.int .i64) 3 (stepsL (IntKind.i64.wrap (a + p)) p b)])))
theorem fEnds (s : Fu.Spec) (p a b : Int) : callC c77 100 66 [.agg (encSpec s), .int .i64 p, .int .i64 a, .int .i64 b] = endsT s p a b := by kernel_rfl
/-- The ends of a task's jobs, one behind the other. -/
def endsV (s : Fu.Spec) (p a b : Int) : List Int := bif unitsV s p == 0 || (decide (a < 0) || (decide (a > b) || (decide (b > 1099511627776) || decide (b - a > 5000)))) then [] else stepsL (a + p) p b
theorem stepsK_le {f b u : Int} (hb : 1 ≤ b) (h : f ≤ u) : (stepsK f b u : Int) ≤ u - f + 1 := by
  unfold stepsK
  rw [if_pos h]
  have := Int.ediv_le_self b (show 0 ≤ u - f by omega)
  have := Int.ediv_nonneg (show 0 ≤ u - f by omega) (show 0 ≤ b by omega)
  omega
theorem endsT_wp (s : Fu.Spec) (p a b : Int) : (endsV s p a b = [] ∧ (endsT s p a b).Out (.nils, [])) ∨ (endsT s p a b).Out (.own 0, [.rows (.int .i64) 3 (endsV s p a b)]) := by
  unfold endsT endsV badEnds
  by_cases hab : 0 ≤ a ∧ a ≤ b ∧ b ≤ 1099511627776
  · rw [wrap_fits (n := b - a) (by omega) (by omega)]
    cases h : (unitsV s p == 0 || (decide (a < 0) || (decide (a > b) || (decide (b > 1099511627776) || decide (b - a > 5000))))) with
    | true => exact .inl ⟨rfl, (Tree.out_ite_true rfl).2 rfl⟩
    | false =>
      right
      simp only [Bool.or_eq_false_iff, decide_eq_false_iff_not, beq_eq_false_iff_ne] at h
      have hp : perOK s p = true := by
        cases hp : perOK s p with
        | true => rfl
        | false => exact absurd (unitsV_zero.2 hp) h.1
      have hpp := (perOK_iff.1 hp)
      have hp1 : 1 ≤ p := by have := hpp.1.1; have := hpp.1.2.1; omega
      have hp2 : p ≤ 48 := by have := hpp.1.2.1; omega
      rw [wrap_fits (n := a + p) (by omega) (by omega)]
      refine (Tree.out_ite_false rfl).2 ⟨⟨⟨hp1, by simp only; omega⟩, by simp only; omega, by simp only; omega, ?_⟩, rfl⟩
      simp only
      by_cases hle : a + p ≤ b
      · have := stepsK_le hp1 hle; omega
      · unfold stepsK; rw [if_neg hle]; omega
  · have h1 : (decide (a < 0) || (decide (a > b) || decide (b > 1099511627776))) = true := by
      simp only [Bool.or_eq_true, decide_eq_true_eq]; omega
    have h2 : ∀ x y : Bool, (x || (decide (a < 0) || (decide (a > b) || (decide (b > 1099511627776) || y)))) = true := by
      intro x y
      simp only [Bool.or_eq_true, decide_eq_true_eq] at h1 ⊢
      omega
    rw [h2, h2]
    exact .inl ⟨rfl, (Tree.out_ite_true rfl).2 rfl⟩
def conEnds : Con := plainCon (d4 dSpec dInt dInt dInt) fun x => .view (.int .i64) (endsV x.1 x.2.1 x.2.2.1 x.2.2.2)
theorem conEnds_valid : ValidCon c77.P 66 conEnds := frozenPlain_valid c77_good 100 (by kernel_rfl) fun x => ⟨_, rfl, by
  obtain ⟨s, p, a, b⟩ := x
  show Rez (frozen (callC c77 100 66) [.agg (encSpec s), .int .i64 p, .int .i64 a, .int .i64 b]) _
  unfold frozen
  rw [fEnds]
  rcases endsT_wp s p a b with ⟨h1, h2⟩ | h2
  · refine ⟨.nils, ⟨fun hr => ?_⟩, Tree.out_of_wp (Tree.wp_bind.2 (Tree.wp_of_out h2 rfl))⟩
    simp only [h1]
    cases hr with
    | nils a _ => exact .view0 _ _ rfl _ _ .nil
  · exact ⟨_, .refl _, Tree.out_of_wp (Tree.wp_bind.2 (Tree.wp_of_out h2 rfl))⟩⟩
noncomputable def c78 : Cfg := c77.addQuiet 66 conEnds
theorem c78_good : GoodCfg c78 := c77_good.addQuiet conEnds_valid plainCon_quiet

def mostV (m k n : Int) : Int := bif mayP m k && inJ n then cdiv (n * m) k else 0
theorem fMost (m k n : Int) : callC c78 60 78 [.int .i64 m, .int .i64 k, .int .i64 n] =
  .ite (!mayP m k) (.ret (.lit .i64 0, [])) (.ite (!inJ n) (.ret (.lit .i64 0, [])) (.ret (.int .i64 (ceilV (IntKind.i64.wrap (n * m)) k), []))) := by kernel_rfl
theorem most_val {m k n : Int} (h : mayP m k = true) (h2 : inJ n = true) : ceilV (IntKind.i64.wrap (n * m)) k = cdiv (n * m) k ∧ 0 ≤ n * m := by
  have h3 : 1 ≤ m ∧ m ≤ k ∧ k ≤ 6 := by simpa [mayP] using h
  have h4 : 0 ≤ n ∧ n ≤ 1099511627776 := by simpa [inJ] using h2
  have k1 := mul_le_of (a := n) (b := m) (x := 1099511627776) (y := 6) (by omega) (by omega) (by omega) (by omega)
  rw [wrap_fits (by omega) (by omega), ceilV_of (by omega) (by omega) (by omega) (by omega)]
  exact ⟨rfl, k1.1⟩
def conMost : Con := plainCon (d3 dInt dInt dInt) fun x => .int .i64 (mostV x.1 x.2.1 x.2.2)
theorem conMost_valid : ValidCon c78.P 78 conMost := plainCon_valid c78_good 60 (by kernel_rfl) fun ⟨m, k, n⟩ => ⟨_, fMost m k n, ite_rez (fun h => .ret (.lit (by simp at h; simp [mostV, h])) rfl) fun h => ite_rez (fun h2 => .ret (.lit (by simp at h2; simp [mostV, h2])) rfl) fun h2 => .ret (.eq (by
  have h : mayP m k = true := by simpa using h
  have h2 : inJ n = true := by simpa using h2
  rw [(most_val h h2).1]
  simp [mostV, h, h2])) rfl⟩
noncomputable def c79 : Cfg := c78.addQuiet 78 conMost
theorem c79_good : GoodCfg c79 := c78_good.addQuiet conMost_valid plainCon_quiet

/-- How much a task must have done, at most, in so long a time. -/
def ofV (x : Fu.Fix) (n : Int) : Int := bif mayF x && (decide (0 ≤ n) && decide (n ≤ 1099511627776)) then x.S.C * mostV x.S.M x.S.K (n / x.P) else 0
theorem fOf (x : Fu.Fix) (n : Int) : callC c79 60 67 [.agg (RTy.fix.enc x), .int .i64 n] =
  .ite (!mayF x || (decide (n < 0) || decide (n > 1099511627776))) (.ret (.lit .i64 0, [])) (.asrt (x.P ≠ 0) (.ret (.int .i64 (IntKind.i64.wrap (x.S.C * mostV x.S.M x.S.K (IntKind.i64.wrap (n.tdiv x.P)))), []))) := by kernel_rfl
theorem mayF_per {x : Fu.Fix} (h : mayF x = true) : perOK x.S x.P = true := (mayF_C h).1
theorem mayF_iff {x : Fu.Fix} : mayF x = true ↔ perOK x.S x.P = true := ⟨mayF_per, fun h => decide_eq_true (unitsV_pos h)⟩
theorem of_val {x : Fu.Fix} {n : Int} (h : mayF x = true) (h0 : 0 ≤ n) (h1 : n ≤ 1099511627776) : x.P ≠ 0 ∧ IntKind.i64.wrap (n.tdiv x.P) = n / x.P ∧ 0 ≤ n / x.P ∧ n / x.P ≤ n ∧ 0 ≤ mostV x.S.M x.S.K (n / x.P) ∧ mostV x.S.M x.S.K (n / x.P) ≤ n ∧ 0 ≤ ofV x n ∧ ofV x n ≤ 6 * n ∧ IntKind.i64.wrap (x.S.C * mostV x.S.M x.S.K (n / x.P)) = ofV x n := by
  obtain ⟨⟨a1, a2, a3, _⟩, a4, a5⟩ := perOK_iff.1 (mayF_per h)
  have hp : 0 < x.P := by omega
  have k1 := Int.ediv_nonneg h0 (show 0 ≤ x.P by omega)
  have k2 := Int.ediv_le_self x.P h0
  have hm : mayP x.S.M x.S.K = true := by simp [mayP]; omega
  have hj : inJ (n / x.P) = true := by simp [inJ]; omega
  have e : mostV x.S.M x.S.K (n / x.P) = cdiv (n / x.P * x.S.M) x.S.K := by simp [mostV, hm, hj]
  have hK : 0 < x.S.K := by omega
  have hnm : 0 ≤ n / x.P * x.S.M := Int.mul_nonneg k1 (by omega)
  have k3 := cdiv_nonneg hK hnm
  have k4 : cdiv (n / x.P * x.S.M) x.S.K ≤ n / x.P := by
    rw [cdiv_le_iff hK]; exact Int.mul_le_mul_of_nonneg_left (by omega) k1
  have k5 := mul_le_of (a := x.S.C) (b := mostV x.S.M x.S.K (n / x.P)) (x := 6) (y := n) (by omega) (by omega) (by omega) (by omega)
  have eo : ofV x n = x.S.C * mostV x.S.M x.S.K (n / x.P) := by unfold ofV; rw [h, decide_eq_true h0, decide_eq_true h1]; rfl
  refine ⟨by omega, ?_, k1, k2, by omega, by omega, by omega, by omega, ?_⟩
  · rw [Int.tdiv_eq_ediv_of_nonneg h0, wrap_fits (by omega) (by omega)]
  · rw [wrap_fits (by omega) (by omega), eo]
def conOf : Con := plainCon (d2 dFix dInt) fun x => .int .i64 (ofV x.1 x.2)
theorem conOf_valid : ValidCon c79.P 67 conOf := plainCon_valid c79_good 60 (by kernel_rfl) fun ⟨x, n⟩ => ⟨_, fOf x n, by
  cases h : (!mayF x || (decide (n < 0) || decide (n > 1099511627776))) with
  | true =>
    refine .itet rfl (.ret (.lit ?_) rfl)
    have : (mayF x && (decide (0 ≤ n) && decide (n ≤ 1099511627776))) = false := by
      cases hm : mayF x with
      | false => rfl
      | true =>
        rw [hm] at h
        simp only [Bool.not_true, Bool.false_or, Bool.or_eq_true, decide_eq_true_eq] at h
        simp only [Bool.true_and, Bool.and_eq_false_iff, decide_eq_false_iff_not]
        omega
    unfold ofV; rw [this]; rfl
  | false =>
    simp only [Bool.or_eq_false_iff, decide_eq_false_iff_not, Bool.not_eq_false'] at h
    obtain ⟨k1, k2, _, _, _, _, _, _, k3⟩ := of_val h.1 (show 0 ≤ n by omega) (by omega)
    refine .itee rfl (.asrt k1 (.ret (.eq ?_) rfl))
    rw [k2, k3]⟩
noncomputable def c80 : Cfg := c79.addQuiet 67 conOf
theorem c80_good : GoodCfg c80 := c79_good.addQuiet conOf_valid plainCon_quiet

end Go.Fx
