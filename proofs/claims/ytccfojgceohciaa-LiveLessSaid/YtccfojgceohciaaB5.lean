/- Contracts: units, jobs. -/
import Derived.Test.YtccfojgceohciaaB4
namespace Go.Fx
open Go Go.Proofs

/-! ### units.At -/
theorem fUnits (s : Fu.Spec) (p : Int) : callC c12 100 49 [.agg (encSpec s), .int .i64 p] =
  .ite (!mayS s || (decide (p < s.T) || decide (p > s.Max))) (.ret (.lit .i64 0, [])) (.ret (.int .i64 (ceilV (IntKind.i64.wrap (IntKind.i64.wrap (s.C * s.M) * 1048576)) (IntKind.i64.wrap (s.K * p))), [])) := by kernel_rfl
theorem units_val {s : Fu.Spec} {p : Int} (h : perOK s p = true) : ceilV (IntKind.i64.wrap (IntKind.i64.wrap (s.C * s.M) * 1048576)) (IntKind.i64.wrap (s.K * p)) = unitsV s p := by
  obtain ⟨⟨h1, h2, h3, h4, h5⟩, h6, h7⟩ := perOK_iff.1 h
  have k1 := mul_le_of (a := s.C) (b := s.M) (x := 6) (y := 6) (by omega) (by omega) (by omega) (by omega)
  have k2 := mul_le_of (a := s.K) (b := p) (x := 6) (y := 48) (by omega) (by omega) (by omega) (by omega)
  have k3 := Int.mul_pos (show 0 < s.K by omega) (show 0 < p by omega)
  rw [wrap_fits (n := s.C * s.M) (by omega) (by omega), wrap_fits (by omega) (by omega), wrap_fits (n := s.K * p) (by omega) (by omega), ceilV_of (by omega) (by omega) (by omega) (by omega)]
  simp [unitsV, h]
theorem unitsT_rez (s : Fu.Spec) (p : Int) : ∃ t, callC c12 100 49 [.agg (encSpec s), .int .i64 p] = t ∧ Rez t (.int .i64 (unitsV s p), []) := by
  refine ⟨_, fUnits s p, ?_⟩
  cases h : perOK s p with
  | true =>
    obtain ⟨h0, h6, h7⟩ := perOK_iff.1 h
    refine .itee ?_ (.ret (.eq (by rw [units_val h])) rfl)
    simp only [mayS_iff.2 h0, Bool.not_true, Bool.false_or, Bool.or_eq_false_iff, decide_eq_false_iff_not]
    omega
  | false =>
    refine .itet ?_ (.ret (.lit (by rw [unitsV_zero.2 h])) rfl)
    unfold perOK at h
    cases h1 : mayS s with
    | false => rfl
    | true =>
      rw [h1] at h
      simp only [Bool.true_and, Bool.and_eq_false_iff, decide_eq_false_iff_not] at h
      simp only [Bool.not_true, Bool.false_or, Bool.or_eq_true, decide_eq_true_eq]
      omega
def conUnits : Con := plainCon (d2 dSpec dInt) fun x => .int .i64 (unitsV x.1 x.2)
theorem conUnits_valid : ValidCon c12.P 49 conUnits := plainCon_valid c12_good 100 (by kernel_rfl) fun x => unitsT_rez x.1 x.2
noncomputable def c13 : Cfg := c12.addQuiet 49 conUnits
theorem c13_good : GoodCfg c13 := c12_good.addQuiet conUnits_valid plainCon_quiet

theorem fFates : callC c13 60 47 [] = .ret (.agg [.lit .i64 0, .lit .i64 2, .lit .i64 1], []) := by kernel_rfl
def conFates : Con := plainCon Ds.none fun _ => .agg [.lit .i64 0, .lit .i64 2, .lit .i64 1]
theorem conFates_valid : ValidCon c13.P 47 conFates := plainCon_valid c13_good 60 (by kernel_rfl) fun _ => ⟨_, fFates, .ret (.refl _) rfl⟩
noncomputable def c14 : Cfg := c13.addQuiet 47 conFates
theorem c14_good : GoodCfg c14 := c13_good.addQuiet conFates_valid plainCon_quiet

/-! ### job.May, job.New -/
def offJ (j : Fu.Job) : Bool := j.On == false && (j.J == 0 && (j.Rel == 0 && (j.Due == 0 && (j.Mand == false && (j.C == 0 && (j.D == 0 && j.Ran == 0))))))
def badT (a b c : Int) : Bool := decide (a < 0) || (decide (a > 1099511627776) || (decide (b < 0) || (decide (b ≥ c) || decide (c > 1099511627776))))
def fineJ (s : Fu.Spec) (j : Fu.Job) : Bool := (j.C == s.C && (decide (j.D ≥ 1) && (decide (j.D ≤ 20) && (decide (j.Ran ≥ 0) && decide (j.Ran < minI j.C j.D))))) && j.Mand == onP s.M s.K j.J
theorem offJ_eq {j : Fu.Job} : offJ j = decide (j = zeroJ) := by
  obtain ⟨a, b, c, d, e, f, g, h⟩ := j
  rw [Bool.eq_iff_iff]
  simp only [offJ, zeroJ, Bool.and_eq_true, beq_iff_eq, decide_eq_true_eq, Fu.Job.mk.injEq]
theorem fineJ_iff {s : Fu.Spec} {j : Fu.Job} : fineJ s j = true ↔ j.C = s.C ∧ (1 ≤ j.D ∧ j.D ≤ 20) ∧ (0 ≤ j.Ran ∧ j.Ran < j.C ∧ j.Ran < j.D) ∧ j.Mand = onP s.M s.K j.J := by
  simp only [fineJ, Bool.and_eq_true, beq_iff_eq, decide_eq_true_eq]
  unfold minI
  constructor
  · rintro ⟨⟨h1, h2, h3, h4, h5⟩, h6⟩
    refine ⟨h1, ⟨h2, h3⟩, ⟨h4, ?_⟩, h6⟩
    split at h5 <;> omega
  · rintro ⟨h1, ⟨h2, h3⟩, ⟨h4, h5, h7⟩, h6⟩
    refine ⟨⟨h1, h2, h3, h4, ?_⟩, h6⟩
    split <;> omega
theorem badT_iff {a b c : Int} : badT a b c = false ↔ (0 ≤ a ∧ a ≤ 1099511627776) ∧ (0 ≤ b ∧ b < c ∧ c ≤ 1099511627776) := by
  simp only [badT, Bool.or_eq_false_iff, decide_eq_false_iff_not]
  omega
theorem fJobMay (s : Fu.Spec) (j : Fu.Job) : callC c14 100 57 [.agg (encSpec s), .agg (encJob j)] =
  .ite (!mayS s) noB (.ite (!j.On) (.ret (.bool (offJ j), [])) (.ite (badT j.J j.Rel j.Due) noB (.ret (.bool (fineJ s j), [])))) := by kernel_rfl
theorem jobMay_rez (s : Fu.Spec) (j : Fu.Job) : ∃ t, callC c14 100 57 [.agg (encSpec s), .agg (encJob j)] = t ∧ Rez t (.bool (mayJ s j), []) := by
  refine ⟨_, fJobMay s j, ite_rez (fun h => noB_rez ?_) fun h1 => ite_rez (fun h => retB ?_) fun h2 => ite_rez (fun h => noB_rez ?_) fun h3 => retB ?_⟩
  · refine decide_eq_false fun ⟨h1, _⟩ => ?_
    rw [mayS_iff.2 h1] at h; cases h
  · have h1' : SpecOK s := mayS_iff.1 (by simpa using h1)
    have h' : j.On = false := by simpa using h
    rw [offJ_eq]
    unfold mayJ
    rw [decide_eq_decide]
    unfold JobOK
    constructor
    · intro e; exact ⟨h1', .inl ⟨h', e⟩⟩
    · rintro ⟨_, h | h⟩
      · exact h.2
      · rw [h'] at h; exact absurd h.1 (by decide)
  · refine decide_eq_false fun ⟨_, h4⟩ => ?_
    rcases h4 with h4 | ⟨_, h4, h5, _⟩
    · rw [h4.1] at h2; cases h2
    · rw [badT_iff.2 ⟨h4, h5⟩] at h; cases h
  · have h1' : SpecOK s := mayS_iff.1 (by simpa using h1)
    have h2' : j.On = true := by simpa using h2
    obtain ⟨h4, h5⟩ := badT_iff.1 h3
    unfold mayJ
    rw [Bool.eq_iff_iff, decide_eq_true_eq, fineJ_iff]
    unfold JobOK
    constructor
    · rintro ⟨h6, h7, h8, h9⟩; exact ⟨h1', .inr ⟨h2', h4, h5, h6, h7, h8, h9⟩⟩
    · rintro ⟨_, h | ⟨_, _, _, h6, h7, h8, h9⟩⟩
      · rw [h2'] at h; exact absurd h.1 (by decide)
      · exact ⟨h6, h7, h8, h9⟩
def conJobMay : Con := plainCon (d2 dSpec dJob) fun x => .bool (mayJ x.1 x.2)
theorem conJobMay_valid : ValidCon c14.P 57 conJobMay := plainCon_valid c14_good 100 (by kernel_rfl) fun x => jobMay_rez x.1 x.2
noncomputable def c15 : Cfg := c14.addQuiet 57 conJobMay
theorem c15_good : GoodCfg c15 := c14_good.addQuiet conJobMay_valid plainCon_quiet

end Go.Fx
