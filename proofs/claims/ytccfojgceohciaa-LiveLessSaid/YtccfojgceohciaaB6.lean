/- Contracts: jobs, and the document's answer for them. -/
import Derived.Test.YtccfojgceohciaaB5
namespace Go.Fx
open Go Go.Proofs

theorem fROn (m k j : Int) : callC c15 60 58 [.int .i64 m, .int .i64 k, .int .i64 j] =
  .ite (mayP m k) (.ite (decide (j ≥ 0) && decide (j ≤ 1099511627776)) (.asrt (k ≠ 0) (.ret (.bool ((IntKind.i64.wrap (j * m)).tmod k == 0 || decide ((IntKind.i64.wrap (j * m)).tmod k > IntKind.i64.wrap (k - m))), []))) noB) noB := by kernel_rfl
theorem mayP_iff {m k : Int} : mayP m k = true ↔ 1 ≤ m ∧ m ≤ k ∧ k ≤ 6 := by simp [mayP]
theorem inJ_iff {j : Int} : inJ j = true ↔ 0 ≤ j ∧ j ≤ 1099511627776 := by simp [inJ]
theorem rOn_rez (m k j : Int) : ∃ t, callC c15 60 58 [.int .i64 m, .int .i64 k, .int .i64 j] = t ∧ Rez t (.bool (onP m k j), []) := by
  refine ⟨_, fROn m k j, ite_rez (fun h1 => ite_rez (fun h2 => ?_) fun h2 => noB_rez ?_) fun h1 => noB_rez (by simp [onP, h1])⟩
  · obtain ⟨h3, h4, h5⟩ := mayP_iff.1 h1
    have h6 : inJ j = true := h2
    obtain ⟨h7, h8⟩ := inJ_iff.1 h6
    have k1 := mul_le_of (a := j) (b := m) (x := 1099511627776) (y := 6) (by omega) (by omega) (by omega) (by omega)
    refine .asrt (by omega) (retB ?_)
    rw [wrap_fits (by omega) (by omega), wrap_fits (by omega) (by omega)]
    have e : (j * m).tmod k = j * m % k := Int.tmod_eq_emod_of_nonneg k1.1
    rw [e]
    unfold onP
    rw [h1, h6, mandJ_even h3 h4]
    rfl
  · have : inJ j = false := h2
    simp [onP, this]
theorem conROn_valid : ValidCon c15.P 58 conOn := plainCon_valid c15_good 60 (by kernel_rfl) fun x => rOn_rez x.1 x.2.1 x.2.2
noncomputable def c16 : Cfg := c15.addQuiet 58 conOn
theorem c16_good : GoodCfg c16 := c15_good.addQuiet conROn_valid plainCon_quiet
def badR (s : Fu.Spec) (j : Fu.Job) : Bool := decide (j.J < 0) || (decide (j.J > 1099511627776) || (decide (j.Rel < 0) || (decide (j.Due ≤ j.Rel) || (decide (j.Due > 1099511627776) || !j.Mand == onP s.M s.K j.J))))
def fineR (s : Fu.Spec) (j : Fu.Job) : Bool := j.C == s.C && (decide (j.D ≥ 1) && (decide (j.D ≤ 20) && (decide (j.Ran ≥ 0) && (decide (j.Ran < j.C) && decide (j.Ran < j.D)))))
theorem fRJobMay (s : Fu.Spec) (j : Fu.Job) : callC c16 100 59 [.agg (encSpec s), .agg (encJob j)] =
  .ite (!mayS s) noB (.ite (!j.On) (.ret (.bool (offJ j), [])) (.ite (badR s j) noB (.ret (.bool (fineR s j), [])))) := by kernel_rfl
theorem fineR_iff {s : Fu.Spec} {j : Fu.Job} : fineR s j = true ↔ j.C = s.C ∧ (1 ≤ j.D ∧ j.D ≤ 20) ∧ (0 ≤ j.Ran ∧ j.Ran < j.C ∧ j.Ran < j.D) := by
  simp only [fineR, Bool.and_eq_true, beq_iff_eq, decide_eq_true_eq]
  omega
theorem badR_iff {s : Fu.Spec} {j : Fu.Job} : badR s j = false ↔ (0 ≤ j.J ∧ j.J ≤ 1099511627776) ∧ (0 ≤ j.Rel ∧ j.Rel < j.Due ∧ j.Due ≤ 1099511627776) ∧ j.Mand = onP s.M s.K j.J := by
  have e : (!j.Mand == onP s.M s.K j.J) = false ↔ j.Mand = onP s.M s.K j.J := by cases j.Mand <;> cases onP s.M s.K j.J <;> simp
  simp only [badR, Bool.or_eq_false_iff, decide_eq_false_iff_not, e]
  constructor
  · rintro ⟨h1, h2, h3, h4, h5, h6⟩; exact ⟨⟨by omega, by omega⟩, ⟨by omega, by omega, by omega⟩, h6⟩
  · rintro ⟨⟨h1, h2⟩, ⟨h3, h4, h5⟩, h6⟩; exact ⟨by omega, by omega, by omega, by omega, by omega, h6⟩
theorem rJobMay_rez (s : Fu.Spec) (j : Fu.Job) : ∃ t, callC c16 100 59 [.agg (encSpec s), .agg (encJob j)] = t ∧ Rez t (.bool (mayJ s j), []) := by
  refine ⟨_, fRJobMay s j, ite_rez (fun h => noB_rez ?_) fun h1 => ite_rez (fun h => retB ?_) fun h2 => ite_rez (fun h => noB_rez ?_) fun h3 => retB ?_⟩
  · refine decide_eq_false fun ⟨h1, _⟩ => ?_
    rw [mayS_iff.2 h1] at h; cases h
  · have h1' : SpecOK s := mayS_iff.1 (by simpa using h1)
    have h' : j.On = false := by simpa using h
    rw [offJ_eq]
    unfold mayJ
    rw [decide_eq_decide]
    unfold JobOK
    constructor
    · intro e; exact ⟨h1', .inl ⟨h', e⟩⟩
    · rintro ⟨_, h | h⟩
      · exact h.2
      · rw [h'] at h; exact absurd h.1 (by decide)
  · refine decide_eq_false fun ⟨_, h4⟩ => ?_
    rcases h4 with h4 | ⟨_, h4, h5, _, _, _, h6⟩
    · rw [h4.1] at h2; cases h2
    · rw [badR_iff.2 ⟨h4, h5, h6⟩] at h; cases h
  · have h1' : SpecOK s := mayS_iff.1 (by simpa using h1)
    have h2' : j.On = true := by simpa using h2
    obtain ⟨h4, h5, h6⟩ := badR_iff.1 h3
    unfold mayJ
    rw [Bool.eq_iff_iff, decide_eq_true_eq, fineR_iff]
    unfold JobOK
    constructor
    · rintro ⟨h7, h8, h9⟩; exact ⟨h1', .inr ⟨h2', h4, h5, h7, h8, h9, h6⟩⟩
    · rintro ⟨_, h | ⟨_, _, _, h7, h8, h9, _⟩⟩
      · rw [h2'] at h; exact absurd h.1 (by decide)
      · exact ⟨h7, h8, h9⟩
theorem conRJobMay_valid : ValidCon c16.P 59 conJobMay := plainCon_valid c16_good 100 (by kernel_rfl) fun x => rJobMay_rez x.1 x.2
noncomputable def c17 : Cfg := c16.addQuiet 59 conJobMay
theorem c17_good : GoodCfg c17 := c16_good.addQuiet conRJobMay_valid plainCon_quiet

/-! ### job.New -/
def zeroJA : AV := .agg [.blit false, .lit .i64 0, .lit .i64 0, .lit .i64 0, .blit false, .lit .i64 0, .lit .i64 0, .lit .i64 0]
theorem zeroJ_as : AsArg zeroJA (.agg (encJob zeroJ)) := .agg (.cons (.blit rfl) (.cons (.lit rfl) (.cons (.lit rfl) (.cons (.lit rfl) (.cons (.blit rfl) (.cons (.lit rfl) (.cons (.lit rfl) (.cons (.lit rfl) .nil))))))))
def noNew : Tree (AV × List Blk) := .ret (.tup [zeroJA, .blit false], [])
def newT (s : Fu.Spec) (a b c d : Int) : Tree (AV × List Blk) := .ite (!mayJ s (jobOf s a b c d)) noNew (.ret (.tup [.agg [.blit true, .int .i64 a, .int .i64 b, .int .i64 c, .bool (onP s.M s.K a), .int .i64 s.C, .int .i64 d, .lit .i64 0], .blit true], []))
theorem newT_rez (s : Fu.Spec) (a b c d : Int) : Rez (newT s a b c d) (.tup [.agg (encJob (newJ s a b c d)), .bool (mayJ s (jobOf s a b c d))], []) := by
  unfold newT newJ
  cases h : mayJ s (jobOf s a b c d) with
  | true =>
    refine .itee rfl (.ret (.tup (.cons (.agg ?_) (.cons (.blit rfl) .nil))) rfl)
    exact .cons (.blit rfl) (.cons (.refl _) (.cons (.refl _) (.cons (.refl _) (.cons (.refl _) (.cons (.refl _) (.cons (.refl _) (.cons (.lit rfl) .nil)))))))
  | false => exact .itet rfl (.ret (.tup (.cons zeroJ_as (.cons (.blit rfl) .nil))) rfl)
def conNew : Con := plainCon (d5 dSpec dInt dInt dInt dInt) fun x => .tup [.agg (encJob (newJ x.1 x.2.1 x.2.2.1 x.2.2.2.1 x.2.2.2.2)), .bool (mayJ x.1 (jobOf x.1 x.2.1 x.2.2.1 x.2.2.2.1 x.2.2.2.2))]
theorem fNew (s : Fu.Spec) (a b c d : Int) : callC c17 100 39 [.agg (encSpec s), .int .i64 a, .int .i64 b, .int .i64 c, .int .i64 d] = newT s a b c d := by kernel_rfl
theorem conNew_valid : ValidCon c17.P 39 conNew := plainCon_valid c17_good 100 (by kernel_rfl) fun x => ⟨_, fNew x.1 x.2.1 x.2.2.1 x.2.2.2.1 x.2.2.2.2, newT_rez _ _ _ _ _⟩
noncomputable def c18 : Cfg := c17.addQuiet 39 conNew
theorem c18_good : GoodCfg c18 := c17_good.addQuiet conNew_valid plainCon_quiet
theorem fRNew (s : Fu.Spec) (a b c d : Int) : callC c18 100 40 [.agg (encSpec s), .int .i64 a, .int .i64 b, .int .i64 c, .int .i64 d] = newT s a b c d := by kernel_rfl
theorem conRNew_valid : ValidCon c18.P 40 conNew := plainCon_valid c18_good 100 (by kernel_rfl) fun x => ⟨_, fRNew x.1 x.2.1 x.2.2.1 x.2.2.2.1 x.2.2.2.2, newT_rez _ _ _ _ _⟩
noncomputable def c19 : Cfg := c18.addQuiet 40 conNew
theorem c19_good : GoodCfg c19 := c18_good.addQuiet conRNew_valid plainCon_quiet

/-! ### job.Worst, job.Step, job.At -/
def smallC (j : Fu.Job) : Prop := -1000000 ≤ j.C ∧ j.C ≤ 1000000 ∧ -1000000 ≤ j.Ran ∧ j.Ran ≤ 1000000
theorem fWorst (j : Fu.Job) : callC c19 100 28 [.agg (encJob j)] = .ite (!j.On) (.ret (.lit .i64 0, [])) (.ret (.int .i64 (maxI (IntKind.i64.wrap (j.C - j.Ran)) 0), [])) := by kernel_rfl
theorem maxI_eq (a b : Int) : maxI a b = max a b := by unfold maxI; split <;> omega
theorem minI_eq (a b : Int) : minI a b = min a b := by unfold minI; split <;> omega
def conWorst : Con := flatCon (d1 dJob) smallC fun j => .int .i64 (worst j)
theorem conWorst_valid : ValidCon c19.P 28 conWorst := flatCon_valid c19_good 100 (by kernel_rfl) fun j ⟨h1, h2, h3, h4⟩ => ⟨_, fWorst j, ite_rez (fun h => .ret (.lit (by simp at h; simp [worst, h])) rfl) fun h => .ret (.eq (by
  simp at h
  rw [wrap_fits (by omega) (by omega), maxI_eq]
  simp [worst, h])) rfl⟩
noncomputable def c20 : Cfg := c19.addQuiet 28 conWorst
theorem c20_good : GoodCfg c20 := c19_good.addQuiet conWorst_valid flatCon_quiet
theorem fRWorst (j : Fu.Job) : callC c20 100 55 [.agg (encJob j)] = .ite (!j.On || decide (j.C ≤ j.Ran)) (.ret (.lit .i64 0, [])) (.ret (.int .i64 (IntKind.i64.wrap (j.C - j.Ran)), [])) := by kernel_rfl
theorem conRWorst_valid : ValidCon c20.P 55 conWorst := flatCon_valid c20_good 100 (by kernel_rfl) fun j ⟨h1, h2, h3, h4⟩ => ⟨_, fRWorst j, ite_rez (fun h => .ret (.lit (by
  simp at h
  unfold worst
  cases ho : j.On with
  | false => rfl
  | true => rw [ho] at h; simp at h; simp; omega)) rfl) fun h => .ret (.eq (by
  simp at h
  rw [wrap_fits (by omega) (by omega)]
  simp [worst, h]
  omega)) rfl⟩
noncomputable def c21 : Cfg := c20.addQuiet 55 conWorst
theorem c21_good : GoodCfg c21 := c20_good.addQuiet conRWorst_valid flatCon_quiet

def stepTr (j : Fu.Job) : Tree (AV × List Blk) := .ite (!j.On) (.ret (.tup [zeroJA, .lit .i64 3], [])) (.ite (decide (IntKind.i64.wrap (j.Ran + 1) ≥ j.D)) (.ret (.tup [zeroJA, .lit .i64 1], [])) (.ite (decide (IntKind.i64.wrap (j.Ran + 1) ≥ j.C)) (.ret (.tup [zeroJA, .lit .i64 2], []))
  (.ret (.tup [.agg (encJob { j with Ran := IntKind.i64.wrap (j.Ran + 1) }), .lit .i64 0], []))))
theorem stepTr_rez {j : Fu.Job} (hs : smallC j) : Rez (stepTr j) (.tup [.agg (encJob (stepJ j)), .int .i64 (stepF j)], []) := by
  obtain ⟨h1, h2, h3, h4⟩ := hs
  have e : IntKind.i64.wrap (j.Ran + 1) = j.Ran + 1 := wrap_fits (by omega) (by omega)
  unfold stepTr
  rw [e]
  refine ite_rez (fun h => ?_) fun h => ite_rez (fun h5 => ?_) fun h5 => ite_rez (fun h6 => ?_) fun h6 => ?_
  · have ho : j.On = false := by simpa using h
    refine .ret (.tup (.cons ?_ (.cons (.lit (by simp [stepF, ho])) .nil))) rfl
    rw [show stepJ j = zeroJ by simp [stepJ, ho]]; exact zeroJ_as
  · have ho : j.On = true := by simpa using h
    refine .ret (.tup (.cons ?_ (.cons (.lit (by simp only [stepF, ho, h5]; rfl)) .nil))) rfl
    rw [show stepJ j = zeroJ by simp only [stepJ, ho, h5]; rfl]; exact zeroJ_as
  · have ho : j.On = true := by simpa using h
    refine .ret (.tup (.cons ?_ (.cons (.lit (by simp only [stepF, ho, h5, h6]; rfl)) .nil))) rfl
    rw [show stepJ j = zeroJ by simp only [stepJ, ho, h5, h6]; rfl]; exact zeroJ_as
  · have ho : j.On = true := by simpa using h
    refine .ret (.tup (.cons (.eq ?_) (.cons (.lit (by simp only [stepF, ho, h5, h6]; rfl)) .nil))) rfl
    rw [show stepJ j = ran1 j by simp only [stepJ, ho, h5, h6]; rfl]; rfl
def conStep : Con := flatCon (d1 dJob) smallC fun j => .tup [.agg (encJob (stepJ j)), .int .i64 (stepF j)]
theorem fStep (j : Fu.Job) : callC c21 100 26 [.agg (encJob j)] = stepTr j := by kernel_rfl
theorem conStep_valid : ValidCon c21.P 26 conStep := flatCon_valid c21_good 100 (by kernel_rfl) fun j h => ⟨_, fStep j, stepTr_rez h⟩
noncomputable def c22 : Cfg := c21.addQuiet 26 conStep
theorem c22_good : GoodCfg c22 := c21_good.addQuiet conStep_valid flatCon_quiet
theorem fRStep (j : Fu.Job) : callC c22 100 35 [.agg (encJob j)] = stepTr j := by kernel_rfl
theorem conRStep_valid : ValidCon c22.P 35 conStep := flatCon_valid c22_good 100 (by kernel_rfl) fun j h => ⟨_, fRStep j, stepTr_rez h⟩
noncomputable def c23 : Cfg := c22.addQuiet 35 conStep
theorem c23_good : GoodCfg c23 := c22_good.addQuiet conRStep_valid flatCon_quiet
def conAt : Con := plainCon (d2 dJob dInt) fun x => .tup [.agg (encJob (atJ x.1 x.2)), .int .i64 (atF x.1 x.2)]
theorem atStay_rez {j : Fu.Job} {n : Int} (h : overJ j n = false) : Rez (.ret (.tup [.agg (encJob j), .lit .i64 0], [])) (.tup [.agg (encJob (atJ j n)), .int .i64 (atF j n)], []) :=
  .ret (.tup (.cons (.eq (by simp [atJ, h])) (.cons (.lit (by simp [atF, h])) .nil))) rfl
theorem atOver_rez {j : Fu.Job} {n : Int} (h : overJ j n = true) : Rez (.ret (.tup [zeroJA, .lit .i64 3], [])) (.tup [.agg (encJob (atJ j n)), .int .i64 (atF j n)], []) := by
  refine .ret (.tup (.cons ?_ (.cons (.lit (by simp [atF, h])) .nil))) rfl
  rw [show atJ j n = zeroJ by simp [atJ, h]]; exact zeroJ_as
theorem fAt (j : Fu.Job) (n : Int) : callC c23 100 27 [.agg (encJob j), .int .i64 n] = .ite (!j.On || decide (n < j.Due)) (.ret (.tup [.agg (encJob j), .lit .i64 0], [])) (.ret (.tup [zeroJA, .lit .i64 3], [])) := by kernel_rfl
theorem conAt_valid : ValidCon c23.P 27 conAt := plainCon_valid c23_good 100 (by kernel_rfl) fun x => ⟨_, fAt x.1 x.2, ite_rez (fun h => atStay_rez (by
  unfold overJ
  cases ho : x.1.On with
  | false => rfl
  | true => rw [ho] at h; simp at h; simp; omega)) fun h => atOver_rez (by simp at h; unfold overJ; rw [h.1]; simp; omega)⟩
noncomputable def c24 : Cfg := c23.addQuiet 27 conAt
theorem c24_good : GoodCfg c24 := c23_good.addQuiet conAt_valid plainCon_quiet
theorem fRAt (j : Fu.Job) (n : Int) : callC c24 100 37 [.agg (encJob j), .int .i64 n] = .ite (j.On && decide (n ≥ j.Due)) (.ret (.tup [zeroJA, .lit .i64 3], [])) (.ret (.tup [.agg (encJob j), .lit .i64 0], [])) := by kernel_rfl
theorem conRAt_valid : ValidCon c24.P 37 conAt := plainCon_valid c24_good 100 (by kernel_rfl) fun x => ⟨_, fRAt x.1 x.2, ite_rez (fun h => atOver_rez h) fun h => atStay_rez h⟩
noncomputable def c25 : Cfg := c24.addQuiet 37 conAt
theorem c25_good : GoodCfg c25 := c24_good.addQuiet conRAt_valid plainCon_quiet

end Go.Fx
