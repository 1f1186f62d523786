/- Plain laws: descriptions, units, jobs. -/
import Derived.Test.YtccfojgceohciaaPlA
namespace Go.Fx
open Go

def SpecOK (s : Fu.Spec) : Prop := (1 ≤ s.C ∧ s.C ≤ 6) ∧ (s.C ≤ s.T ∧ s.T ≤ s.Max ∧ s.Max ≤ 48) ∧ (1 ≤ s.M ∧ s.M ≤ s.K ∧ s.K ≤ 6) ∧ (0 ≤ s.E ∧ s.E ≤ 8) ∧ (0 < s.E ∨ s.T = s.Max)
instance (s : Fu.Spec) : Decidable (SpecOK s) := by unfold SpecOK; infer_instance
def mayS (s : Fu.Spec) : Bool := decide (SpecOK s)
theorem mayS_iff {s : Fu.Spec} : mayS s = true ↔ SpecOK s := decide_eq_true_iff
def perOK (s : Fu.Spec) (p : Int) : Bool := mayS s && (decide (s.T ≤ p) && decide (p ≤ s.Max))
/-- How many units a task has at a period. -/
def unitsV (s : Fu.Spec) (p : Int) : Int := bif perOK s p then cdiv (s.C * s.M * 1048576) (s.K * p) else 0
theorem perOK_iff {s : Fu.Spec} {p : Int} : perOK s p = true ↔ SpecOK s ∧ s.T ≤ p ∧ p ≤ s.Max := by simp [perOK, mayS_iff]
theorem mul_le_of {a b x y : Int} (ha : 0 ≤ a) (hb : 0 ≤ b) (hx : a ≤ x) (hy : b ≤ y) : 0 ≤ a * b ∧ a * b ≤ x * y :=
  ⟨Int.mul_nonneg ha hb, Int.mul_le_mul hx hy hb (by omega)⟩
theorem unitsV_pos {s : Fu.Spec} {p : Int} (h : perOK s p = true) : 0 < unitsV s p := by
  obtain ⟨⟨h1, h2, h3, h4, h5⟩, h6, h7⟩ := perOK_iff.1 h
  have e : unitsV s p = cdiv (s.C * s.M * 1048576) (s.K * p) := by simp [unitsV, h]
  have k1 := Int.mul_pos (show 0 < s.C by omega) (show 0 < s.M by omega)
  have k2 := Int.mul_pos (show 0 < s.K by omega) (show 0 < p by omega)
  rw [e]
  obtain ⟨h8, _⟩ := cdiv_spec (a := s.C * s.M * 1048576) k2
  rcases Int.lt_or_le 0 (cdiv (s.C * s.M * 1048576) (s.K * p)) with h9 | h9
  · exact h9
  · have := Int.mul_nonpos_of_nonpos_of_nonneg h9 (show 0 ≤ s.K * p by omega)
    omega
theorem unitsV_zero {s : Fu.Spec} {p : Int} : unitsV s p = 0 ↔ perOK s p = false := by
  constructor
  · intro h
    cases h1 : perOK s p with
    | false => rfl
    | true => have := unitsV_pos h1; omega
  · intro h; simp [unitsV, h]

/-! ### jobs -/
def zeroJ : Fu.Job := ⟨false, 0, 0, 0, false, 0, 0, 0⟩
def dJob : Dc Fu.Job := ⟨fun v => match v with | .agg cs => decJob cs | _ => none, fun j => .agg (encJob j), fun v a h => by
  split at h
  · exact ⟨fun hr => by
      cases hr with
      | agg hr => exact .agg (decJob_reps h hr) .nil⟩
  · cases h⟩
def dSpec : Dc Fu.Spec := dRow .spec
def JobOK (s : Fu.Spec) (j : Fu.Job) : Prop :=
  SpecOK s ∧ ((j.On = false ∧ j = zeroJ) ∨ (j.On = true ∧ (0 ≤ j.J ∧ j.J ≤ 1099511627776) ∧ (0 ≤ j.Rel ∧ j.Rel < j.Due ∧ j.Due ≤ 1099511627776) ∧ j.C = s.C ∧ (1 ≤ j.D ∧ j.D ≤ 20) ∧ (0 ≤ j.Ran ∧ j.Ran < j.C ∧ j.Ran < j.D) ∧ j.Mand = onP s.M s.K j.J))
instance (s : Fu.Spec) (j : Fu.Job) : Decidable (JobOK s j) := by unfold JobOK; infer_instance
def mayJ (s : Fu.Spec) (j : Fu.Job) : Bool := decide (JobOK s j)
def jobOf (s : Fu.Spec) (n rel due d : Int) : Fu.Job := ⟨true, n, rel, due, onP s.M s.K n, s.C, d, 0⟩
def newJ (s : Fu.Spec) (n rel due d : Int) : Fu.Job := bif mayJ s (jobOf s n rel due d) then jobOf s n rel due d else zeroJ
def worst (j : Fu.Job) : Int := bif j.On then max (j.C - j.Ran) 0 else 0
/-- One that ran: the job, and its fate. -/
def ran1 (j : Fu.Job) : Fu.Job := { j with Ran := j.Ran + 1 }
def stepJ (j : Fu.Job) : Fu.Job := bif j.On then (bif decide (j.Ran + 1 ≥ j.D) || decide (j.Ran + 1 ≥ j.C) then zeroJ else ran1 j) else zeroJ
def stepF (j : Fu.Job) : Int := bif j.On then (bif decide (j.Ran + 1 ≥ j.D) then 1 else bif decide (j.Ran + 1 ≥ j.C) then 2 else 0) else 3
def overJ (j : Fu.Job) (now : Int) : Bool := j.On && decide (j.Due ≤ now)
def atJ (j : Fu.Job) (now : Int) : Fu.Job := bif overJ j now then zeroJ else j
def atF (j : Fu.Job) (now : Int) : Int := bif overJ j now then 3 else 0

end Go.Fx
