/- Plain laws: quotients, patterns. -/
import Derived.Test.YtccfojgceohciaaFxY
namespace Go.Fx
open Go

/-- A quotient that is rounded up. -/
def cdiv (a b : Int) : Int := -((-a) / b)
theorem cdiv_spec {a b : Int} (hb : 0 < b) : a ≤ cdiv a b * b ∧ cdiv a b * b < a + b := by
  unfold cdiv
  have h1 := Int.mul_ediv_add_emod (-a) b
  have h2 := Int.emod_nonneg (-a) (show b ≠ 0 by omega)
  have h3 := Int.emod_lt_of_pos (-a) hb
  have h4 : -(-a / b) * b = -(b * (-a / b)) := by rw [Int.neg_mul, Int.mul_comm]
  omega
theorem cdiv_unique {a b n : Int} (hb : 0 < b) (h1 : a ≤ n * b) (h2 : n * b < a + b) : cdiv a b = n := by
  obtain ⟨h3, h4⟩ := cdiv_spec (a := a) hb
  have h5 : cdiv a b * b < (n + 1) * b := by rw [Int.add_mul]; omega
  have h6 : n * b < (cdiv a b + 1) * b := by rw [Int.add_mul]; omega
  have h7 := Int.lt_of_mul_lt_mul_right h5 (by omega)
  have h8 := Int.lt_of_mul_lt_mul_right h6 (by omega)
  omega
theorem cdiv_le_iff {a b n : Int} (hb : 0 < b) : cdiv a b ≤ n ↔ a ≤ n * b := by
  obtain ⟨h3, h4⟩ := cdiv_spec (a := a) hb
  constructor
  · intro h
    have := Int.mul_le_mul_of_nonneg_right h (show 0 ≤ b by omega)
    omega
  · intro h
    have h5 : cdiv a b * b < (n + 1) * b := by rw [Int.add_mul]; omega
    have h7 := Int.lt_of_mul_lt_mul_right h5 (by omega)
    omega
theorem cdiv_mono {a a' b : Int} (hb : 0 < b) (h : a ≤ a') : cdiv a b ≤ cdiv a' b := by
  rw [cdiv_le_iff hb]
  have := (cdiv_spec (a := a') hb).1
  omega
theorem cdiv_nonneg {a b : Int} (hb : 0 < b) (h : 0 ≤ a) : 0 ≤ cdiv a b := by
  obtain ⟨h3, _⟩ := cdiv_spec (a := a) hb
  rcases Int.lt_or_le (cdiv a b) 0 with h1 | h1
  · have := Int.mul_neg_of_neg_of_pos h1 hb
    omega
  · exact h1
theorem cdiv_le_self {a b : Int} (hb : 0 < b) (h : 0 ≤ a) : cdiv a b ≤ a := by
  rw [cdiv_le_iff hb]
  have := Int.mul_le_mul_of_nonneg_left (show 1 ≤ b by omega) h
  omega
theorem tdiv_up {a b : Int} (ha : 0 ≤ a) (hb : 0 < b) : a.tdiv b + minI (a.tmod b) 1 = cdiv a b := by
  rw [Int.tdiv_eq_ediv_of_nonneg ha, Int.tmod_eq_emod_of_nonneg ha]
  have h1 := Int.mul_ediv_add_emod a b
  have h2 := Int.emod_nonneg a (show b ≠ 0 by omega)
  have h3 := Int.emod_lt_of_pos a hb
  symm
  unfold minI
  split
  · refine cdiv_unique hb ?_ ?_ <;> rw [Int.add_mul, Int.mul_comm] <;> omega
  · rcases (show a % b = 0 ∨ a % b = 1 by omega) with h4 | h4
    · rw [h4] at h1 ⊢
      refine cdiv_unique hb ?_ ?_ <;> rw [Int.add_mul, Int.mul_comm] <;> omega
    · rw [h4] at h1 ⊢
      refine cdiv_unique hb ?_ ?_ <;> rw [Int.add_mul, Int.mul_comm] <;> omega
def ratioOK (a b : Int) : Bool := decide (a ≥ 0) && decide (a ≤ 4611686018427387904) && (decide (b ≥ 1) && decide (b ≤ 4611686018427387904))
def ceilV (a b : Int) : Int := bif ratioOK a b then cdiv a b else 0
theorem ratioOK_iff {a b : Int} : ratioOK a b = true ↔ (0 ≤ a ∧ a ≤ 4611686018427387904) ∧ 1 ≤ b ∧ b ≤ 4611686018427387904 := by
  simp [ratioOK]
theorem ceilV_of {a b : Int} (h0 : 0 ≤ a) (h1 : a ≤ 4611686018427387904) (h2 : 1 ≤ b) (h3 : b ≤ 4611686018427387904) : ceilV a b = cdiv a b := by
  have : ratioOK a b = true := ratioOK_iff.2 ⟨⟨h0, h1⟩, h2, h3⟩
  simp [ceilV, this]

/-! ### patterns -/
def mayP (m k : Int) : Bool := decide (m ≥ 1) && (decide (m ≤ k) && decide (k ≤ 6))
def inJ (n : Int) : Bool := decide (n ≥ 0) && decide (n ≤ 1099511627776)
/-- Whether a job is mandatory. -/
def mandJ (m k j : Int) : Bool := decide (cdiv ((j + 1) * m) k > cdiv (j * m) k)
def onP (m k j : Int) : Bool := mayP m k && (inJ j && mandJ m k j)

theorem cdiv_add {a b q : Int} (hb : 0 < b) : cdiv (a + q * b) b = cdiv a b + q := by
  obtain ⟨h1, h2⟩ := cdiv_spec (a := a) hb
  refine cdiv_unique hb ?_ ?_ <;> rw [Int.add_mul] <;> omega
/-- Which jobs are mandatory repeats. -/
theorem mandJ_mod {m k j : Int} (hk : 0 < k) : mandJ m k j = mandJ m k (j % k) := by
  have h1 := Int.mul_ediv_add_emod j k
  have e1 : j * m = j % k * m + (j / k * m) * k := by
    conv => lhs; rw [← h1]
    rw [Int.add_mul, Int.add_comm, Int.mul_assoc, Int.mul_comm k, Int.mul_assoc]
  have e2 : (j + 1) * m = (j % k + 1) * m + (j / k * m) * k := by rw [Int.add_mul, Int.add_mul, e1]; omega
  unfold mandJ
  rw [e1, e2, cdiv_add hk, cdiv_add hk]
  congr 1
  apply propext
  omega
/-- As what is left tells. -/
def evenJ (m k j : Int) : Bool := decide (j * m % k = 0) || decide (j * m % k > k - m)
theorem mandJ_even {m k j : Int} (hm : 1 ≤ m) (hk : m ≤ k) : mandJ m k j = evenJ m k j := by
  have h1 := Int.mul_ediv_add_emod (j * m) k
  have h2 := Int.emod_nonneg (j * m) (show k ≠ 0 by omega)
  have h3 := Int.emod_lt_of_pos (j * m) (show 0 < k by omega)
  have e1 : j * m = j * m % k + (j * m / k) * k := by rw [Int.mul_comm (j * m / k)]; omega
  have e2 : (j + 1) * m = (j * m % k + m) + (j * m / k) * k := by rw [Int.add_mul, Int.one_mul]; omega
  have hk0 : 0 < k := by omega
  have c1 : cdiv (j * m) k = cdiv (j * m % k) k + j * m / k := (congrArg (fun x => cdiv x k) e1).trans (cdiv_add hk0)
  have c2 : cdiv ((j + 1) * m) k = cdiv (j * m % k + m) k + j * m / k := (congrArg (fun x => cdiv x k) e2).trans (cdiv_add hk0)
  unfold mandJ evenJ
  rw [c1, c2, Bool.eq_iff_iff]
  simp only [Bool.or_eq_true, decide_eq_true_eq]
  by_cases h0 : j * m % k = 0
  · have d1 : cdiv (j * m % k) k = 0 := cdiv_unique hk0 (by omega) (by omega)
    have d2 : cdiv (j * m % k + m) k = 1 := cdiv_unique hk0 (by omega) (by omega)
    constructor
    · intro _; exact .inl h0
    · intro _; omega
  · have d1 : cdiv (j * m % k) k = 1 := cdiv_unique hk0 (by omega) (by omega)
    by_cases h4 : j * m % k > k - m
    · have d2 : cdiv (j * m % k + m) k = 2 := cdiv_unique hk0 (by omega) (by omega)
      constructor
      · intro _; exact .inr h4
      · intro _; omega
    · have d2 : cdiv (j * m % k + m) k = 1 := cdiv_unique hk0 (by omega) (by omega)
      constructor
      · intro h; omega
      · intro h; rcases h with h | h <;> omega

end Go.Fx
