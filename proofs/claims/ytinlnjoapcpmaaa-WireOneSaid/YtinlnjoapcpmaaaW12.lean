/- The wire seat's plain laws: bytes and numbers. -/
import Derived.Test.YtinlnjoapcpmaaaW11
namespace Go.Fx
open Go Go.Proofs

theorem shl8 {m : Int} (h0 : 0 ≤ m) (h1 : m < 4503599627370496) : shlI .i64 m 8 = m * 256 := by
  have : shlI .i64 m 8 = IntKind.i64.wrap (m * 256) := by
    unfold shlI
    simp [IntKind.bits]
  rw [this, wrap_fits (by omega) (by omega)]
theorem or8 {m b : Int} (h0 : 0 ≤ m) (h1 : m < 4503599627370496) (h2 : 0 ≤ b) (h3 : b ≤ 255) : orI .i64 (m * 256) b = m * 256 + b := by
  obtain ⟨m, rfl⟩ := Int.eq_ofNat_of_zero_le h0
  obtain ⟨b, rfl⟩ := Int.eq_ofNat_of_zero_le h2
  have e1 : (BitVec.ofInt 64 ((m : Int) * 256)).toNat = m * 256 := by
    rw [BitVec.toNat_ofInt]; omega
  have e2 : (BitVec.ofInt 64 (b : Int)).toNat = b := by
    rw [BitVec.toNat_ofInt]; omega
  have e3 : m * 256 ||| b = m * 256 + b := by
    have := Nat.two_pow_add_eq_or_of_lt (i := 8) (b := b) (by omega) m
    rw [show 2 ^ 8 * m = m * 256 by omega] at this
    exact this.symm
  show IntKind.i64.wrap (((BitVec.ofInt 64 ((m : Int) * 256) ||| BitVec.ofInt 64 (b : Int)).toNat : Nat) : Int) = _
  rw [BitVec.toNat_or, e1, e2, e3, wrap_fits (by omega) (by omega)]
  omega
theorem stepG_eq {m b : Int} (h0 : 0 ≤ m) (h1 : m < 4503599627370496) (h2 : 0 ≤ b) (h3 : b ≤ 255) : stepG m b = m * 256 + b := by
  unfold stepG
  rw [shl8 h0 h1, wrap_fits (by omega) (by omega), or8 h0 h1 h2 h3]

def bytesOK (b : List Int) : Prop := ∀ x ∈ b, 0 ≤ x ∧ x ≤ 255
theorem bytesOK.cons {x : Int} {b : List Int} (h : bytesOK (x :: b)) : (0 ≤ x ∧ x ≤ 255) ∧ bytesOK b := ⟨h x (by simp), fun y hy => h y (by simp [hy])⟩

/-- What six-byte numbers come to, and fewer. -/
theorem getL1 {a : Int} (ha : 0 ≤ a ∧ a ≤ 255) : getL 0 [a] = a := by
  simp only [getL]; rw [stepG_eq (by omega) (by omega) ha.1 ha.2]; omega
theorem getL2 {a b : Int} (ha : 0 ≤ a ∧ a ≤ 255) (hb : 0 ≤ b ∧ b ≤ 255) : getL 0 [a, b] = a * 256 + b := by
  simp only [getL]; rw [stepG_eq (by omega) (by omega) ha.1 ha.2, stepG_eq (by omega) (by omega) hb.1 hb.2]; omega
theorem getL6 {a b c d e f : Int} (ha : 0 ≤ a ∧ a ≤ 255) (hb : 0 ≤ b ∧ b ≤ 255) (hc : 0 ≤ c ∧ c ≤ 255) (hd : 0 ≤ d ∧ d ≤ 255) (he : 0 ≤ e ∧ e ≤ 255) (hf : 0 ≤ f ∧ f ≤ 255) :
    getL 0 [a, b, c, d, e, f] = ((((a * 256 + b) * 256 + c) * 256 + d) * 256 + e) * 256 + f := by
  simp only [getL]
  rw [stepG_eq (by omega) (by omega) ha.1 ha.2, stepG_eq (by omega) (by omega) hb.1 hb.2, stepG_eq (by omega) (by omega) hc.1 hc.2, stepG_eq (by omega) (by omega) hd.1 hd.2, stepG_eq (by omega) (by omega) he.1 he.2, stepG_eq (by omega) (by omega) hf.1 hf.2]
  omega

theorem shr_of {n : Int} (k : Nat) (hk : k ≤ 64) : shrI .i64 n (k : Int) = n / 2 ^ k := by
  unfold shrI
  have h1 : (k : Int).toNat = k := by simp
  have h2 : min k IntKind.i64.bits = k := by simp [IntKind.bits]; omega
  rw [h1, h2, Int.fdiv_eq_ediv_of_nonneg _ (Int.le_of_lt (Int.pow_pos (by omega)))]
theorem byteOf_of (n : Int) (k : Nat) (hk : k ≤ 64) : byteOf n k = n / 2 ^ k % 256 := by
  unfold byteOf; rw [shr_of k hk, wrap_u8]
theorem byteOf0 (n : Int) : byteOf n 0 = n % 256 := by have := byteOf_of n 0 (by omega); simpa using this
theorem byteOf8 (n : Int) : byteOf n 8 = n / 256 % 256 := by have := byteOf_of n 8 (by omega); simpa using this
theorem byteOf16 (n : Int) : byteOf n 16 = n / 65536 % 256 := by have := byteOf_of n 16 (by omega); simpa using this
theorem byteOf24 (n : Int) : byteOf n 24 = n / 16777216 % 256 := by have := byteOf_of n 24 (by omega); simpa using this
theorem byteOf32 (n : Int) : byteOf n 32 = n / 4294967296 % 256 := by have := byteOf_of n 32 (by omega); simpa using this
theorem byteOf40 (n : Int) : byteOf n 40 = n / 1099511627776 % 256 := by have := byteOf_of n 40 (by omega); simpa using this
theorem byteOf_ok (n s : Int) : 0 ≤ byteOf n s ∧ byteOf n s ≤ 255 := by unfold byteOf; rw [wrap_u8]; omega
theorem wrap8_ok (n : Int) : 0 ≤ IntKind.u8.wrap n ∧ IntKind.u8.wrap n ≤ 255 := by rw [wrap_u8]; omega

theorem badF1 (n : Int) : badF n 1 = !(decide (0 ≤ n) && decide (n ≤ 255)) := by
  have e : IntKind.i64.wrap (8 * 1) = ((8 : Nat) : Int) := by decide
  unfold badF
  rw [e, shr_of 8 (by omega), Bool.eq_iff_iff]
  simp only [Bool.or_eq_true, decide_eq_true_eq, Bool.not_eq_true', Bool.and_eq_false_iff, decide_eq_false_iff_not]
  omega
theorem badF2 (n : Int) : badF n 2 = !(decide (0 ≤ n) && decide (n ≤ 65535)) := by
  have e : IntKind.i64.wrap (8 * 2) = ((16 : Nat) : Int) := by decide
  unfold badF
  rw [e, shr_of 16 (by omega), Bool.eq_iff_iff]
  simp only [Bool.or_eq_true, decide_eq_true_eq, Bool.not_eq_true', Bool.and_eq_false_iff, decide_eq_false_iff_not]
  omega

end Go.Fx
