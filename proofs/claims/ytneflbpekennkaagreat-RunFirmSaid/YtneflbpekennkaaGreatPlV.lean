import Derived.Test.YtneflbpekennkaaGreatPlU
/- Plain laws: a task, one time. -/
namespace Go.Fx
open Go

/-! ### rings -/
theorem ring_B {h : Fu.Ring} (hr : ringOK h = true) : (0 ≤ h.N ∧ h.N ≤ 60) ∧ 0 ≤ h.B ∧ h.B < 2 ^ h.N.toNat := by
  have hN := ringOK_N hr
  unfold ringOK at hr
  simp only [Bool.and_eq_true, beq_iff_eq] at hr
  have h0 := hr.2.2
  unfold shrI at h0
  rw [show min h.N.toNat (IntKind.bits .u64) = h.N.toNat by show min h.N.toNat 64 = _; omega] at h0
  have hp : (0 : Int) < 2 ^ h.N.toNat := Int.pow_pos (by omega)
  rw [Int.fdiv_eq_ediv_of_nonneg _ (Int.le_of_lt hp)] at h0
  refine ⟨hN, ?_, ?_⟩
  · exact ((Int.ediv_nonneg_iff_of_pos hp).1 (by omega))
  · exact Int.lt_of_ediv_lt_of_pos hp h0
where
  Int.lt_of_ediv_lt_of_pos {a b : Int} (hb : 0 < b) (h : a / b = 0) : a < b := by
    have h1 := Int.emod_add_mul_ediv a b
    have h2 := Int.emod_lt_of_pos a hb
    rw [h, Int.mul_zero, Int.add_zero] at h1
    omega
theorem pow60 {n : Nat} (h : n ≤ 60) : (2 : Int) ^ n ≤ 1152921504606846976 := by
  have : (2 : Nat) ^ n ≤ 2 ^ 60 := Nat.pow_le_pow_right (by omega) h
  have h2 : ((2 ^ n : Nat) : Int) ≤ ((2 ^ 60 : Nat) : Int) := Int.ofNat_le.2 this
  rw [Int.natCast_pow] at h2
  exact Int.le_trans h2 (by decide)
theorem mask60 : maskV 60 = 1152921504606846975 := by decide +kernel
theorem and_mask {x : Int} (h0 : 0 ≤ x) (h1 : x < 18446744073709551616) : andI .u64 x 1152921504606846975 = x % 1152921504606846976 := by
  obtain ⟨n, rfl⟩ : ∃ n : Nat, x = n := ⟨x.toNat, by omega⟩
  have e1 : (BitVec.ofInt 64 (n : Int)).toNat = n := by
    rw [BitVec.toNat_ofInt]; omega
  have e2 : (BitVec.ofInt 64 (1152921504606846975 : Int)).toNat = 2 ^ 60 - 1 := by decide +kernel
  unfold andI
  show IntKind.u64.wrap (((BitVec.ofInt 64 (n : Int) &&& BitVec.ofInt 64 (1152921504606846975 : Int)).toNat : Nat) : Int) = _
  rw [BitVec.toNat_and, e1, e2, Nat.and_two_pow_sub_one_eq_mod]
  have h3 : n % 2 ^ 60 < 2 ^ 60 := Nat.mod_lt _ (by decide)
  have e3 : ((n % 2 ^ 60 : Nat) : Int) = (n : Int) % 1152921504606846976 := by
    rw [Int.natCast_emod]; rfl
  rw [e3]
  have h4 := Int.emod_nonneg (n : Int) (show (1152921504606846976 : Int) ≠ 0 by decide)
  have h5 := Int.emod_lt_of_pos (n : Int) (show (0 : Int) < 1152921504606846976 by decide)
  show ((n : Int) % 1152921504606846976) % 18446744073709551616 = _
  exact Int.emod_eq_of_lt h4 (by omega)
theorem or_one {x : Int} (h0 : 0 ≤ x) (h1 : 2 * x + 1 < 18446744073709551616) : orI .u64 (2 * x) 1 = 2 * x + 1 := by
  obtain ⟨n, rfl⟩ : ∃ n : Nat, x = n := ⟨x.toNat, by omega⟩
  have e1 : (BitVec.ofInt 64 (2 * (n : Int))).toNat = 2 * n := by
    rw [BitVec.toNat_ofInt]; omega
  have e2 : (BitVec.ofInt 64 (1 : Int)).toNat = 1 := by decide +kernel
  unfold orI
  show IntKind.u64.wrap (((BitVec.ofInt 64 (2 * (n : Int)) ||| BitVec.ofInt 64 (1 : Int)).toNat : Nat) : Int) = _
  rw [BitVec.toNat_or, e1, e2]
  have e3 : 2 * n ||| 1 = 2 * n + 1 := by
    have := Nat.two_pow_add_eq_or_of_lt (i := 1) (b := 1) (by decide) n
    rw [Nat.pow_one] at this
    exact this.symm
  rw [e3]
  show ((2 * n + 1 : Nat) : Int) % 18446744073709551616 = _
  have : ((2 * n + 1 : Nat) : Int) = 2 * (n : Int) + 1 := by omega
  rw [this]
  exact Int.emod_eq_of_lt (by omega) (by omega)
theorem put_eq {h : Fu.Ring} (hr : ringOK h = true) (g : Bool) : putRing h g = ⟨min (h.N + 1) 60, (2 * h.B) % 1152921504606846976 + (bif g then 1 else 0)⟩ := by
  obtain ⟨⟨h0, h1⟩, h2, h3⟩ := ring_B hr
  have h4 := pow60 (n := h.N.toNat) (by omega)
  have e1 : shlI .u64 h.B 1 = 2 * h.B := by
    show (h.B * 2 ^ (min (1 : Int).toNat 64)) % 18446744073709551616 = _
    rw [show (2 : Int) ^ (min (1 : Int).toNat 64) = 2 by decide, Int.mul_comm]
    exact Int.emod_eq_of_lt (by omega) (by omega)
  have e2 : putB h = (2 * h.B) % 1152921504606846976 := by
    unfold putB ofRing
    rw [hr, mask60]
    simp only [cond_true]
    rw [e1]
    exact and_mask (by omega) (by omega)
  unfold putRing
  rw [e2]
  unfold ofRing
  rw [hr]
  simp only [cond_true]
  cases g with
  | false => simp
  | true =>
    simp only [cond_true]
    have e3 : (2 * h.B) % 1152921504606846976 = 2 * (h.B % 576460752303423488) := by omega
    rw [e3, or_one (by omega) (by omega)]
theorem put_ok {h : Fu.Ring} (hr : ringOK h = true) (g : Bool) : ringOK (putRing h g) = true := by
  obtain ⟨⟨h0, h1⟩, h2, h3⟩ := ring_B hr
  rw [put_eq hr]
  have hg : (0 : Int) ≤ (bif g then 1 else 0) ∧ (bif g then (1 : Int) else 0) ≤ 1 := by cases g <;> simp
  have hlt : (2 * h.B) % 1152921504606846976 + (bif g then 1 else 0) < 2 ^ (min (h.N + 1) 60).toNat := by
    by_cases hn : h.N = 60
    · rw [hn]
      rw [show (2 : Int) ^ (min ((60 : Int) + 1) 60).toNat = 1152921504606846976 by decide]
      omega
    · rw [show (min (h.N + 1) 60).toNat = h.N.toNat + 1 by omega, Int.pow_succ]
      have := pow60 (n := h.N.toNat + 1) (by omega)
      rw [Int.pow_succ] at this
      omega
  unfold ringOK
  simp only
  rw [decide_eq_true (show min (h.N + 1) 60 ≥ 0 by omega), decide_eq_true (show min (h.N + 1) 60 ≤ 60 by omega)]
  simp only [Bool.true_and, beq_iff_eq]
  unfold shrI
  rw [show min (min (h.N + 1) 60).toNat (IntKind.bits .u64) = (min (h.N + 1) 60).toNat by show min _ 64 = _; omega]
  have hp : (0 : Int) < 2 ^ (min (h.N + 1) 60).toNat := Int.pow_pos (by omega)
  rw [Int.fdiv_eq_ediv_of_nonneg _ (Int.le_of_lt hp)]
  exact Int.ediv_eq_zero_of_lt (by omega) hlt

/-! ### a task between its beginning and its end -/
def TB (now : Int) (u : Fu.Task) : Prop := (0 ≤ u.ID ∧ u.ID ≤ 549755813888) ∧ (1 ≤ u.P ∧ u.P ≤ 48) ∧ ringOK u.H = true ∧ perOK u.S u.Next = true ∧ (now < u.At ∧ u.At ≤ now + 48) ∧ (0 ≤ u.N ∧ u.N ≤ 549755813888) ∧ JobOK u.S u.J ∧
  (u.J.On = true → u.J.Rel < now + 1 ∧ u.J.Due = u.At ∧ u.N = u.J.J + 1) ∧ u.H.N = min (bif u.J.On then u.N - 1 else u.N) 60
theorem jobOK_on {s : Fu.Spec} {j : Fu.Job} (h : JobOK s j) (ho : j.On = true) : (0 ≤ j.J ∧ j.J ≤ 1099511627776) ∧ (0 ≤ j.Rel ∧ j.Rel < j.Due ∧ j.Due ≤ 1099511627776) ∧ j.C = s.C ∧ (1 ≤ j.D ∧ j.D ≤ 20) ∧ (0 ≤ j.Ran ∧ j.Ran < j.C ∧ j.Ran < j.D) ∧ j.Mand = onP s.M s.K j.J := by
  rcases h.2 with ⟨h1, _⟩ | ⟨_, h⟩
  · rw [ho] at h1; cases h1
  · exact h
theorem jobOK_off {s : Fu.Spec} {j : Fu.Job} (h : JobOK s j) (ho : j.On = false) : j = zeroJ := by
  rcases h.2 with ⟨_, h1⟩ | ⟨h1, _⟩
  · exact h1
  · rw [ho] at h1; cases h1
theorem mayK_N {t : Fu.Task} {now : Int} (h : mayK t now = true) : 0 ≤ t.N ∧ t.N ≤ 549755813888 := (mayK_iff.1 h).2.2.2.1.2.2.2.1
theorem overK_eq {t : Fu.Task} (h : 0 ≤ t.N ∧ t.N ≤ 549755813888) : overK t = bif t.J.On then t.N - 1 else t.N := by
  unfold overK
  cases t.J.On with
  | true => simp only [cond_true]; exact wrap_fits (by omega) (by omega)
  | false => rfl
theorem tkOK_TB {t : Fu.Task} {now : Int} (h : tkOK now t = true) (ha : t.At ≠ now) : TB now t := by
  obtain ⟨h1, h2⟩ := tkOK_iff.1 h
  have hN := mayK_N h1
  obtain ⟨k1, k2, k3, ⟨_, k5, k6, k7, _, k9⟩, k10, k11⟩ := mayK_iff.1 h1
  have e3 : (liveK t).At = t.At := rfl
  rw [e3] at k6
  rw [overK_eq hN, minI_eq] at k11
  refine ⟨k1, k2, k3, k5, by omega, hN, of_decide_eq_true k10, fun ho => ?_, k11⟩
  have ho' : (liveK t).J.On = true := by show (lookJ t).On = true; unfold lookJ; rw [ho]; exact ho
  rcases k9 with k9 | ⟨q1, q2, q3⟩
  · rw [ho'] at k9; cases k9
  · have e : (liveK t).J.Rel = t.J.Rel ∧ (liveK t).J.Due = t.J.Due ∧ (liveK t).J.J = t.J.J := by
      show (lookJ t).Rel = _ ∧ (lookJ t).Due = _ ∧ (lookJ t).J = _
      unfold lookJ; rw [ho]; exact ⟨rfl, rfl, rfl⟩
    rw [e.1] at q1
    rw [e.2.1] at q2
    rw [e.2.2] at q3
    exact ⟨by omega, q2, q3⟩
/-- Who begins just at its time. -/
theorem beg_iff {t : Fu.Task} {now : Int} (h : tkOK now t = true) (h0 : 0 ≤ now) (h1 : now ≤ 274877906944) {n : Int} (hn : 1 ≤ n ∧ n ≤ 20) : begOK t now n = decide (t.At = now) ∧ (t.At = now → t.J.On = false ∧ IntKind.i64.wrap (now + t.Next) = now + t.Next ∧ IntKind.i64.wrap (t.N + 1) = t.N + 1 ∧ JobOK t.S (begJ t now n)) := by
  obtain ⟨k0, k9⟩ := tkOK_iff.1 h
  have hN := mayK_N k0
  obtain ⟨_, _, _, ⟨_, k1, k2, k3, k4, k5⟩, k6, _⟩ := mayK_iff.1 k0
  have hp := perOK_P k1
  have e2 : (liveK t).P = t.Next := rfl
  have e3 : (liveK t).At = t.At := rfl
  have eC : (liveK t).S.C = t.S.C := rfl
  have e5 : (liveK t).J.On = t.J.On ∧ (liveK t).J.Due = t.J.Due := by
    show (lookJ t).On = _ ∧ (lookJ t).Due = _
    unfold lookJ
    cases hb : t.J.On with
    | true => exact ⟨hb, rfl⟩
    | false => exact ⟨hb, rfl⟩
  by_cases ha : t.At = now
  · have hoff : t.J.On = false := by
      cases hb : t.J.On with
      | false => rfl
      | true =>
        have k9 := k9 hb
        rcases k5 with k5 | ⟨_, k5, _⟩
        · rw [e5.1, hb] at k5; cases k5
        · rw [e5.2, e3] at k5; omega
    rw [e2] at hp
    have hw : IntKind.i64.wrap (now + t.Next) = now + t.Next := wrap_fits (by omega) (by omega)
    have hJ : JobOK t.S (begJ t now n) := by
      unfold begJ
      rw [hw]
      refine ⟨(perOK_iff.1 k1).1, .inr ⟨rfl, ?_, ?_, rfl, ?_, ?_, rfl⟩⟩ <;> simp only [jobOf] <;> omega
    refine ⟨?_, fun _ => ⟨hoff, hw, wrap_fits (by omega) (by omega), hJ⟩⟩
    unfold begOK
    rw [hoff, ha]
    have hb : (now != now) = false := by simp
    rw [hb, show mayJ t.S (begJ t now n) = true from decide_eq_true hJ, decide_eq_true rfl]
    rfl
  · exact ⟨by rw [begOK_not ha, decide_eq_false ha], fun h => absurd h ha⟩
theorem beg_TB {t : Fu.Task} {now : Int} (h : tkOK now t = true) (h0 : 0 ≤ now) (h1 : now ≤ 274877906944) (ha : t.At = now) (hN : t.N < 549755813888) {n : Int} (hn : 1 ≤ n ∧ n ≤ 20) : TB now (begT t now n) := by
  obtain ⟨k0, k9⟩ := tkOK_iff.1 h
  obtain ⟨hoff, hw, hw2, hJ⟩ := (beg_iff h h0 h1 hn).2 ha
  have hN' := mayK_N k0
  obtain ⟨q1, q2, q3, ⟨_, k1, _⟩, k6, k7⟩ := mayK_iff.1 k0
  have hp := perOK_P k1
  have e2 : (liveK t).P = t.Next := rfl
  rw [e2] at hp
  rw [overK_eq hN', minI_eq, hoff] at k7
  unfold begT
  rw [hw, hw2]
  refine ⟨q1, by simp only; omega, q3, k1, by simp only; omega, by simp only; omega, hJ, fun _ => ⟨by show now < now + 1; omega, ?_, rfl⟩, ?_⟩
  · show IntKind.i64.wrap (now + t.Next) = now + t.Next
    exact hw
  · show t.H.N = min (t.N + 1 - 1) 60
    rw [k7]
    show min t.N 60 = _
    rw [Int.add_sub_cancel]
/-- As it is looked on, one that begins does so. -/
theorem beg_live {t : Fu.Task} {now : Int} (h : tkOK now t = true) (h0 : 0 ≤ now) (h1 : now ≤ 274877906944) {n : Int} (hn : 1 ≤ n ∧ n ≤ 20) : liveK (bif begOK t now n then begT t now n else t) = beginL now (liveK t) := by
  obtain ⟨k0, _⟩ := tkOK_iff.1 h
  obtain ⟨_, _, _, ⟨_, k1, k2, k3, _⟩, _⟩ := mayK_iff.1 k0
  have hp := perOK_P k1
  have e3 : (liveK t).At = t.At := rfl
  have e2 : (liveK t).P = t.Next := rfl
  have eC : (liveK t).S.C = t.S.C := rfl
  rw [e3] at k2
  obtain ⟨b1, b2⟩ := beg_iff h h0 h1 hn
  rw [b1]
  unfold beginL
  rw [e3]
  by_cases ha : t.At = now
  · obtain ⟨hoff, hw, hw2, _⟩ := b2 ha
    have hJ := ((beg_iff h h0 h1 (n := t.S.C) (by omega)).2 ha).2.2.2
    rw [decide_eq_true ha, decide_eq_true (by omega)]
    simp only [cond_true]
    unfold begT
    rw [hw, hw2]
    have ej : newJ t.S t.N now (now + t.Next) t.S.C = jobOf t.S t.N now (now + t.Next) t.S.C := by
      unfold newJ
      unfold begJ at hJ
      rw [hw] at hJ
      rw [show mayJ t.S (jobOf t.S t.N now (now + t.Next) t.S.C) = true from decide_eq_true hJ]
      rfl
    show (⟨t.S, lookJ _, t.Next, now + t.Next, t.N + 1⟩ : Fu.Live) = ⟨t.S, newJ t.S t.N now (now + t.Next) t.S.C, t.Next, now + t.Next, t.N + 1⟩
    rw [ej]
    unfold lookJ begJ
    rw [hw]
    rfl
  · rw [decide_eq_false ha, decide_eq_false (by omega)]
    rfl
/-- A job that ran. -/
theorem step_cases {j : Fu.Job} (ho : j.On = true) : (stepF j = 0 ∧ stepJ j = ran1 j ∧ j.Ran + 1 < j.D ∧ j.Ran + 1 < j.C) ∨ ((stepF j = 1 ∧ j.D ≤ j.Ran + 1 ∨ stepF j = 2 ∧ j.Ran + 1 < j.D ∧ j.C ≤ j.Ran + 1) ∧ stepJ j = zeroJ) := by
  unfold stepF stepJ
  rw [ho]
  simp only [cond_true]
  by_cases h1 : j.Ran + 1 ≥ j.D
  · right
    rw [decide_eq_true h1]
    exact ⟨.inl ⟨rfl, h1⟩, rfl⟩
  · rw [decide_eq_false h1]
    by_cases h2 : j.Ran + 1 ≥ j.C
    · right
      rw [decide_eq_true h2]
      exact ⟨.inr ⟨rfl, by omega, h2⟩, rfl⟩
    · left
      rw [decide_eq_false h2]
      exact ⟨rfl, rfl, by omega, by omega⟩
theorem TB_done {now : Int} {u : Fu.Task} (h : TB now u) (ho : u.J.On = true) (g : Bool) : TB now { u with J := zeroJ, H := putRing u.H g } := by
  obtain ⟨h1, h2, h3, h4, h5, h6, h7, h8, h9⟩ := h
  obtain ⟨q1, q2, q3⟩ := h8 ho
  obtain ⟨j1, _⟩ := jobOK_on h7 ho
  refine ⟨h1, h2, put_ok h3 g, h4, h5, h6, ⟨h7.1, .inl ⟨rfl, rfl⟩⟩, fun h => (by cases h), ?_⟩
  show (putRing u.H g).N = min u.N 60
  rw [put_eq h3]
  rw [ho] at h9
  simp only [cond_true] at h9
  show min (u.H.N + 1) 60 = min u.N 60
  omega
theorem run_TB {now : Int} {u : Fu.Task} (h : TB now u) : TB now (runK u) := by
  unfold runK
  cases ho : u.J.On with
  | false => exact h
  | true =>
    simp only [cond_true]
    rcases step_cases ho with ⟨e1, e2, e3, e4⟩ | ⟨e1, e2⟩
    · rw [e1, e2]
      obtain ⟨h1, h2, h3, h4, h5, h6, h7, h8, h9⟩ := h
      obtain ⟨j1, j2, j3, j4, j5, j6⟩ := jobOK_on h7 ho
      refine ⟨h1, h2, h3, h4, h5, h6, ⟨h7.1, .inr ⟨ho, j1, j2, j3, j4, ?_, j6⟩⟩, fun _ => h8 ho, ?_⟩
      · show 0 ≤ u.J.Ran + 1 ∧ u.J.Ran + 1 < u.J.C ∧ u.J.Ran + 1 < u.J.D
        omega
      · show u.H.N = min (bif (ran1 u.J).On then u.N - 1 else u.N) 60
        rw [show (ran1 u.J).On = u.J.On from rfl]
        exact h9
    · have hne : (stepF u.J == 0) = false := by rcases e1 with ⟨e, _⟩ | ⟨e, _⟩ <;> rw [e] <;> rfl
      rw [hne, e2]
      exact TB_done h ho _
theorem end_tk {now : Int} {u : Fu.Task} (h : TB now u) (h0 : 0 ≤ now) (h1 : now ≤ 274877906944) : tkOK (now + 1) (endK u (now + 1)) = true := by
  have key : ∀ v : Fu.Task, TB now v → (v.J.On = true → now + 1 < v.J.Due) → tkOK (now + 1) v = true := by
    intro v hv hd
    obtain ⟨k1, k2, k3, k4, k5, k6, k7, k8, k9⟩ := hv
    refine tkOK_iff.2 ⟨mayK_iff.2 ⟨k1, k2, k3, ⟨by omega, k4, ?_, k6, ?_, ?_⟩, decide_eq_true k7, ?_⟩, hd⟩
    · show now + 1 ≤ v.At ∧ v.At ≤ now + 1 + 48
      omega
    · show JobOK v.S (lookJ v)
      unfold lookJ
      cases ho : v.J.On with
      | false => exact k7
      | true =>
        obtain ⟨j1, j2, j3, j4, j5, j6⟩ := jobOK_on k7 ho
        have := k7.1.1
        exact ⟨k7.1, .inr ⟨ho, j1, j2, j3, by show 1 ≤ v.S.C ∧ v.S.C ≤ 20; omega, by show 0 ≤ v.J.Ran ∧ v.J.Ran < v.J.C ∧ v.J.Ran < v.S.C; omega, j6⟩⟩
    · show (lookJ v).On = false ∨ ((lookJ v).Rel < now + 1 ∧ (lookJ v).Due = v.At ∧ v.N = (lookJ v).J + 1)
      unfold lookJ
      cases ho : v.J.On with
      | false => exact .inl ho
      | true =>
        obtain ⟨q1, q2, q3⟩ := k8 ho
        exact .inr ⟨q1, q2, q3⟩
    · rw [overK_eq k6, minI_eq]
      exact k9
  unfold endK
  cases hov : overJ u.J (now + 1) with
  | true =>
    have ho : u.J.On = true := by unfold overJ at hov; simp at hov; exact hov.1
    exact key _ (TB_done h ho false) fun h => (by cases h)
  | false =>
    refine key u h fun ho => ?_
    unfold overJ at hov
    rw [ho] at hov
    simp at hov
    exact hov
end Go.Fx
