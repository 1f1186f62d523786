import Derived.Test.YtccfojgceohciaaPlG
/- Plain laws: how soon nobody must any more. -/
namespace Go.Fx
open Go

/-- How much of a task's mandatory jobs lies ahead of its next one. -/
def ahead (s : Stat) : Int := s.1.C * cdiv (s.2.2.2 * s.1.M) s.1.K
def sumI (f : Stat → Int) (l : List Stat) : Int := (l.map f).sum
theorem cdiv_step {a m k : Int} (hm : 1 ≤ m) (hk : m ≤ k) : cdiv a k ≤ cdiv (a + m) k ∧ cdiv (a + m) k ≤ cdiv a k + 1 := by
  have hk0 : 0 < k := by omega
  refine ⟨cdiv_mono hk0 (by omega), ?_⟩
  rw [cdiv_le_iff hk0, Int.add_mul]
  have := (cdiv_spec (a := a) hk0).1
  omega
theorem fresh_left {s : Stat} {t : Int} (hs : SpecOK s.1) (D : Int) : wkJ D (freshJ t s) ≤ s.1.C * cdiv ((s.2.2.2 + 1) * s.1.M) s.1.K - s.1.C * cdiv (s.2.2.2 * s.1.M) s.1.K := by
  obtain ⟨h1, h2, h3, _⟩ := hs
  have e : (s.2.2.2 + 1) * s.1.M = s.2.2.2 * s.1.M + s.1.M := by rw [Int.add_mul, Int.one_mul]
  obtain ⟨k1, k2⟩ := cdiv_step (a := s.2.2.2 * s.1.M) (m := s.1.M) (k := s.1.K) (by omega) (by omega)
  rw [← e] at k1 k2
  rw [← Int.mul_sub]
  have hge : 0 ≤ s.1.C * (cdiv ((s.2.2.2 + 1) * s.1.M) s.1.K - cdiv (s.2.2.2 * s.1.M) s.1.K) := Int.mul_nonneg (by omega) (by omega)
  have hz : wkJ D zeroJ = 0 := by unfold wkJ; rw [show leftM zeroJ = 0 from rfl]; cases decide (zeroJ.Due ≤ D) <;> rfl
  unfold freshJ newJ
  cases hm : mayJ s.1 (jobOf s.1 s.2.2.2 t (t + s.2.1) s.1.C) with
  | false =>
    simp only [cond_false]
    rw [hz]; exact hge
  | true =>
    simp only [cond_true]
    unfold wkJ leftM jobOf
    simp only
    cases decide (t + s.2.1 ≤ D) with
    | false => exact hge
    | true =>
      simp only [cond_true, Bool.true_and]
      cases ho : onP s.1.M s.1.K s.2.2.2 with
      | false => exact hge
      | true =>
        unfold onP mandJ at ho
        simp only [Bool.and_eq_true, decide_eq_true_eq] at ho
        have h4 := ho.2.2
        have h5 : cdiv ((s.2.2.2 + 1) * s.1.M) s.1.K - cdiv (s.2.2.2 * s.1.M) s.1.K = 1 := by omega
        rw [h5]
        simp only [cond_true]
        omega
/-- What begins is told by what lies ahead. -/
theorem begin_le {l : List Fu.Live} (h : ∀ x ∈ l, SpecOK x.S ∧ JP x.J) (t D : Int) : W (beginAll l t) D ≤ W l D + (sumI ahead ((l.map statOf).map (statB t)) - sumI ahead (l.map statOf)) := by
  induction l with
  | nil => simp [W, beginAll, sumI]
  | cons x l ih =>
    have h1 := ih fun y hy => h y (List.mem_cons_of_mem _ hy)
    obtain ⟨h2, h3⟩ := h x (by simp)
    have h4 : wk D (beginL t x) ≤ wk D x + (ahead (statB t (statOf x)) - ahead (statOf x)) := by
      have h5 := wk_nonneg h3 D
      unfold beginL statB
      have e : (statOf x).2.2.1 = x.At := rfl
      rw [e]
      cases decide (x.At ≤ t) with
      | false => simp only [cond_false]; omega
      | true =>
        have h6 := fresh_left (s := statOf x) (t := t) h2 D
        simp only [cond_true]
        show wkJ D (freshJ t (statOf x)) ≤ wk D x + (ahead ((statOf x).1, (statOf x).2.1, t + (statOf x).2.1, (statOf x).2.2.2 + 1) - ahead (statOf x))
        unfold ahead
        simp only
        omega
    simp only [W, beginAll, sumI, List.map_cons, List.sum_cons] at *
    omega

/-! ### how far a task has come -/
def Come (t : Int) (s s' : Stat) : Prop := s'.1 = s.1 ∧ s'.2.1 = s.2.1 ∧ s'.2.2.2 * s.2.1 - s'.2.2.1 = s.2.2.2 * s.2.1 - s.2.2.1 ∧ (s' = s ∨ (s.2.2.2 < s'.2.2.2 ∧ s'.2.2.1 ≤ t - 1 + s.2.1))
theorem come_step {t : Int} {s s' : Stat} (h : Come t s s') (ht : t ≤ s'.2.2.1) : Come (t + 1) s (statB t s') := by
  obtain ⟨h1, h2, h3, h4⟩ := h
  have hN : s.2.2.2 ≤ s'.2.2.2 := by
    rcases h4 with h4 | h4
    · rw [h4]; exact Int.le_refl _
    · omega
  unfold statB
  cases hd : decide (s'.2.2.1 ≤ t) with
  | false =>
    simp only [cond_false]
    exact ⟨h1, h2, h3, h4.imp id fun h => ⟨h.1, by omega⟩⟩
  | true =>
    have hd := of_decide_eq_true hd
    simp only [cond_true]
    refine ⟨h1, h2, ?_, .inr ⟨by simp only; omega, by simp only; omega⟩⟩
    simp only
    rw [Int.add_mul, Int.one_mul, h2]
    omega
theorem come_le {now t : Int} {s s' : Stat} (hs : perOK s.1 s.2.1 = true) (h : Come t s s') (h0 : now ≤ s.2.2.1) (h1 : now < t) : 1048576 * (ahead s' - ahead s) ≤ unitsV s.1 s.2.1 * (t - now - 1) + 2097152 * s.1.C := by
  obtain ⟨⟨a1, a2, a3, _⟩, a4, a5⟩ := perOK_iff.1 hs
  have hu := unitsV_pos hs
  obtain ⟨h2, h3, h4, h5⟩ := h
  have hu1 : 0 ≤ unitsV s.1 s.2.1 * (t - now - 1) := Int.mul_nonneg (by omega) (by omega)
  rcases h5 with h5 | ⟨h5, h6⟩
  · rw [h5]; omega
  · have ek : unitsV s.1 s.2.1 = cdiv (s.1.C * s.1.M * 1048576) (s.1.K * s.2.1) := by simp [unitsV, hs]
    have hKP : 0 < s.1.K * s.2.1 := Int.mul_pos (by omega) (by omega)
    have u1 : s.1.C * s.1.M * 1048576 ≤ unitsV s.1 s.2.1 * (s.1.K * s.2.1) := by rw [ek]; exact (cdiv_spec hKP).1
    unfold ahead
    rw [h2]
    have hK : 0 < s.1.K := by omega
    obtain ⟨c1, c2⟩ := cdiv_spec (a := s'.2.2.2 * s.1.M) hK
    obtain ⟨c3, c4⟩ := cdiv_spec (a := s.2.2.2 * s.1.M) hK
    -- in short names
    generalize hx : cdiv (s'.2.2.2 * s.1.M) s.1.K = x at *
    generalize hy : cdiv (s.2.2.2 * s.1.M) s.1.K = y at *
    generalize s.1.C = C at *
    generalize s.1.M = M at *
    generalize s.1.K = K at *
    generalize s.2.1 = P at *
    generalize unitsV s.1 P = u at *
    generalize s'.2.2.2 = n' at *
    generalize s.2.2.2 = n at *
    generalize s'.2.2.1 = a' at *
    generalize s.2.2.1 = a at *
    have e1 : x * K - y * K ≤ (n' - n) * M + K := by rw [Int.sub_mul]; omega
    have e2 : (n' - n) * P ≤ (t - now - 1) + P := by rw [Int.sub_mul]; omega
    -- times C P
    have hCP : 0 ≤ C * P := Int.mul_nonneg (by omega) (by omega)
    have hCM : 0 ≤ C * M := Int.mul_nonneg (by omega) (by omega)
    have e3 := Int.mul_le_mul_of_nonneg_left e1 hCP
    have e4 := Int.mul_le_mul_of_nonneg_left e2 hCM
    have e5 : C * P * ((n' - n) * M + K) = C * M * ((n' - n) * P) + C * P * K := by
      rw [Int.mul_add]
      congr 1
      rw [show C * P * ((n' - n) * M) = C * M * ((n' - n) * P) by
        rw [Int.mul_assoc, Int.mul_assoc C M]
        congr 1
        rw [Int.mul_comm (n' - n) M, Int.mul_comm (n' - n) P, ← Int.mul_assoc, ← Int.mul_assoc, Int.mul_comm P M]]
    have e6 : C * M * (t - now - 1 + P) = C * M * (t - now - 1) + C * M * P := Int.mul_add _ _ _
    have e7 : C * M * P ≤ C * K * P := Int.mul_le_mul_of_nonneg_right (Int.mul_le_mul_of_nonneg_left (by omega) (by omega)) (by omega)
    have e8 : C * P * K = C * K * P := by rw [Int.mul_assoc, Int.mul_comm P K, ← Int.mul_assoc]
    have e9 : C * P * (x * K - y * K) = C * (x - y) * (K * P) := by
      rw [← Int.sub_mul, Int.mul_assoc, Int.mul_assoc, ← Int.mul_assoc P, Int.mul_comm P, Int.mul_assoc, Int.mul_comm P K]
    have f1 := Int.mul_le_mul_of_nonneg_right u1 (show 0 ≤ t - now - 1 by omega)
    have f2 : C * M * 1048576 * (t - now - 1) = 1048576 * (C * M * (t - now - 1)) := by rw [Int.mul_comm (C * M), Int.mul_assoc]
    have f3 : u * (K * P) * (t - now - 1) = u * (t - now - 1) * (K * P) := by rw [Int.mul_assoc, Int.mul_comm (K * P), ← Int.mul_assoc]
    have f4 : C * K * P = C * (K * P) := Int.mul_assoc _ _ _
    rw [show C * x - C * y = C * (x - y) by rw [Int.mul_sub]]
    have g1 : 1048576 * (C * (x - y)) * (K * P) ≤ (u * (t - now - 1) + 2097152 * C) * (K * P) := by
      rw [Int.add_mul, Int.mul_assoc 1048576, Int.mul_assoc 2097152]
      omega
    exact Int.le_of_mul_le_mul_right g1 hKP

theorem come_sum {now t : Int} {G : Stat → Stat} (h1 : now < t) : ∀ l : List Stat, (∀ s ∈ l, perOK s.1 s.2.1 = true ∧ Come t s (G s) ∧ now ≤ s.2.2.1) →
    1048576 * (sumI ahead (l.map G) - sumI ahead l) ≤ (l.map fun s => unitsV s.1 s.2.1).sum * (t - now - 1) + 2097152 * (l.map fun s => s.1.C).sum
  | [], _ => by simp [sumI]
  | s :: l, h => by
    have ih := come_sum h1 l fun s hs => h s (List.mem_cons_of_mem _ hs)
    obtain ⟨h2, h3, h4⟩ := h s (by simp)
    have h5 := come_le h2 h3 h4 h1
    simp only [sumI, List.map_cons, List.sum_cons] at *
    rw [Int.add_mul]
    omega
/-- How it stands behind the first time. -/
structure Stand (now r0 D : Int) (l0 : List Stat) (b : Int) (l : List Fu.Live) (t : Int) : Prop where
  all : AllI b l t
  come : ∃ G : Stat → Stat, l.map statOf = l0.map G ∧ ∀ s ∈ l0, Come t s (G s)
  left : W l D + (t - now - 1) ≤ r0 + (sumI ahead (l.map statOf) - sumI ahead l0)
  goes : AW l t D = W l D
theorem not_idle_W {b : Int} {l : List Fu.Live} {t D : Int} (h : AllI b l t) (hD : t + 48 ≤ D) (hi : idleL l = false) : 1 ≤ W l D := by
  have h1 := W_nonneg h.jp D
  rcases Int.lt_or_eq_of_le h1 with h2 | h2
  · omega
  · exfalso
    have h3 := (W_zero_iff h.jp D).1 h2.symm
    have : idleL l = true := idle_iff.2 fun x hx => by
      cases hm : mustJ x.J with
      | false => rfl
      | true =>
        have h4 := h3 x hx hm
        obtain ⟨_, h5, _, h6⟩ := h.2 x hx
        rcases h6 with h6 | ⟨_, _, _, h7, _⟩
        · rw [h6] at hm; cases hm
        · omega
    rw [this] at hi; cases hi
theorem spec_all {b : Int} {l : List Fu.Live} {t : Int} (h : AllI b l t) : ∀ x ∈ l, SpecOK x.S ∧ JP x.J := fun x hx => ⟨(perOK_iff.1 (h.2 x hx).1).1, h.jp x hx⟩
theorem stat_step (l : List Fu.Live) (t : Int) : (stepL l t).map statOf = (l.map statOf).map (statB t) := by
  unfold stepL
  rw [stat_end, stat_run, stat_beginAll]
theorem stand_step {now r0 D : Int} {l0 : List Stat} {b : Int} {l : List Fu.Live} {t : Int} (h : Stand now r0 D l0 b l t) (h0 : 0 ≤ t) (h1 : t ≤ 1099511627000) (hb : b ≤ 1099511627776) (hD : t + 49 ≤ D) (hi : idleL l = false) (hm : missedL l t = false) :
    Stand now r0 D l0 (b + 1) (stepL l t) (t + 1) := by
  have hB := begin_all h.all h0 h1 hb
  have hR := runFirst_all hB
  have hw := not_idle_W h.all (D := D) (by omega) hi
  refine ⟨step_all h.all h0 h1 hb, ?_, ?_, ?_⟩
  · obtain ⟨G, g1, g2⟩ := h.come
    refine ⟨fun s => statB t (G s), ?_, fun s hs => come_step (g2 s hs) ?_⟩
    · rw [stat_step, g1, List.map_map]
      rfl
    · have : G s ∈ l.map statOf := by rw [g1]; exact List.mem_map_of_mem hs
      obtain ⟨x, hx, hxs⟩ := List.mem_map.1 this
      rw [← hxs]
      exact (h.all.2 x hx).2.1.1
  · have e1 : W (stepL l t) D = W (runFirst (beginAll l t)) D := W_end (jp_run hB.jp) hm D
    have e2 := W_run hB.jp D
    have e3 : W (beginAll l t) D = AW l t D + BW l t D := W_begin l t D
    have e4 : 0 ≤ BW l t D := by
      have := sum_sub (f := newW D t) (l := l.map statOf) (l' := []) (List.nil_sublist _) fun s _ => newW_nonneg D t s
      simpa [BW] using this
    have e5 := h.goes
    have e6 := begin_le (spec_all h.all) t D
    have e7 := h.left
    rw [stat_step]
    rw [if_neg (by omega)] at e2
    omega
  · exact AW_end hR.2 D
theorem stand_end {now r0 D : Int} {l0 : List Stat} {b : Int} {l : List Fu.Live} {t : Int} (h : Stand now r0 D l0 b l t) (ht : now < t) (hl0 : ∀ s ∈ l0, perOK s.1 s.2.1 = true ∧ now ≤ s.2.2.1) (hU : (l0.map fun s => unitsV s.1 s.2.1).sum ≤ 983040) (hw : 1 ≤ W l D) :
    65536 * (t - now) + 983040 ≤ 1048576 * (r0 + 2 * (l0.map fun s => s.1.C).sum) := by
  obtain ⟨G, g1, g2⟩ := h.come
  have h1 := come_sum (now := now) (t := t) (G := G) ht l0 fun s hs => ⟨(hl0 s hs).1, g2 s hs, (hl0 s hs).2⟩
  have h2 := h.left
  rw [g1] at h2
  have h3 := Int.mul_le_mul_of_nonneg_right hU (show 0 ≤ t - now - 1 by omega)
  omega
theorem soon_run {now r0 D : Int} {l0 : List Stat} (hl0 : ∀ s ∈ l0, perOK s.1 s.2.1 = true ∧ now ≤ s.2.2.1) (hU : (l0.map fun s => unitsV s.1 s.2.1).sum ≤ 983040) (k : Nat) : ∀ (b : Int) (l : List Fu.Live) (t : Int), Stand now r0 D l0 b l t → 0 ≤ t → now < t → t + k ≤ 1099511627000 → b + k ≤ 1099511627776 → t + k + 49 ≤ D →
    (t = now + 1 ∨ 65536 * (t - 1 - now) + 983040 ≤ 1048576 * (r0 + 2 * (l0.map fun s => s.1.C).sum)) →
    ((lookR k l t).1 = now + 1 ∨ 65536 * ((lookR k l t).1 - 1 - now) + 983040 ≤ 1048576 * (r0 + 2 * (l0.map fun s => s.1.C).sum)) := by
  induction k with
  | zero => intro b l t _ _ _ _ _ _ h; exact h
  | succ k ih =>
    intro b l t hs h0 ht h1 hb hD h
    unfold lookR
    cases hi : idleL l with
    | true => exact h
    | false =>
      cases hm : missedL l t with
      | true => exact h
      | false =>
        simp only [cond_false]
        have hw := not_idle_W hs.all (D := D) (by omega) hi
        have he := stand_end hs ht hl0 hU hw
        refine ih (b + 1) _ (t + 1) (stand_step hs h0 (by omega) (by omega) (by omega) hi hm) (by omega) (by omega) (by omega) (by omega) (by omega) (.inr ?_)
        rw [show t + 1 - 1 - now = t - now by omega]
        exact he
/-- How soon it ends. -/
theorem soon_look (k n : Nat) (hn : n = k + 1) (hk : k ≤ 1999) {b : Int} {l : List Fu.Live} {now : Int} (hA : AllI b l now) (h0 : 0 ≤ now) (h1 : now ≤ 549755813888) (hb : b ≤ 549755813888) (hU : (l.map fun x => unitsV x.S x.P).sum ≤ 983040) :
    now ≤ (lookR n l now).1 ∧ ((lookR n l now).1 ≤ now + 1 ∨ 65536 * ((lookR n l now).1 - 1 - now) + 983040 ≤ 1048576 * (W l (now + 3000) + 2 * (l.map fun x => x.S.C).sum)) := by
  refine ⟨(look_le n l now).1, ?_⟩
  subst hn
  unfold lookR
  cases hi : idleL l with
  | true => left; simp only [cond_true]; omega
  | false =>
    cases hm : missedL l now with
    | true => left; simp only [cond_true, cond_false]; omega
    | false =>
      simp only [cond_false]
      have hB := begin_all hA h0 (by omega) (by omega)
      have hR := runFirst_all hB
      have hs : Stand now (W l (now + 3000)) (now + 3000) (l.map statOf) (b + 1) (stepL l now) (now + 1) := by
        refine ⟨step_all hA h0 (by omega) (by omega), ⟨statB now, stat_step l now, fun s hs => ?_⟩, ?_, AW_end hR.2 _⟩
        · obtain ⟨x, hx, hxs⟩ := List.mem_map.1 hs
          refine come_step (s := s) (s' := s) ⟨rfl, rfl, rfl, .inl rfl⟩ ?_
          rw [← hxs]
          exact (hA.2 x hx).2.1.1
        · have e1 : W (stepL l now) (now + 3000) = W (runFirst (beginAll l now)) (now + 3000) := W_end (jp_run hB.jp) hm _
          have e2 := W_run hB.jp (now + 3000)
          have e3 := W_nonneg hB.jp (now + 3000)
          have e6 := begin_le (spec_all hA) now (now + 3000)
          rw [stat_step]
          split at e2 <;> omega
      have := soon_run (now := now) (r0 := W l (now + 3000)) (D := now + 3000) (l0 := l.map statOf) (fun s hs => by
          obtain ⟨x, hx, rfl⟩ := List.mem_map.1 hs
          exact ⟨(hA.2 x hx).1, (hA.2 x hx).2.1.1⟩) (by rw [List.map_map]; exact hU) k (b + 1) _ (now + 1) hs (by omega) (by omega) (by omega) (by omega) (by omega) (.inl rfl)
      rw [List.map_map] at this
      rcases this with h | h
      · left; omega
      · right; exact h

end Go.Fx
