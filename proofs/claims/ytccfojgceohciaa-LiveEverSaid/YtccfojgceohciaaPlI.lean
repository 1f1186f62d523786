import Derived.Test.YtccfojgceohciaaPlH
import Derived.Test.YtccfojgceohciaaB24
/- Plain laws: where it is nowhere too much none is missed. -/
namespace Go.Fx
open Go

def fixOf (x : Fu.Live) : Fu.Fix := ⟨x.S, x.P⟩

/-! ### from the horizon on it is no question -/
theorem ofV_units {x : Fu.Fix} {d : Int} (h : mayF x = true) (h0 : 0 ≤ d) (h1 : d ≤ 1099511627776) : 1048576 * ofV x d ≤ unitF x * d + 1048576 * x.S.C := by
  have hp := mayF_per h
  obtain ⟨⟨a1, a2, a3, _⟩, a4, a5⟩ := perOK_iff.1 hp
  rw [ofV_eq h h0 h1]
  have ek : unitF x = cdiv (x.S.C * x.S.M * 1048576) (x.S.K * x.P) := by simp [unitF, unitsV, hp]
  have hKP : 0 < x.S.K * x.P := Int.mul_pos (by omega) (by omega)
  have u1 : x.S.C * x.S.M * 1048576 ≤ unitF x * (x.S.K * x.P) := by rw [ek]; exact (cdiv_spec hKP).1
  have hj0 := Int.ediv_nonneg h0 (show 0 ≤ x.P by omega)
  have hj1 : d / x.P * x.P ≤ d := Int.ediv_mul_le d (by omega)
  obtain ⟨c1, c2⟩ := cdiv_spec (a := d / x.P * x.S.M) (show 0 < x.S.K by omega)
  generalize cdiv (d / x.P * x.S.M) x.S.K = q at *
  generalize d / x.P = j at *
  generalize unitF x = u at *
  generalize x.S.C = C at *
  generalize x.S.M = M at *
  generalize x.S.K = K at *
  generalize x.P = P at *
  have hCP : 0 ≤ C * P := Int.mul_nonneg (by omega) (by omega)
  have hCM : 0 ≤ C * M := Int.mul_nonneg (by omega) (by omega)
  have e1 : C * P * (q * K) ≤ C * P * (j * M + K) := Int.mul_le_mul_of_nonneg_left (by omega) hCP
  have e2 : C * P * (j * M + K) = C * M * (j * P) + C * (K * P) := by
    rw [Int.mul_add]
    congr 1
    · rw [Int.mul_assoc, Int.mul_assoc C M]
      congr 1
      rw [Int.mul_comm j M, Int.mul_comm j P, ← Int.mul_assoc, ← Int.mul_assoc, Int.mul_comm P M]
    · rw [Int.mul_assoc, Int.mul_comm P K]
  have e3 : C * M * (j * P) ≤ C * M * d := Int.mul_le_mul_of_nonneg_left hj1 hCM
  have e4 : C * P * (q * K) = C * q * (K * P) := by
    rw [Int.mul_assoc, Int.mul_assoc]
    congr 1
    rw [← Int.mul_assoc, Int.mul_comm P, Int.mul_assoc, Int.mul_comm P K]
  have f1 := Int.mul_le_mul_of_nonneg_right u1 h0
  have f2 : C * M * 1048576 * d = 1048576 * (C * M * d) := by rw [Int.mul_comm (C * M), Int.mul_assoc]
  have f3 : u * (K * P) * d = u * d * (K * P) := by rw [Int.mul_assoc, Int.mul_comm (K * P), ← Int.mul_assoc]
  have g1 : 1048576 * (C * q) * (K * P) ≤ (u * d + 1048576 * C) * (K * P) := by
    rw [Int.add_mul, Int.mul_assoc 1048576, Int.mul_assoc 1048576]
    omega
  exact Int.le_of_mul_le_mul_right g1 hKP
theorem sumOf_units {l : List Fu.Fix} {d : Int} (h : ∀ x ∈ l, mayF x = true) (h0 : 0 ≤ d) (h1 : d ≤ 1099511627776) : 1048576 * sumOf l d ≤ (l.map unitF).sum * d + 1048576 * (l.map fun x => x.S.C).sum := by
  induction l with
  | nil => simp [sumOf]
  | cons x l ih =>
    have h2 := ih fun y hy => h y (List.mem_cons_of_mem _ hy)
    have h3 := ofV_units (h x (by simp)) h0 h1
    simp only [sumOf, List.map_cons, List.sum_cons, Int.add_mul, Int.mul_add] at *
    omega
theorem fits_sum {l : List Fu.Fix} (h : mayFs l = true) : (l.map unitF).sum ≤ 983040 := by
  unfold mayFs fitsV sumV at h
  simp only [Bool.and_eq_true, decide_eq_true_eq] at h
  obtain ⟨_, _, h1, h2⟩ := h
  cases hc : (decide (((l.map unitF).length : Int) > 1000) || (l.map unitF).any outU) with
  | true => rw [hc] at h1; cases h1
  | false => rw [hc] at h2; exact h2
/-- Where the test tells yes it is so for all times. -/
theorem test_all {l : List Fu.Fix} (h : testV l = true) {d : Int} (h0 : 0 ≤ d) (h1 : d ≤ 1099511627776) : sumOf l d ≤ d := by
  obtain ⟨h2, h3⟩ := testV_iff.1 h
  rcases Int.lt_or_le d (hzV l) with h4 | h4
  · exact h3 d h0 h4
  · obtain ⟨_, hm⟩ := mayFs_mem h2
    have h5 := sumOf_units hm h0 h1
    have h6 := Int.mul_le_mul_of_nonneg_right (fits_sum h2) h0
    unfold hzV at h4
    rw [h2] at h4
    simp only [cond_true] at h4
    omega

/-! ### how much begins, and must have ended by a time -/
/-- How many jobs of a task begin and end by a time. -/
def jobsBy (D : Int) (s : Stat) : Int := if s.2.2.1 ≤ D then (D - s.2.2.1) / s.2.1 else 0
def comeBy (D : Int) (s : Stat) : Int := s.1.C * cdiv ((s.2.2.2 + jobsBy D s) * s.1.M) s.1.K - s.1.C * cdiv (s.2.2.2 * s.1.M) s.1.K
def AB (l : List Stat) (D : Int) : Int := (l.map (comeBy D)).sum
theorem jobsBy_nonneg {s : Stat} (h : perOK s.1 s.2.1 = true) (D : Int) : 0 ≤ jobsBy D s := by
  have := perOK_P h
  unfold jobsBy
  split
  · exact Int.ediv_nonneg (by omega) (by omega)
  · exact Int.le_refl _
theorem comeBy_nonneg {s : Stat} (h : perOK s.1 s.2.1 = true) (D : Int) : 0 ≤ comeBy D s := by
  obtain ⟨⟨a1, a2, a3, _⟩, a4, a5⟩ := perOK_iff.1 h
  have h1 := jobsBy_nonneg h D
  unfold comeBy
  rw [← Int.mul_sub]
  refine Int.mul_nonneg (by omega) ?_
  have := cdiv_mono (a := s.2.2.2 * s.1.M) (a' := (s.2.2.2 + jobsBy D s) * s.1.M) (b := s.1.K) (by omega) (Int.mul_le_mul_of_nonneg_right (by omega) (by omega))
  omega
theorem AB_nonneg {l : List Stat} (h : ∀ s ∈ l, perOK s.1 s.2.1 = true) (D : Int) : 0 ≤ AB l D := by
  induction l with
  | nil => exact Int.le_refl _
  | cons s l ih =>
    have h1 := ih fun y hy => h y (List.mem_cons_of_mem _ hy)
    have h2 := comeBy_nonneg (h s (by simp)) D
    simp only [AB, List.map_cons, List.sum_cons] at *
    omega
/-- What begins now was told by what was to come. -/
theorem come_begin {s : Stat} {t : Int} (h : perOK s.1 s.2.1 = true) (ht : t ≤ s.2.2.1) (D : Int) : newW D t s + comeBy D (statB t s) ≤ comeBy D s := by
  have hp := perOK_P h
  have hs := (perOK_iff.1 h).1
  have hc := comeBy_nonneg h D
  unfold newW statB
  cases hd : decide (s.2.2.1 ≤ t) with
  | false => simp only [cond_false]; omega
  | true =>
    have hd := of_decide_eq_true hd
    have hat : s.2.2.1 = t := by omega
    simp only [cond_true]
    have hf := fresh_left (s := s) (t := t) hs D
    by_cases hD : t + s.2.1 ≤ D
    · have e1 : jobsBy D s = jobsBy D (s.1, s.2.1, t + s.2.1, s.2.2.2 + 1) + 1 := by
        unfold jobsBy
        simp only
        rw [if_pos (by omega), if_pos hD, hat]
        have : D - t = (D - (t + s.2.1)) + s.2.1 * 1 := by omega
        rw [this, Int.add_mul_ediv_left _ _ (by omega)]
      unfold comeBy
      simp only
      rw [e1, show s.2.2.2 + (jobsBy D (s.1, s.2.1, t + s.2.1, s.2.2.2 + 1) + 1) = s.2.2.2 + 1 + jobsBy D (s.1, s.2.1, t + s.2.1, s.2.2.2 + 1) by omega]
      omega
    · have e1 : wkJ D (freshJ t s) = 0 := by
        have hz : wkJ D zeroJ = 0 := by unfold wkJ; rw [show leftM zeroJ = 0 from rfl]; cases decide (zeroJ.Due ≤ D) <;> rfl
        unfold freshJ newJ
        cases mayJ s.1 (jobOf s.1 s.2.2.2 t (t + s.2.1) s.1.C) with
        | false => exact hz
        | true =>
          simp only [cond_true]
          unfold wkJ jobOf
          simp only
          rw [decide_eq_false hD]
          rfl
      have e2 : comeBy D (s.1, s.2.1, t + s.2.1, s.2.2.2 + 1) = 0 := by
        unfold comeBy jobsBy
        simp only
        rw [if_neg hD, Int.add_zero]
        omega
      omega
theorem cdiv_sub {a b k : Int} (hk : 0 < k) : cdiv (a + b) k ≤ cdiv a k + cdiv b k := by
  have h1 := (cdiv_spec (a := a) hk).1
  have h2 := (cdiv_spec (a := b) hk).1
  rw [cdiv_le_iff hk, Int.add_mul]
  omega
/-- What is to come is no more than the most of so long a time. -/
theorem come_le_of {s : Stat} {t D : Int} (h : perOK s.1 s.2.1 = true) (ht : t ≤ s.2.2.1) (h0 : t ≤ D) (h1 : D - t ≤ 1099511627776) : comeBy D s ≤ ofV ⟨s.1, s.2.1⟩ (D - t) := by
  obtain ⟨⟨a1, a2, a3, _⟩, a4, a5⟩ := perOK_iff.1 h
  have hj := jobsBy_nonneg h D
  rw [ofV_eq (mayF_iff.2 h) (by omega) h1]
  simp only
  have hle : jobsBy D s ≤ (D - t) / s.2.1 := by
    unfold jobsBy
    split
    · exact Int.ediv_le_ediv (by omega) (by omega)
    · exact Int.ediv_nonneg (by omega) (by omega)
  unfold comeBy
  rw [← Int.mul_sub]
  refine Int.mul_le_mul_of_nonneg_left ?_ (by omega)
  have e : (s.2.2.2 + jobsBy D s) * s.1.M = s.2.2.2 * s.1.M + jobsBy D s * s.1.M := Int.add_mul _ _ _
  have k1 := cdiv_sub (a := s.2.2.2 * s.1.M) (b := jobsBy D s * s.1.M) (k := s.1.K) (by omega)
  have k2 := cdiv_mono (a := jobsBy D s * s.1.M) (a' := (D - t) / s.2.1 * s.1.M) (b := s.1.K) (by omega) (Int.mul_le_mul_of_nonneg_right hle (by omega))
  rw [e]
  omega
def fixS (s : Stat) : Fu.Fix := ⟨s.1, s.2.1⟩
theorem AB_le {l : List Stat} {t D : Int} (h : ∀ s ∈ l, perOK s.1 s.2.1 = true ∧ t ≤ s.2.2.1) (h0 : t ≤ D) (h1 : D - t ≤ 1099511627776) : AB l D ≤ sumOf (l.map fixS) (D - t) := by
  induction l with
  | nil => exact Int.le_refl _
  | cons s l ih =>
    have h2 := ih fun y hy => h y (List.mem_cons_of_mem _ hy)
    have h3 := come_le_of (h s (by simp)).1 (h s (by simp)).2 h0 h1
    simp only [AB, sumOf, List.map_cons, List.sum_cons] at *
    have e : ofV (fixS s) (D - t) = ofV ⟨s.1, s.2.1⟩ (D - t) := rfl
    omega
theorem AB_begin {l : List Stat} {t : Int} (h : ∀ s ∈ l, perOK s.1 s.2.1 = true ∧ t ≤ s.2.2.1) (D : Int) : (l.map (newW D t)).sum + AB (l.map (statB t)) D ≤ AB l D := by
  induction l with
  | nil => exact Int.le_refl _
  | cons s l ih =>
    have h2 := ih fun y hy => h y (List.mem_cons_of_mem _ hy)
    have h3 := come_begin (h s (by simp)).1 (h s (by simp)).2 D
    simp only [AB, List.map_cons, List.sum_cons] at *
    omega

/-! ### none is missed -/
/-- By no time more must be done than there is. -/
def Room (l : List Fu.Live) (t : Int) : Prop := ∀ D, t ≤ D → D ≤ 1099511627776 → W l D + AB (l.map statOf) D ≤ D - t
theorem AW_le {l : List Fu.Live} (h : ∀ x ∈ l, JP x.J) (t D : Int) : AW l t D ≤ W l D := by
  induction l with
  | nil => exact Int.le_refl _
  | cons x l ih =>
    have h1 := ih fun y hy => h y (List.mem_cons_of_mem _ hy)
    have h2 := wk_nonneg (h x (by simp)) D
    have h3 : oldW D t x ≤ wk D x := by
      unfold oldW
      cases decide (x.At ≤ t) with
      | true => exact h2
      | false => exact Int.le_refl _
    simp only [AW, W, List.map_cons, List.sum_cons] at *
    omega
theorem stats_of {b : Int} {l : List Fu.Live} {t : Int} (h : AllI b l t) : ∀ s ∈ l.map statOf, perOK s.1 s.2.1 = true ∧ t ≤ s.2.2.1 := fun s hs => by
  obtain ⟨x, hx, rfl⟩ := List.mem_map.1 hs
  exact ⟨(h.2 x hx).1, (h.2 x hx).2.1.1⟩
theorem statsB_of {b : Int} {l : List Fu.Live} {t : Int} (h : AllB b l t) : ∀ s ∈ l.map statOf, perOK s.1 s.2.1 = true ∧ t + 1 ≤ s.2.2.1 := fun s hs => by
  obtain ⟨x, hx, rfl⟩ := List.mem_map.1 hs
  exact ⟨(h.2 x hx).1, by have := (h.2 x hx).2.1.1; show t + 1 ≤ x.At; omega⟩
theorem fixS_statB (t : Int) (s : Stat) : fixS (statB t s) = fixS s := by
  unfold statB
  cases decide (s.2.2.1 ≤ t) <;> rfl
theorem fixes_stat (l : List Fu.Live) : (l.map statOf).map fixS = l.map fixOf := by
  rw [List.map_map]; rfl
/-- One time, with room, and where the test tells yes. -/
theorem room_step {b : Int} {l : List Fu.Live} {t : Int} (h : AllI b l t) (h0 : 0 ≤ t) (h1 : t ≤ 1099511627000) (hb : b ≤ 1099511627776) (ht : testV (l.map fixOf) = true) (hr : Room l t) :
    missedL l t = false ∧ Room (stepL l t) (t + 1) ∧ (stepL l t).map fixOf = l.map fixOf := by
  have hB := begin_all h h0 h1 hb
  have hR := runFirst_all hB
  have hjp := h.jp
  have hst : (beginAll l t).map statOf = (l.map statOf).map (statB t) := stat_beginAll l t
  have hsr : (runFirst (beginAll l t)).map statOf = (l.map statOf).map (statB t) := (stat_run _).trans hst
  have hfx : ((l.map statOf).map (statB t)).map fixS = l.map fixOf := by
    rw [List.map_map, ← fixes_stat]
    exact List.map_congr_left fun s _ => fixS_statB t s
  have room1 : ∀ D, t + 1 ≤ D → D ≤ 1099511627776 → W (runFirst (beginAll l t)) D + AB ((l.map statOf).map (statB t)) D ≤ D - (t + 1) := by
    intro D hD0 hD1
    have k1 := hr D (by omega) hD1
    have k2 := AB_begin (stats_of h) D
    have k3 := W_begin l t D
    have k4 := AW_le hjp t D
    have k5 : BW l t D = ((l.map statOf).map (newW D t)).sum := rfl
    have k6 := W_run hB.jp D
    have k7 := AB_le (t := t + 1) (D := D) (hst ▸ statsB_of hB) (by omega) (by omega)
    rw [hfx] at k7
    have k8 := test_all ht (d := D - (t + 1)) (by omega) (by omega)
    have k9 := W_nonneg hB.jp D
    split at k6 <;> omega
  have hmiss : missedL l t = false := by
    refine (miss_iff hR.jp).2 ?_
    have k1 := room1 (t + 1) (Int.le_refl _) (by omega)
    have k2 := W_nonneg hR.jp (t + 1)
    have k3 := AB_nonneg (fun s hs => (statsB_of hR s hs).1) (t + 1)
    rw [hsr] at k3
    omega
  refine ⟨hmiss, fun D hD0 hD1 => ?_, ?_⟩
  · have e1 : (stepL l t).map statOf = (l.map statOf).map (statB t) := stat_step l t
    rw [e1]
    have e2 : W (stepL l t) D = W (runFirst (beginAll l t)) D := W_end hR.jp hmiss D
    rw [e2]
    exact room1 D hD0 hD1
  · rw [← fixes_stat, stat_step]
    exact hfx
theorem room_idle {b : Int} {l : List Fu.Live} {t : Int} (h : AllI b l t) (h0 : 0 ≤ t) (ht : testV (l.map fixOf) = true) (hi : idleL l = true) : Room l t := fun D hD0 hD1 => by
  have k1 := (idle_W h.jp).1 hi D
  have k2 := AB_le (t := t) (D := D) (stats_of h) hD0 (by omega)
  rw [fixes_stat] at k2
  have k3 := test_all ht (d := D - t) (by omega) (by omega)
  omega

end Go.Fx
