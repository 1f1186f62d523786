import Derived.Test.YtneflbpekennkaaGreatPlV
import Derived.Test.YtneflbpekennkaaGreatC3
import Derived.Test.YtneflbpekennkaaGreatC4
/- Plain laws: a safe world stays so, time by time. -/
namespace Go.Fx
open Go

/-! ### numbers that are low -/
def lowN (b : Int) (w : Fu.World) : Prop := w.Now ≤ 137438953472 + b ∧ ∀ t ∈ w.T, t.N ≤ 274877906944 + b

/-! ### the tasks, behind those that begin -/
theorem begTs_TB {now : Int} (h0 : 0 ≤ now) (h1 : now ≤ 274877906944) : ∀ (l : List Fu.Task) (d : List Int), (∀ t ∈ l, tkOK now t = true ∧ t.N < 549755813888) → (∀ u ∈ (begTs now d l).1, TB now u) ∧ (begTs now d l).1.map liveK = beginAll (l.map liveK) now ∧
    (∀ b, (∀ t ∈ l, t.N ≤ b) → ∀ u ∈ (begTs now d l).1, u.N ≤ b + 1)
  | [], d, _ => ⟨fun u hu => by simp [begTs] at hu, rfl, fun b _ u hu => by simp [begTs] at hu⟩
  | y :: l, d, h => by
    obtain ⟨hy, hN⟩ := h y (by simp)
    have hl : ∀ t ∈ l, tkOK now t = true ∧ t.N < 549755813888 := fun t ht => h t (List.mem_cons_of_mem _ ht)
    have hn := lastD_range hy d
    have hlive := beg_live hy h0 h1 hn
    obtain ⟨b1, b2⟩ := beg_iff hy h0 h1 hn
    unfold begTs
    cases hb : begOK y now (lastD y d) with
    | true =>
      obtain ⟨i1, i2, i3⟩ := begTs_TB h0 h1 l d.tail hl
      have ha : y.At = now := by rw [hb] at b1; exact of_decide_eq_true b1.symm
      rw [hb] at hlive
      simp only [cond_true] at hlive ⊢
      refine ⟨fun u hu => ?_, ?_, fun b hB u hu => ?_⟩
      · rcases List.mem_cons.1 hu with rfl | hu
        · exact beg_TB hy h0 h1 ha hN hn
        · exact i1 u hu
      · rw [List.map_cons, i2, hlive]; rfl
      · rcases List.mem_cons.1 hu with rfl | hu
        · have := hB y (by simp)
          show IntKind.i64.wrap (y.N + 1) ≤ b + 1
          rw [(b2 ha).2.2.1]; omega
        · exact i3 b (fun t ht => hB t (List.mem_cons_of_mem _ ht)) u hu
    | false =>
      obtain ⟨i1, i2, i3⟩ := begTs_TB h0 h1 l d hl
      have ha : y.At ≠ now := by rw [hb] at b1; exact of_decide_eq_false b1.symm
      rw [hb] at hlive
      simp only [cond_false] at hlive ⊢
      refine ⟨fun u hu => ?_, ?_, fun b hB u hu => ?_⟩
      · rcases List.mem_cons.1 hu with rfl | hu
        · exact tkOK_TB hy ha
        · exact i1 u hu
      · rw [List.map_cons, i2, hlive]; rfl
      · rcases List.mem_cons.1 hu with rfl | hu
        · have := hB u (by simp); omega
        · exact i3 b (fun t ht => hB t (List.mem_cons_of_mem _ ht)) u hu
theorem begTs_fix (now : Int) : ∀ (l : List Fu.Task) (d : List Int), (begTs now d l).1.map fixK = l.map fixK
  | [], _ => rfl
  | y :: l, d => by
    unfold begTs
    cases begOK y now (lastD y d) with
    | true => simp only [cond_true, List.map_cons, begTs_fix now l]; rfl
    | false => simp only [cond_false, List.map_cons, begTs_fix now l]

/-! ### the one that runs -/
/-- The one's job has no more to do than the other one's. -/
def Lo (x' x : Fu.Live) : Prop := statOf x' = statOf x ∧ (x'.J = x.J ∨ x'.J = zeroJ ∨ (x'.J.Mand = false ∧ x.J.Mand = false))
theorem Lo.refl (x : Fu.Live) : Lo x x := ⟨rfl, .inl rfl⟩
theorem leftM_zero : leftM zeroJ = 0 := rfl
theorem leftM_opt {j : Fu.Job} (h : j.Mand = false) : leftM j = 0 := by unfold leftM; rw [h]; simp
theorem Lo.wk {x' x : Fu.Live} (h : Lo x' x) (hj : JP x.J) (D : Int) : wk D x' ≤ wk D x := by
  have h0 := wk_nonneg hj D
  rcases h.2 with e | e | ⟨e, e2⟩
  · unfold Go.Fx.wk; rw [e]; exact Int.le_refl _
  · have : Go.Fx.wk D x' = 0 := by unfold Go.Fx.wk; rw [e, leftM_zero]; cases decide (zeroJ.Due ≤ D) <;> rfl
    omega
  · have : Go.Fx.wk D x' = 0 := by unfold Go.Fx.wk; rw [leftM_opt e]; cases decide (x'.J.Due ≤ D) <;> rfl
    omega
theorem Lo.ends {x' x : Fu.Live} (h : Lo x' x) (n : Int) : Lo (endL n x') (endL n x) := by
  refine ⟨h.1, ?_⟩
  show atJ x'.J n = atJ x.J n ∨ atJ x'.J n = zeroJ ∨ ((atJ x'.J n).Mand = false ∧ (atJ x.J n).Mand = false)
  have hm : ∀ j : Fu.Job, j.Mand = false → (atJ j n).Mand = false := fun j hj => by
    unfold atJ
    cases overJ j n with
    | true => rfl
    | false => exact hj
  rcases h.2 with e | e | ⟨e, e2⟩
  · exact .inl (by rw [e])
  · right; left
    rw [e]; rfl
  · exact .inr (.inr ⟨hm _ e, hm _ e2⟩)
inductive LoL : List Fu.Live → List Fu.Live → Prop
  | nil : LoL [] []
  | cons {x' x l' l} (h : Lo x' x) (t : LoL l' l) : LoL (x' :: l') (x :: l)
theorem LoL.refl : ∀ l : List Fu.Live, LoL l l
  | [] => .nil
  | x :: l => .cons (.refl x) (LoL.refl l)
theorem LoL.ends {l' l : List Fu.Live} (h : LoL l' l) (n : Int) : LoL (l'.map (endL n)) (l.map (endL n)) := by
  induction h with
  | nil => exact .nil
  | cons h _ ih => exact .cons (h.ends n) ih
theorem LoL.stat {l' l : List Fu.Live} (h : LoL l' l) : l'.map statOf = l.map statOf := by
  induction h with
  | nil => rfl
  | cons h _ ih => rw [List.map_cons, List.map_cons, h.1, ih]
theorem LoL.W {l' l : List Fu.Live} (h : LoL l' l) (hj : ∀ x ∈ l, JP x.J) (D : Int) : Go.Fx.W l' D ≤ Go.Fx.W l D := by
  induction h with
  | nil => exact Int.le_refl _
  | cons h _ ih =>
    have h1 := ih fun y hy => hj y (List.mem_cons_of_mem _ hy)
    have h2 := h.wk (hj _ (by simp)) D
    simp only [Go.Fx.W, List.map_cons, List.sum_cons] at *
    omega
theorem LoL.AW {l' l : List Fu.Live} (h : LoL l' l) (hj : ∀ x ∈ l, JP x.J) (t D : Int) : Go.Fx.AW l' t D ≤ Go.Fx.AW l t D := by
  induction h with
  | nil => exact Int.le_refl _
  | @cons x' x l' l h _ ih =>
    have h1 := ih fun y hy => hj y (List.mem_cons_of_mem _ hy)
    have h2 := h.wk (hj _ (by simp)) D
    have ea : x'.At = x.At := congrArg (fun s : Stat => s.2.2.1) h.1
    have h3 : oldW D t x' ≤ oldW D t x := by
      unfold oldW
      rw [ea]
      cases decide (x.At ≤ t) with
      | true => exact Int.le_refl _
      | false => exact h2
    simp only [Go.Fx.AW, List.map_cons, List.sum_cons] at *
    omega
theorem LoL.upd : ∀ {l : List Fu.Live} {n : Nat} {x' x : Fu.Live}, Lo x' x → LoL (l.set n x') (l.set n x)
  | [], _, _, _, _ => .nil
  | y :: l, 0, _, _, h => .cons h (.refl l)
  | y :: l, n + 1, _, _, h => .cons (.refl y) (LoL.upd h)
theorem LoL.updR {x' x : Fu.Live} (h2 : Lo x' x) : ∀ {l : List Fu.Live} {n : Nat}, l[n]? = some x → LoL (l.set n x') l
  | [], _, h => by simp at h
  | y :: l, 0, h => by
    have e : y = x := by simpa using h
    exact .cons (e ▸ h2) (.refl l)
  | y :: l, n + 1, h => .cons (.refl y) (LoL.updR h2 (by simpa using h))
theorem LoL.len {l' l : List Fu.Live} (h : LoL l' l) : l'.length = l.length := by
  have := congrArg List.length h.stat
  simpa using this

/-- A task that ran, as it is looked on. -/
theorem run_live {u : Fu.Task} (ho : u.J.On = true) (hC : u.J.C = u.S.C) : Lo (liveK (runK u)) { (liveK u) with J := stepJ (liveK u).J } ∧ (u.J.Mand = false → Lo (liveK (runK u)) (liveK u)) := by
  have hj : (liveK u).J = { u.J with D := u.S.C } := by
    show lookJ u = _
    unfold lookJ; rw [ho]; rfl
  have hs : statOf (liveK (runK u)) = statOf (liveK u) := by
    unfold runK
    rw [ho]
    simp only [cond_true]
    cases (stepF u.J == 0) <;> rfl
  have hr : (runK u).J = stepJ u.J ∧ (runK u).S = u.S := by
    unfold runK
    rw [ho]
    simp only [cond_true]
    cases (stepF u.J == 0) <;> exact ⟨rfl, rfl⟩
  have hm : u.J.Mand = false → Lo (liveK (runK u)) (liveK u) := fun hm => by
    refine ⟨hs, .inr (.inr ⟨?_, ?_⟩)⟩
    · show (lookJ (runK u)).Mand = false
      unfold lookJ
      rw [hr.1]
      rcases step_cases ho with ⟨_, e, _⟩ | ⟨_, e⟩
      · rw [e]
        show (bif (ran1 u.J).On then { (ran1 u.J) with D := (runK u).S.C } else ran1 u.J).Mand = false
        cases (ran1 u.J).On <;> exact hm
      · rw [e]; rfl
    · rw [hj]; exact hm
  refine ⟨?_, hm⟩
  refine ⟨hs, ?_⟩
  show lookJ (runK u) = stepJ (liveK u).J ∨ lookJ (runK u) = zeroJ ∨ _
  rcases step_cases ho with ⟨_, e, e3, e4⟩ | ⟨_, e⟩
  · left
    unfold lookJ
    rw [hr.1, hr.2, e, hj]
    rw [show (ran1 u.J).On = u.J.On from rfl, ho]
    simp only [cond_true]
    unfold stepJ
    simp only [ho, cond_true]
    rw [decide_eq_false (show ¬ (u.J.Ran + 1 ≥ u.S.C) by omega), decide_eq_false (show ¬ (u.J.Ran + 1 ≥ u.J.C) by omega)]
    simp only [ran1, ho, Bool.or_false, cond_false]
  · right; left
    unfold lookJ
    rw [hr.1, e]
    rfl
theorem end_live (u : Fu.Task) (n : Int) : liveK (endK u n) = endL n (liveK u) := by
  have hj : (lookJ u).On = u.J.On ∧ (lookJ u).Due = u.J.Due := by
    unfold lookJ
    cases hb : u.J.On with
    | true => exact ⟨hb, rfl⟩
    | false => exact ⟨hb, rfl⟩
  have ho : overJ (lookJ u) n = overJ u.J n := by unfold overJ; rw [hj.1, hj.2]
  unfold endK endL
  show (liveK (bif overJ u.J n then _ else u)) = (⟨u.S, atJ (lookJ u) n, u.Next, u.At, u.N⟩ : Fu.Live)
  unfold atJ
  rw [ho]
  cases hov : overJ u.J n with
  | true => rfl
  | false => rfl

/-! ### looks -/
theorem look_more : ∀ (k : Nat) (l : List Fu.Live) (t n : Int), lookR k l t = (n, true) → lookR (k + 1) l t = (n, true)
  | 0, _, _, _, h => by simp [lookR] at h
  | k + 1, l, t, n, h => by
    have e : ∀ j, lookR (j + 1) l t = bif idleL l then (t, true) else bif missedL l t then (t, false) else lookR j (stepL l t) (t + 1) := fun j => rfl
    rw [e (k + 1)]
    rw [e k] at h
    cases hi : idleL l with
    | true => rw [hi] at h; exact h
    | false =>
      rw [hi] at h
      cases hm : missedL l t with
      | true => rw [hm] at h; exact h
      | false =>
        rw [hm] at h
        exact look_more k _ _ _ h
theorem room_look : ∀ (k : Nat) (b : Int) (l : List Fu.Live) (t : Int), AllI b l t → 0 ≤ t → t + k ≤ 1099511627000 → b + k ≤ 1099511627776 → testV (l.map fixOf) = true → Room l t → (lookR k l t).2 = true ∨ (lookR k l t).1 = t + k
  | 0, _, _, _, _, _, _, _, _, _ => .inr (by simp [lookR])
  | k + 1, b, l, t, hA, h0, h1, hb, ht, hr => by
    obtain ⟨r1, r2, r3⟩ := room_step hA h0 (by omega) (by omega) ht hr
    unfold lookR
    rw [r1]
    cases idleL l with
    | true => exact .inl rfl
    | false =>
      simp only [cond_false]
      rcases room_look k (b + 1) _ (t + 1) (step_all hA h0 (by omega) (by omega)) (by omega) (by omega) (by omega) (by rw [r3]; exact ht) r2 with h | h
      · exact .inl h
      · exact .inr (by rw [h]; omega)
theorem mayL_of {l : List Fu.Live} {now : Int} (h : mayL l now = true) : AllI 549755813888 l now ∧ 0 ≤ now ∧ now ≤ 549755813888 := mayL_all h
theorem units_fits {l : List Fu.Live} (h : testV (l.map fixOf) = true) : (l.map fun x => unitsV x.S x.P).sum ≤ 983040 := by
  have := fits_sum (testV_iff.1 h).1
  rw [List.map_map] at this
  exact this
theorem W_small {b : Int} {l : List Fu.Live} {t : Int} (h : AllI b l t) (D : Int) : W l D ≤ 6 * l.length ∧ (l.map fun x => x.S.C).sum ≤ 6 * l.length := by
  have key : ∀ m : List Fu.Live, (∀ x ∈ m, LiveI b x t) → W m D ≤ 6 * m.length ∧ (m.map fun x => x.S.C).sum ≤ 6 * m.length := by
    intro m
    induction m with
    | nil => intro _; exact ⟨Int.le_refl _, Int.le_refl _⟩
    | cons x m ih =>
      intro hm
      obtain ⟨i1, i2⟩ := ih fun y hy => hm y (List.mem_cons_of_mem _ hy)
      obtain ⟨k1, k2, k3, k4⟩ := hm x (by simp)
      have hp := perOK_P k1
      have hw : wk D x ≤ 6 := by
        have hz : leftM x.J ≤ 6 := by
          unfold leftM
          cases hc : (x.J.On && x.J.Mand) with
          | false => simp
          | true =>
            simp only [cond_true]
            rcases k4 with k4 | k4
            · rw [k4] at hc; cases hc
            · have := k4; unfold JobI at *; omega
        unfold wk
        cases decide (x.J.Due ≤ D) with
        | true => exact hz
        | false => show (0 : Int) ≤ 6; omega
      simp only [W, List.map_cons, List.sum_cons, List.length_cons] at *
      omega
  exact key l h.2
end Go.Fx
