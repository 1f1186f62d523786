import Derived.Test.YtccfojgceohciaaC2
/- Plain laws: how much must be done by a time; who runs first makes it less by one. -/
namespace Go.Fx
open Go

/-- How long a mandatory job will run still. -/
def leftM (j : Fu.Job) : Int := bif j.On && j.Mand then min j.C j.D - j.Ran else 0
def wk (D : Int) (x : Fu.Live) : Int := bif decide (x.J.Due ≤ D) then leftM x.J else 0
/-- How much must be done by a time. -/
def W (l : List Fu.Live) (D : Int) : Int := (l.map (wk D)).sum
def JP (j : Fu.Job) : Prop := j = zeroJ ∨ (j.On = true ∧ 0 ≤ j.Ran ∧ j.Ran < j.C ∧ j.Ran < j.D)
theorem JobI.jp {x : Fu.Live} {t : Int} (h : JobI x t) : JP x.J := by
  rcases h with h | ⟨h1, _, _, _, _, _, h2, _⟩
  · exact .inl h
  · exact .inr ⟨h1, h2.1, h2.2.1, h2.2.2⟩
theorem leftM_nonneg {j : Fu.Job} (h : JP j) : 0 ≤ leftM j := by
  unfold leftM
  rcases h with h | ⟨h1, h2, h3, h4⟩
  · rw [h]; decide
  · rw [h1]
    cases j.Mand with
    | false => simp
    | true => simp only [Bool.and_self, cond_true]; omega
theorem must_iff {j : Fu.Job} (h : JP j) : mustJ j = true ↔ 0 < leftM j := by
  unfold mustJ leftM worst
  rcases h with h | ⟨h1, h2, h3, h4⟩
  · rw [h]; decide
  · rw [h1]
    cases j.Mand with
    | false => simp
    | true =>
      simp only [Bool.true_and, decide_eq_true_eq, cond_true]
      omega
theorem not_must {j : Fu.Job} (h : JP j) (hm : mustJ j = false) : leftM j = 0 := by
  have h1 := leftM_nonneg h
  rcases Int.lt_or_eq_of_le h1 with h2 | h2
  · rw [(must_iff h).2 h2] at hm; cases hm
  · exact h2.symm
theorem wk_nonneg {x : Fu.Live} (h : JP x.J) (D : Int) : 0 ≤ wk D x := by
  unfold wk
  cases decide (x.J.Due ≤ D) with
  | true => exact leftM_nonneg h
  | false => exact Int.le_refl _
theorem W_nonneg {l : List Fu.Live} (h : ∀ x ∈ l, JP x.J) (D : Int) : 0 ≤ W l D := by
  induction l with
  | nil => exact Int.le_refl _
  | cons x l ih =>
    have h1 := ih fun y hy => h y (List.mem_cons_of_mem _ hy)
    have h2 := wk_nonneg (h x (by simp)) D
    simp only [W, List.map_cons, List.sum_cons] at *
    omega
theorem W_ge {l : List Fu.Live} (h : ∀ x ∈ l, JP x.J) (D : Int) {x : Fu.Live} (hx : x ∈ l) : wk D x ≤ W l D := by
  induction l with
  | nil => cases hx
  | cons y l ih =>
    have h0 : ∀ x ∈ l, JP x.J := fun y hy => h y (List.mem_cons_of_mem _ hy)
    have h2 := wk_nonneg (h y (by simp)) D
    have h3 := W_nonneg h0 D
    simp only [W, List.map_cons, List.sum_cons] at *
    rcases List.mem_cons.1 hx with rfl | hx
    · omega
    · have := ih h0 hx; omega
theorem W_zero {l : List Fu.Live} (D : Int) (h : ∀ x ∈ l, wk D x = 0) : W l D = 0 := by
  induction l with
  | nil => rfl
  | cons y l ih =>
    have := ih fun y hy => h y (List.mem_cons_of_mem _ hy)
    have h2 := h y (by simp)
    simp only [W, List.map_cons, List.sum_cons] at *
    omega
/-- Nothing must be done by a time just where nobody must whose end is by then. -/
theorem W_zero_iff {l : List Fu.Live} (h : ∀ x ∈ l, JP x.J) (D : Int) : W l D = 0 ↔ ∀ x ∈ l, mustJ x.J = true → D < x.J.Due := by
  constructor
  · intro hw x hx hm
    have h1 := W_ge h D hx
    have h2 := (must_iff (h x hx)).1 hm
    unfold wk at h1
    rcases Int.lt_or_le D x.J.Due with h3 | h3
    · exact h3
    · rw [decide_eq_true h3] at h1
      simp only [cond_true] at h1
      omega
  · intro hm
    refine W_zero D fun x hx => ?_
    unfold wk
    cases hd : decide (x.J.Due ≤ D) with
    | false => rfl
    | true =>
      have hd := of_decide_eq_true hd
      cases hmm : mustJ x.J with
      | false => exact not_must (h x hx) hmm
      | true => have := hm x hx hmm; omega

/-! ### one runs -/
theorem split_at {l : List Fu.Live} {i : Int} (h0 : 0 ≤ i) (h1 : i < l.length) : ∃ pre suf, l = pre ++ rd .live l i :: suf ∧ (pre.length : Int) = i := by
  have hlt : i.toNat < l.length := by omega
  refine ⟨l.take i.toNat, l.drop (i.toNat + 1), ?_, by rw [List.length_take]; omega⟩
  have hr : rd .live l i = l[i.toNat] := by simp [rd, hlt]
  rw [hr, List.getElem_cons_drop, List.take_append_drop]
theorem W_upd {l : List Fu.Live} {i : Int} (h0 : 0 ≤ i) (h1 : i < l.length) (z : Fu.Live) (D : Int) : W (upd .live l i z) D = W l D - wk D (rd .live l i) + wk D z := by
  obtain ⟨pre, suf, h2, h3⟩ := split_at h0 h1
  generalize rd .live l i = y at h2 ⊢
  subst h3
  rw [h2, upd_mid (r := .live)]
  simp only [W, List.map_append, List.map_cons, List.sum_append, List.sum_cons]
  omega
theorem left_step {j : Fu.Job} (h : JP j) (hm : mustJ j = true) : leftM (stepJ j) = leftM j - 1 ∧ (stepJ j = zeroJ ∨ (stepJ j).Due = j.Due) := by
  rcases h with h | ⟨h1, h2, h3, h4⟩
  · rw [h] at hm; cases hm
  · have hMand : j.Mand = true := by unfold mustJ at hm; rw [h1] at hm; simp at hm; exact hm.1
    unfold stepJ
    rw [h1]
    simp only [cond_true]
    cases hd : (decide (j.Ran + 1 ≥ j.D) || decide (j.Ran + 1 ≥ j.C)) with
    | true =>
      simp only [Bool.or_eq_true, decide_eq_true_eq] at hd
      refine ⟨?_, .inl rfl⟩
      simp only [cond_true, leftM, h1, hMand, Bool.and_self]
      simp only [zeroJ, Bool.and_self, cond_false]
      omega
    | false =>
      refine ⟨?_, .inr rfl⟩
      simp only [cond_false, leftM, ran1, h1, hMand, Bool.and_self, cond_true]
      omega
theorem jp_step {j : Fu.Job} (h : JP j) : JP (stepJ j) := by
  rcases h with h | ⟨h1, h2, h3, h4⟩
  · rw [h]; left; rfl
  · unfold stepJ
    rw [h1]
    simp only [cond_true]
    cases hd : (decide (j.Ran + 1 ≥ j.D) || decide (j.Ran + 1 ≥ j.C)) with
    | true => exact .inl rfl
    | false =>
      simp only [Bool.or_eq_false_iff, decide_eq_false_iff_not] at hd
      exact .inr ⟨h1, by simp only [cond_false, ran1]; omega, by simp only [cond_false, ran1]; omega, by simp only [cond_false, ran1]; omega⟩
theorem jp_run {l : List Fu.Live} (h : ∀ x ∈ l, JP x.J) : ∀ x ∈ runFirst l, JP x.J := by
  unfold runFirst
  rcases firstL_range l with hf | ⟨h0, h1⟩
  · rw [hf]; exact h
  · rw [show (firstL l == -1) = false by simp; omega]
    simp only [cond_false]
    intro y hy
    rcases mem_updL hy with h2 | h2
    · exact h y h2
    · rw [h2]; exact jp_step (h _ (rd_memL h0 h1))
theorem mem_rd {l : List Fu.Live} {x : Fu.Live} (h : x ∈ l) : ∃ i : Int, 0 ≤ i ∧ i < l.length ∧ rd .live l i = x := by
  obtain ⟨n, hn, rfl⟩ := List.mem_iff_getElem.1 h
  exact ⟨n, by omega, by omega, by simp [rd, hn]⟩
/-- By each time it is one less, if there is something to be done by then. -/
theorem W_run {l : List Fu.Live} (h : ∀ x ∈ l, JP x.J) (D : Int) : W (runFirst l) D = if W l D = 0 then 0 else W l D - 1 := by
  unfold runFirst
  rcases firstL_spec l with ⟨hf, hn⟩ | ⟨h0, h1, h2, h3⟩
  · rw [hf]
    have : W l D = 0 := (W_zero_iff h D).2 fun x hx hm => by
      obtain ⟨i, k0, k1, rfl⟩ := mem_rd hx
      have k2 := hn i k0 k1
      unfold jobAt at k2
      rw [k2] at hm; cases hm
    simp [this]
  · rw [show (firstL l == -1) = false by simp; omega]
    simp only [cond_false]
    rw [W_upd h0 h1]
    have hj : JP (jobAt l (firstL l)) := h _ (rd_memL h0 h1)
    obtain ⟨hl, hd⟩ := left_step hj h2
    have hpos := (must_iff hj).1 h2
    have e1 : wk D (rd .live l (firstL l)) = bif decide ((jobAt l (firstL l)).Due ≤ D) then leftM (jobAt l (firstL l)) else 0 := rfl
    have e2 : wk D { (rd .live l (firstL l)) with J := stepJ (jobAt l (firstL l)) } = bif decide ((stepJ (jobAt l (firstL l))).Due ≤ D) then leftM (stepJ (jobAt l (firstL l))) else 0 := rfl
    rw [e1, e2]
    have hge := W_ge h D (rd_memL h0 h1)
    rw [e1] at hge
    have z : stepJ (jobAt l (firstL l)) = zeroJ → leftM (stepJ (jobAt l (firstL l))) = 0 := fun e => by rw [e]; rfl
    cases hD : decide ((jobAt l (firstL l)).Due ≤ D) with
    | true =>
      rw [hD] at hge
      simp only [cond_true] at hge ⊢
      rw [if_neg (by omega)]
      rcases hd with hd | hd
      · have := z hd
        cases decide ((stepJ (jobAt l (firstL l))).Due ≤ D) <;> simp only [cond_true, cond_false] <;> omega
      · rw [hd, hD]
        simp only [cond_true]
        omega
    | false =>
      have hD' := of_decide_eq_false hD
      have hz : W l D = 0 := (W_zero_iff h D).2 fun x hx hm => by
        obtain ⟨i, k0, k1, rfl⟩ := mem_rd hx
        rcases h3 i k0 k1 hm with h4 | h4
        · show D < (jobAt l i).Due; omega
        · show D < (jobAt l i).Due; omega
      rw [if_pos hz, hz]
      simp only [cond_false]
      rcases hd with hd | hd
      · have := z hd
        cases decide ((stepJ (jobAt l (firstL l))).Due ≤ D) <;> simp only [cond_true, cond_false] <;> omega
      · rw [hd, hD]
        simp
theorem run_mono {l l' : List Fu.Live} (h : ∀ x ∈ l, JP x.J) (h' : ∀ x ∈ l', JP x.J) (hw : ∀ D, W l' D ≤ W l D) (D : Int) : W (runFirst l') D ≤ W (runFirst l) D := by
  rw [W_run h, W_run h']
  have h1 := hw D
  have h2 := W_nonneg h' D
  split <;> split <;> omega

/-! ### jobs end -/
theorem jp_end {x : Fu.Live} (h : JP x.J) (t : Int) : JP (endL t x).J := by
  simp only [endL]
  unfold atJ
  cases overJ x.J t with
  | true => exact .inl rfl
  | false => exact h
theorem W_end {l : List Fu.Live} {t : Int} (h : ∀ x ∈ l, JP x.J) (hm : l.any (missL t) = false) (D : Int) : W (l.map (endL t)) D = W l D := by
  induction l with
  | nil => rfl
  | cons x l ih =>
    simp only [List.any_cons, Bool.or_eq_false_iff] at hm
    have h1 := ih (fun y hy => h y (List.mem_cons_of_mem _ hy)) hm.2
    have h2 : wk D (endL t x) = wk D x := by
      have h3 := hm.1
      unfold missL at h3
      unfold wk endL atJ
      simp only
      cases ho : overJ x.J t with
      | false => rfl
      | true =>
        rw [ho, Bool.true_and] at h3
        have := not_must (h x (by simp)) h3
        simp only [cond_true]
        rw [this]
        have e : leftM zeroJ = 0 := rfl
        rw [e]
        cases decide (zeroJ.Due ≤ D) <;> cases decide (x.J.Due ≤ D) <;> rfl
    simp only [W, List.map_cons, List.sum_cons] at *
    rw [h2]
    omega
/-- None is missed just where nothing must be done by then. -/
theorem miss_iff {l : List Fu.Live} {t : Int} (h : ∀ x ∈ l, JP x.J) : l.any (missL t) = false ↔ W l t = 0 := by
  rw [W_zero_iff h]
  constructor
  · intro hm x hx hmx
    have := List.any_eq_false.1 hm x hx
    unfold missL at this
    rw [hmx, Bool.and_true] at this
    have ho : x.J.On = true := by unfold mustJ at hmx; simp at hmx; exact hmx.1
    unfold overJ at this
    rw [ho] at this
    simp at this
    exact this
  · intro hm
    refine List.any_eq_false.2 fun x hx hmis => ?_
    unfold missL overJ at hmis
    simp only [Bool.and_eq_true, decide_eq_true_eq] at hmis
    have := hm x hx hmis.2
    omega
theorem idle_iff {l : List Fu.Live} : idleL l = true ↔ ∀ x ∈ l, mustJ x.J = false := by
  unfold idleL
  rw [beq_iff_eq]
  rcases firstL_spec l with ⟨hf, hn⟩ | ⟨h0, h1, h2, h3⟩
  · constructor
    · intro _ x hx
      obtain ⟨i, k0, k1, rfl⟩ := mem_rd hx
      exact hn i k0 k1
    · intro _; exact hf
  · constructor
    · intro e; omega
    · intro hn
      have := hn _ (rd_memL h0 h1)
      unfold jobAt at h2
      rw [this] at h2; cases h2
theorem idle_W {l : List Fu.Live} (h : ∀ x ∈ l, JP x.J) : idleL l = true ↔ ∀ D, W l D = 0 := by
  rw [idle_iff]
  constructor
  · intro hn D
    exact (W_zero_iff h D).2 fun x hx hm => by rw [hn x hx] at hm; cases hm
  · intro hw x hx
    cases hm : mustJ x.J with
    | false => rfl
    | true => have := (W_zero_iff h x.J.Due).1 (hw x.J.Due) x hx hm; omega

end Go.Fx
