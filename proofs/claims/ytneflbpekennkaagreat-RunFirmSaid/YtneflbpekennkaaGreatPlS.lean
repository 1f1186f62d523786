import Derived.Test.YtneflbpekennkaaGreatB38
import Derived.Test.YtneflbpekennkaaGreatPlR
/- Plain laws: who runs. -/
namespace Go.Fx
open Go

theorem mem_rdT {T : List Fu.Task} {t : Fu.Task} (h : t ∈ T) : ∃ i : Int, 0 ≤ i ∧ i < T.length ∧ rd .task T i = t := by
  obtain ⟨n, hn, rfl⟩ := List.mem_iff_getElem.1 h
  exact ⟨n, by omega, by omega, by simp [rd, hn]⟩
theorem rd_inT {T : List Fu.Task} {i : Int} (h0 : 0 ≤ i) (h1 : i < T.length) : rd .task T i ∈ T := by
  have hlt : i.toNat < T.length := by omega
  have : rd .task T i = T[i.toNat] := by simp [rd, hlt]
  rw [this]
  exact List.getElem_mem _
theorem rd_lives {T : List Fu.Task} {i : Int} (h0 : 0 ≤ i) (h1 : i < T.length) : rd .live (T.map liveK) i = liveK (rd .task T i) := by
  have hlt : i.toNat < T.length := by omega
  simp [rd, hlt]
theorem must_live (t : Fu.Task) : mustJ (liveK t).J = mustJ t.J ∧ (liveK t).J.Due = t.J.Due := by
  show mustJ (lookJ t) = _ ∧ (lookJ t).Due = _
  unfold lookJ
  cases h : t.J.On with
  | true => exact ⟨rfl, rfl⟩
  | false => exact ⟨rfl, rfl⟩
theorem asc_inj {T : List Fu.Task} (h : ascT T = true) {t u : Fu.Task} (ht : t ∈ T) (hu : u ∈ T) (e : t.ID = u.ID) : t = u := by
  have hp := ascT_pair.1 h
  induction T with
  | nil => cases ht
  | cons a T ih =>
    obtain ⟨h1, h2⟩ := List.pairwise_cons.1 hp
    rcases List.mem_cons.1 ht with ht' | ht' <;> rcases List.mem_cons.1 hu with hu' | hu'
    · rw [ht', hu']
    · have := h1 u hu'; rw [ht'] at e; omega
    · have := h1 t ht'; rw [hu'] at e; omega
    · exact ih (ascT_tail h) ht' hu' h2
theorem taskF_self {T : List Fu.Task} (h : ascT T = true) {t : Fu.Task} (ht : t ∈ T) : taskF T t.ID = some t := by
  unfold taskF
  cases hf : T.find? fun u => u.ID == t.ID with
  | none => have := List.find?_eq_none.1 hf t ht; simp at this
  | some u =>
    have h1 := List.find?_some hf
    have h2 := List.mem_of_find?_eq_some hf
    simp only [beq_iff_eq] at h1
    rw [asc_inj h h2 ht h1]
theorem must_spec (w : Fu.World) : ((mustW w).2 = false ∧ ∀ t ∈ w.T, mustJ t.J = false) ∨ ∃ t ∈ w.T, mustW w = (t.ID, true) ∧ mustJ t.J = true ∧ ∀ u ∈ w.T, mustJ u.J = true → t.J.Due ≤ u.J.Due := by
  have hl : (livesW w).length = w.T.length := by unfold livesW; simp
  have key : ∀ {i : Int}, 0 ≤ i → i < w.T.length → mustJ (jobAt (livesW w) i) = mustJ (rd .task w.T i).J ∧ (jobAt (livesW w) i).Due = (rd .task w.T i).J.Due := fun {i} h0 h1 => by
    have e : jobAt (livesW w) i = (liveK (rd .task w.T i)).J := by
      show (rd .live (livesW w) i).J = _
      unfold livesW
      rw [rd_lives h0 h1]
    rw [e]
    exact must_live _
  rcases firstL_spec (livesW w) with ⟨h1, h2⟩ | ⟨h1, h2, h3, h4⟩
  · left
    refine ⟨by unfold mustW; rw [h1]; rfl, fun t ht => ?_⟩
    obtain ⟨i, i0, i1, rfl⟩ := mem_rdT ht
    rw [← (key i0 i1).1]
    exact h2 i i0 (by rw [hl]; exact i1)
  · right
    rw [hl] at h2
    refine ⟨_, rd_inT h1 h2, ?_, by rw [← (key h1 h2).1]; exact h3, fun u hu hm => ?_⟩
    · unfold mustW
      have : (firstL (livesW w) == -1) = false := by simp; omega
      rw [this]
      rfl
    · obtain ⟨i, i0, i1, rfl⟩ := mem_rdT hu
      have := h4 i i0 (by rw [hl]; exact i1) (by rw [(key i0 i1).1]; exact hm)
      rw [(key h1 h2).2, (key i0 i1).2] at this
      omega
theorem mustJ_iff {j : Fu.Job} : mustJ j = true ↔ j.On = true ∧ j.Mand = true ∧ 0 < worst j := by
  unfold mustJ; simp
theorem whoW_must (w : Fu.World) : ((whoW w).1 == 1) = (mustW w).2 := by
  unfold whoW
  cases (mustW w).2 with
  | true => rfl
  | false =>
    cases (onceW w).2 with
    | true => rfl
    | false => cases (mayBand w).2 <;> rfl

theorem job_due {w : Fu.World} (hm : mayW w = true) {t : Fu.Task} (ht : t ∈ w.T) : smallC t.J ∧ (t.J.On = true → 1 ≤ t.J.Due) := by
  obtain ⟨_, _, _, _, h5, _⟩ := mayW_iff.1 hm
  obtain ⟨_, _, _, ⟨_, k5⟩, k6, _⟩ := mayK_iff.1 (tkOK_iff.1 (h5 t ht)).1
  have hp := perOK_P k5.1
  have e : (liveK t).S.C = t.S.C := rfl
  have hJ : JobOK t.S t.J := of_decide_eq_true k6
  rcases hJ.2 with ⟨a1, a2⟩ | ⟨a1, _, a3, a4, _, a6, _⟩
  · rw [a1, a2]
    exact ⟨by decide, fun h => by cases h⟩
  · exact ⟨⟨by omega, by omega, by omega, by omega⟩, fun _ => by omega⟩
def soonF (f : Int) (t : Fu.Task) : Int := bif t.J.On && (t.J.Mand && (decide (worst t.J > 0) && (f == 0 || decide (t.J.Due < f)))) then t.J.Due else f
theorem soon_fold : ∀ (T : List Fu.Task) (f : Int), 0 ≤ f → (∀ t ∈ T, t.J.On = true → 1 ≤ t.J.Due) →
    (T.foldl soonF f = 0 ∧ f = 0 ∧ ∀ t ∈ T, mustJ t.J = false) ∨ (1 ≤ T.foldl soonF f ∧ (T.foldl soonF f = f ∨ ∃ t ∈ T, mustJ t.J = true ∧ t.J.Due = T.foldl soonF f) ∧ (f ≠ 0 → T.foldl soonF f ≤ f) ∧ ∀ t ∈ T, mustJ t.J = true → T.foldl soonF f ≤ t.J.Due)
  | [], f, h0, _ => by
    rcases Int.lt_or_le 0 f with h | h
    · exact .inr ⟨by simp only [List.foldl_nil]; omega, .inl rfl, fun _ => Int.le_refl _, fun _ h => by cases h⟩
    · exact .inl ⟨by simp only [List.foldl_nil]; omega, by omega, fun _ h => by cases h⟩
  | t :: T, f, h0, hd => by
    have hdt := hd t (by simp)
    have e : soonF f t = bif mustJ t.J && (f == 0 || decide (t.J.Due < f)) then t.J.Due else f := by
      unfold soonF mustJ
      cases t.J.On <;> cases t.J.Mand <;> cases decide (worst t.J > 0) <;> rfl
    rw [List.foldl_cons]
    cases hm : mustJ t.J with
    | false =>
      rw [hm] at e
      have e : soonF f t = f := e
      rw [e]
      rcases soon_fold T f h0 (fun u hu => hd u (List.mem_cons_of_mem _ hu)) with ⟨k1, k2, k3⟩ | ⟨k1, k2, k3, k4⟩
      · refine .inl ⟨k1, k2, fun u hu => ?_⟩
        rcases List.mem_cons.1 hu with rfl | hu
        · exact hm
        · exact k3 u hu
      · refine .inr ⟨k1, k2.imp id fun ⟨u, hu, h⟩ => ⟨u, List.mem_cons_of_mem _ hu, h⟩, k3, fun u hu hmu => ?_⟩
        rcases List.mem_cons.1 hu with rfl | hu
        · rw [hm] at hmu; cases hmu
        · exact k4 u hu hmu
    | true =>
      have hon := (mustJ_iff.1 hm).1
      have hdt := hdt hon
      rw [hm, Bool.true_and] at e
      have h1 : 0 ≤ soonF f t := by rw [e]; cases (f == 0 || decide (t.J.Due < f)) <;> simp only [cond_true, cond_false] <;> omega
      have h2 : soonF f t ≠ 0 ∧ soonF f t ≤ t.J.Due ∧ (f ≠ 0 → soonF f t ≤ f) ∧ (soonF f t = f ∨ soonF f t = t.J.Due) := by
        rw [e]
        cases hc : (f == 0 || decide (t.J.Due < f)) with
        | true =>
          simp only [Bool.or_eq_true, beq_iff_eq, decide_eq_true_eq] at hc
          simp only [cond_true]
          exact ⟨by omega, Int.le_refl _, fun _ => by omega, .inr trivial⟩
        | false =>
          simp only [Bool.or_eq_false_iff, beq_eq_false_iff_ne, decide_eq_false_iff_not] at hc
          simp only [cond_false]
          exact ⟨hc.1, by omega, fun _ => Int.le_refl _, .inl trivial⟩
      rcases soon_fold T (soonF f t) h1 (fun u hu => hd u (List.mem_cons_of_mem _ hu)) with ⟨k1, k2, _⟩ | ⟨k1, k2, k3, k4⟩
      · exact absurd k2 h2.1
      · have k3 := k3 h2.1
        refine .inr ⟨k1, ?_, fun hf => by have := h2.2.2.1 hf; omega, fun u hu hmu => ?_⟩
        · rcases k2 with k2 | ⟨u, hu, h⟩
          · rcases h2.2.2.2 with h | h
            · exact .inl (by omega)
            · exact .inr ⟨t, by simp, hm, by omega⟩
          · exact .inr ⟨u, List.mem_cons_of_mem _ hu, h⟩
        · rcases List.mem_cons.1 hu with rfl | hu
          · omega
          · exact k4 u hu hmu
/-- Who runs where some must, and where none does. -/
theorem must_law {w : Fu.World} (hm : mayW w = true) : (w.T.foldl soonF 0 = 0 ∧ (whoW w).1 ≠ 1) ∨
    (w.T.foldl soonF 0 ≠ 0 ∧ (whoW w).1 = 1 ∧ ∃ t, taskF w.T (whoW w).2 = some t ∧ t.J.On = true ∧ t.J.Mand = true ∧ t.J.Due = w.T.foldl soonF 0) := by
  have hw := whoW_must w
  rcases soon_fold w.T 0 (Int.le_refl _) (fun t ht => (job_due hm ht).2) with ⟨k1, _, k3⟩ | ⟨k1, k2, _, k4⟩
  · refine .inl ⟨k1, fun h => ?_⟩
    rw [h] at hw
    rcases must_spec w with ⟨h1, _⟩ | ⟨t, ht, _, h3, _⟩
    · rw [h1] at hw; cases hw
    · rw [k3 t ht] at h3; cases h3
  · right
    obtain ⟨u, hu, hmu, hdu⟩ := k2.resolve_left (by omega)
    rcases must_spec w with ⟨_, h2⟩ | ⟨t, ht, h2, h3, h4⟩
    · rw [h2 u hu] at hmu; cases hmu
    · have hb : (whoW w).1 = 1 := by rw [h2] at hw; simpa using hw
      have h2' : (whoW w).2 = t.ID := by unfold whoW; rw [h2]; rfl
      obtain ⟨m1, m2, _⟩ := mustJ_iff.1 h3
      refine ⟨by omega, hb, t, by rw [h2']; exact taskF_self (mayW_asc hm) ht, m1, m2, ?_⟩
      have h5 := h4 u hu hmu
      have h6 := k4 t ht h3
      omega

end Go.Fx
