import Derived.Test.YtdpcphkhkhdbnaaB32
/- Plain laws: which worlds are safe. -/
namespace Go.Fx
open Go

theorem mayW_iff {w : Fu.World} : mayW w = true ↔ (0 ≤ w.Now ∧ w.Now ≤ 274877906944) ∧ w.T.length ≤ 4 ∧ (-1 ≤ w.Cur ∧ w.Cur ≤ 549755813888) ∧ mayA w.A w.Now = true ∧ (∀ t ∈ w.T, tkOK w.Now t = true) ∧ ascT w.T = true ∧ ascA w.A = true := by
  unfold mayW
  simp only [Bool.and_eq_true, Bool.not_eq_true', Bool.or_eq_false_iff, decide_eq_false_iff_not, Bool.not_eq_false', List.all_eq_true]
  constructor
  · rintro ⟨⟨h1, h2, h3, h4, h5, h6⟩, ⟨h7, h8⟩, h9⟩
    exact ⟨⟨by omega, by omega⟩, by omega, ⟨by omega, by omega⟩, h6, h7, h8, h9⟩
  · rintro ⟨⟨h1, h2⟩, h3, ⟨h4, h5⟩, h6, h7, h8, h9⟩
    exact ⟨⟨by omega, by omega, by omega, by omega, by omega, h6⟩, ⟨h7, h8⟩, h9⟩
theorem mayW_T {w : Fu.World} {T : List Fu.Task} (h : mayW w = true) (hl : T.length ≤ 4) (ho : ∀ t ∈ T, tkOK w.Now t = true) (ha : ascT T = true) : mayW { w with T := T } = true := by
  obtain ⟨h1, _, h3, h4, _, _, h7⟩ := mayW_iff.1 h
  exact mayW_iff.2 ⟨h1, hl, h3, h4, ho, ha, h7⟩
theorem ascT_pair : ∀ {l : List Fu.Task}, ascT l = true ↔ l.Pairwise fun a b => a.ID < b.ID
  | [] => by simp [ascT]
  | t :: l => by
    constructor
    · intro h
      exact List.pairwise_cons.2 ⟨ascT_lt l t h, ascT_pair.1 (ascT_tail h)⟩
    · intro h
      obtain ⟨h1, h2⟩ := List.pairwise_cons.1 h
      cases l with
      | nil => rfl
      | cons u l =>
        show (decide (t.ID < u.ID) && ascT (u :: l)) = true
        rw [decide_eq_true (h1 u (by simp)), ascT_pair.2 h2]
        rfl
theorem sumS_sub {l l' : List Int} (h : List.Sublist l' l) (hn : ∀ x ∈ l, 0 ≤ x) : 0 ≤ l'.sum ∧ l'.sum ≤ l.sum := by
  induction h with
  | slnil => simp
  | cons a _ ih =>
    have := ih fun x hx => hn x (List.mem_cons_of_mem _ hx)
    have := hn a (by simp)
    rw [List.sum_cons]; omega
  | cons_cons a _ ih =>
    have := ih fun x hx => hn x (List.mem_cons_of_mem _ hx)
    have := hn a (by simp)
    rw [List.sum_cons, List.sum_cons]; omega
theorem mayFs_sub {l l' : List Fu.Fix} (h : List.Sublist l' l) (hm : mayFs l = true) : mayFs l' = true := by
  have h1 := mayFs_mem hm
  have h2 := fits_sum hm
  unfold mayFs fitsV sumV at hm ⊢
  simp only [Bool.and_eq_true, decide_eq_true_eq, List.all_eq_true] at hm ⊢
  obtain ⟨_, _, h3, h4⟩ := hm
  refine ⟨fun x hx => h1.2 x (h.subset hx), ?_, ?_⟩
  · have := h.length_le; omega
  cases hc : (decide (((l.map unitF).length : Int) > 1000) || (l.map unitF).any outU) with
  | true => rw [hc] at h3; cases h3
  | false =>
    rw [Bool.or_eq_false_iff, List.any_eq_false] at hc
    have hs := h.map unitF
    have e : (decide (((l'.map unitF).length : Int) > 1000) || (l'.map unitF).any outU) = false := by
      rw [Bool.or_eq_false_iff, List.any_eq_false]
      refine ⟨decide_eq_false ?_, fun x hx => hc.2 x (hs.subset hx)⟩
      have := h.length_le
      rw [List.length_map]; omega
    rw [e]
    have hp : ∀ x ∈ l.map unitF, 0 ≤ x := fun x hx => by
      obtain ⟨y, hy, rfl⟩ := List.mem_map.1 hx
      have := h1.2 y hy
      unfold mayF at this
      have := of_decide_eq_true this
      unfold unitF; omega
    have := sumS_sub hs hp
    exact ⟨rfl, by simp only [cond_false]; omega⟩
theorem test_sub {l l' : List Fu.Fix} (h : List.Sublist l' l) (ht : testV l = true) : testV l' = true := by
  obtain ⟨h1, _⟩ := testV_iff.1 ht
  have h2 := mayFs_sub h h1
  have hr := hzV_range h2
  refine testV_iff.2 ⟨h2, fun d h0 hd => ?_⟩
  have h3 := test_all ht h0 (by omega)
  have hp : ∀ x ∈ l.map fun x => ofV x d, 0 ≤ x := fun x hx => by
    obtain ⟨y, _, rfl⟩ := List.mem_map.1 hx
    exact (ofV_range y d).1
  have h4 := sumS_sub (h.map fun x => ofV x d) hp
  unfold sumOf at *
  omega
/-- A safe world stays so without some of its tasks. -/
theorem safe_sub {w : Fu.World} {T : List Fu.Task} (h : List.Sublist T w.T) (hs : safeW w = true) : safeW { w with T := T } = true := by
  unfold safeW at hs ⊢
  simp only [Bool.and_eq_true] at hs ⊢
  obtain ⟨h1, h2, h3⟩ := hs
  obtain ⟨_, k2, _, _, k5, k6, _⟩ := mayW_iff.1 h1
  refine ⟨mayW_T h1 (by have := h.length_le; omega) (fun t ht => k5 t (h.subset ht)) (ascT_pair.2 ((ascT_pair.1 k6).sublist h)), ?_, test_sub (h.map fixK) h3⟩
  obtain ⟨m, k1, _⟩ := look_less (n := (lookL (w.T.map liveK) w.Now).1) (h.map liveK) (by rw [← h2])
  rw [k1]
/-- Without tasks a world is safe. -/
theorem safe_bare {w : Fu.World} (h : mayW w = true) : safeW { w with T := [] } = true := by
  obtain ⟨⟨h1, h2⟩, _⟩ := mayW_iff.1 h
  unfold safeW
  rw [mayW_T h (by simp) (by simp) rfl]
  have e : lookL [] w.Now = (w.Now, true) := by
    unfold lookL
    rw [show mayL [] w.Now = true from mayL_iff.2 ⟨by simp, ⟨h1, by omega⟩, by simp⟩]
    rfl
  show (lookL [] w.Now).2 && testV [] = true
  rw [e]
  have : testV [] = true := by decide +kernel
  rw [this]
  rfl

end Go.Fx
