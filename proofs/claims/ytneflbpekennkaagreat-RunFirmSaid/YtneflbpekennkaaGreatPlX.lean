import Derived.Test.YtneflbpekennkaaGreatPlW
/- Plain laws: a safe world, one time later. -/
namespace Go.Fx
open Go

theorem noCur_A (x : Fu.World) : (noCur x).A = x.A ∧ (noCur x).T = x.T ∧ (noCur x).Now = x.Now := by
  unfold noCur
  cases (atA x.A x.Cur == -1) <;> exact ⟨rfl, rfl, rfl⟩
theorem noCur_in {x : Fu.World} (h : ∃ a ∈ x.A, a.ID = x.Cur) : (noCur x).Cur = x.Cur := by
  unfold noCur
  have := (atA_spec h).1
  have : (atA x.A x.Cur == -1) = false := by rw [beq_eq_false_iff_ne]; omega
  rw [this]
  rfl
theorem mid_task {w : Fu.World} {d : List Int} (h : (whoW (startW w d)).1 = 1 ∨ (whoW (startW w d)).1 = 3) : midW w d = (noCur (ranTask (leftW w d) (whoW (startW w d)).2), stepF (rd .task (leftW w d).T (idxT (leftW w d).T (whoW (startW w d)).2)).J) := by
  have e : ((whoW (startW w d)).1 == 1 || (whoW (startW w d)).1 == 3) = true := by rcases h with h | h <;> rw [h] <;> rfl
  unfold midW ranW ranWho curW
  rw [e]
  rfl
theorem mid_none {w : Fu.World} {d : List Int} (h : (whoW (startW w d)).1 = 0) : midW w d = (noCur (leftW w d), 0) := by
  unfold midW ranW ranWho curW
  rw [h]
  rfl
/-- The world in which a job that came once runs. -/
def onceX (w : Fu.World) (d : List Int) : Fu.World := { leftW w d with Cur := (whoW (startW w d)).2 }
theorem mid_once {w : Fu.World} {d : List Int} (h : (whoW (startW w d)).1 = 2) : midW w d = bif doneB (leftW w d).A (whoW (startW w d)).2 then (noCur { onceX w d with A := (ranAs (leftW w d).A (whoW (startW w d)).2).eraseIdx (atA (leftW w d).A (whoW (startW w d)).2).toNat }, 1) else (noCur { onceX w d with A := ranAs (leftW w d).A (whoW (startW w d)).2 }, 0) := by
  unfold midW ranW ranWho curW
  rw [h]
  have e : ∀ b : Bool, ((noCur (bif b then (({ onceX w d with A := (ranAs (leftW w d).A (whoW (startW w d)).2).eraseIdx (atA (leftW w d).A (whoW (startW w d)).2).toNat } : Fu.World), (1 : Int)) else ({ onceX w d with A := ranAs (leftW w d).A (whoW (startW w d)).2 }, 0)).1, (bif b then (({ onceX w d with A := (ranAs (leftW w d).A (whoW (startW w d)).2).eraseIdx (atA (leftW w d).A (whoW (startW w d)).2).toNat } : Fu.World), (1 : Int)) else ({ onceX w d with A := ranAs (leftW w d).A (whoW (startW w d)).2 }, 0)).2) : Fu.World × Int) =
      bif b then (noCur { onceX w d with A := (ranAs (leftW w d).A (whoW (startW w d)).2).eraseIdx (atA (leftW w d).A (whoW (startW w d)).2).toNat }, 1) else (noCur { onceX w d with A := ranAs (leftW w d).A (whoW (startW w d)).2 }, 0) := fun b => by cases b <;> rfl
  exact e _
theorem who_range {x : Fu.World} (hA : mayA x.A x.Now = true) : (whoW x).1 = 1 ∨ (whoW x).1 = 2 ∨ (whoW x).1 = 3 ∨ (whoW x).1 = 0 := by
  rcases who_spec hA with ⟨t, _, e, _⟩ | ⟨_, ⟨a, _, e, _⟩ | ⟨_, _, ⟨t, _, e, _⟩ | ⟨e, _⟩⟩⟩ <;> rw [e] <;> simp
theorem who_once {x : Fu.World} (hA : mayA x.A x.Now = true) (h : (whoW x).1 = 2) : ∃ a ∈ x.A, (whoW x).2 = a.ID ∧ (pickW x).1 = a.ID ∧ a.ID ∉ (pickW x).2 ∧ lateA x.Now a = false ∧ ∀ t ∈ x.T, mustJ t.J = false := by
  rcases who_spec hA with ⟨t, _, e, _⟩ | ⟨h0, ⟨a, ha, e, k1, k2, k3⟩ | ⟨_, _, ⟨t, _, e, _⟩ | ⟨e, _⟩⟩⟩
  · rw [e] at h; simp at h
  · exact ⟨a, ha, by rw [e], k1, k2, k3, h0⟩
  · rw [e] at h; simp at h
  · rw [e] at h; simp at h
theorem once_there {w : Fu.World} {d : List Int} (hA : mayA w.A w.Now = true) (h : (whoW (startW w d)).1 = 2) : ∃ a ∈ (leftW w d).A, a.ID = (whoW (startW w d)).2 := by
  obtain ⟨a, ha, e, _, k2, _⟩ := who_once (x := startW w d) hA h
  refine ⟨a, List.mem_filter.2 ⟨ha, ?_⟩, e.symm⟩
  cases hh : hasI (pickW (startW w d)).2 a.ID with
  | false => rfl
  | true => exact absurd (hasI_iff.1 hh) k2
theorem ranAs_ids (A : List Fu.Ape) (id : Int) : idsA (ranAs A id) = idsA A := by
  unfold ranAs idsA upd
  apply List.ext_getElem?
  intro i
  rw [List.getElem?_map, List.getElem?_map, List.getElem?_set]
  by_cases hi : (atA A id).toNat = i
  · rw [if_pos hi]
    subst hi
    by_cases hl : (atA A id).toNat < A.length
    · rw [if_pos hl, List.getElem?_eq_getElem hl]
      simp [ranA, rd, hl]
    · rw [if_neg hl, List.getElem?_eq_none (by omega)]
  · rw [if_neg hi]
theorem tick_len {w : Fu.World} (hm : mayW w = true) (d : List Int) : ((tickW w d).A.length : Int) = w.A.length - (pickW (startW w d)).2.length - (bif (whoW (startW w d)).1 == 2 && (midW w d).2 == 1 then 1 else 0) ∧
    ((whoW (startW w d)).1 = 2 → (midW w d).2 = 1 ∨ ((midW w d).2 = 0 ∧ (tickW w d).Cur = (whoW (startW w d)).2)) := by
  have hA : mayA w.A w.Now = true := (mayW_iff.1 hm).2.2.2.1
  have hg := gone_len (x := startW w d) hA
  have hl : (leftW w d).A.length + (pickW (startW w d)).2.length = w.A.length := hg
  have eA : (tickW w d).A = (midW w d).1.A := rfl
  have eC : (tickW w d).Cur = (midW w d).1.Cur := rfl
  rw [eA, eC]
  rcases who_range (x := startW w d) hA with h | h | h | h
  · rw [mid_task (.inl h), h]
    refine ⟨?_, fun h => by omega⟩
    simp only [(noCur_A _).1]
    show ((leftW w d).A.length : Int) = _
    simp
    omega
  · rw [mid_once h, h]
    obtain ⟨hi, _⟩ := atA_spec (once_there hA h)
    have hr := ranAs_len (leftW w d).A (whoW (startW w d)).2
    cases hd : doneB (leftW w d).A (whoW (startW w d)).2 with
    | true =>
      refine ⟨?_, fun _ => .inl rfl⟩
      simp only [cond_true, (noCur_A _).1]
      rw [List.length_eraseIdx_of_lt (by omega)]
      simp
      omega
    | false =>
      refine ⟨?_, fun _ => .inr ⟨rfl, ?_⟩⟩
      · simp only [cond_false, (noCur_A _).1]
        simp
        omega
      · simp only [cond_false]
        refine noCur_in ?_
        show ∃ a ∈ ranAs (leftW w d).A (whoW (startW w d)).2, a.ID = (whoW (startW w d)).2
        obtain ⟨a, ha, e⟩ := once_there hA h
        have : (whoW (startW w d)).2 ∈ idsA (ranAs (leftW w d).A (whoW (startW w d)).2) := by
          rw [ranAs_ids]
          exact List.mem_map.2 ⟨a, ha, e⟩
        obtain ⟨b, hb, e2⟩ := List.mem_map.1 this
        exact ⟨b, hb, e2⟩
  · rw [mid_task (.inr h), h]
    refine ⟨?_, fun h => by omega⟩
    simp only [(noCur_A _).1]
    show ((leftW w d).A.length : Int) = _
    simp
    omega
  · rw [mid_none h, h]
    refine ⟨?_, fun h => by omega⟩
    simp only [(noCur_A _).1]
    simp
    omega

/-! ### jobs that came once -/
theorem ascA_pair : ∀ {l : List Fu.Ape}, ascA l = true ↔ l.Pairwise fun a b => a.ID ≤ b.ID
  | [] => by simp [ascA]
  | [a] => by simp [ascA]
  | a :: b :: l => by
    have ih := ascA_pair (l := b :: l)
    have e : ascA (a :: b :: l) = (decide (a.ID ≤ b.ID) && ascA (b :: l)) := rfl
    rw [e, Bool.and_eq_true, decide_eq_true_eq, ih]
    constructor
    · rintro ⟨h1, h2⟩
      refine List.pairwise_cons.2 ⟨fun c hc => ?_, h2⟩
      rcases List.mem_cons.1 hc with rfl | hc
      · exact h1
      · have := (List.pairwise_cons.1 h2).1 c hc; omega
    · intro h
      obtain ⟨h1, h2⟩ := List.pairwise_cons.1 h
      exact ⟨h1 b (by simp), h2⟩
theorem ascA_ids {l m : List Fu.Ape} (h : idsA l = idsA m) (hm : ascA m = true) : ascA l = true := by
  have e : ∀ l : List Fu.Ape, ascA l = true ↔ (idsA l).Pairwise (· ≤ ·) := fun l => by
    rw [ascA_pair]
    unfold idsA
    rw [List.pairwise_map]
  rw [e, h]
  exact (e m).1 hm
theorem ascA_sub {l m : List Fu.Ape} (h : List.Sublist l m) (hm : ascA m = true) : ascA l = true := ascA_pair.2 ((ascA_pair.1 hm).sublist h)
theorem mayA_sub {l m : List Fu.Ape} {now now' : Int} (h : List.Sublist l m) (hm : mayA m now = true) (hn : 0 ≤ now' ∧ now' ≤ 549755813888) : mayA l now' = true := by
  obtain ⟨h1, h2, h3, _⟩ := mayA_iff.1 hm
  exact mayA_iff.2 ⟨fun a ha => h1 a (h.subset ha), ids_sub h h2, by have := h.length_le; omega, hn⟩
/-- The jobs that came once, one time later. -/
theorem tick_apes {w : Fu.World} (hm : mayW w = true) (h1 : w.Now < 274877906944) (d : List Int) : mayA (tickW w d).A (w.Now + 1) = true ∧ ascA (tickW w d).A = true ∧ -1 ≤ (tickW w d).Cur ∧ (tickW w d).Cur ≤ 549755813888 := by
  obtain ⟨⟨h0, _⟩, _, ⟨c0, c1⟩, hA, _, _, hasc⟩ := mayW_iff.1 hm
  have hsub : List.Sublist (leftW w d).A w.A := List.filter_sublist
  have hnow : 0 ≤ w.Now + 1 ∧ w.Now + 1 ≤ 549755813888 := by omega
  have eA : (tickW w d).A = (midW w d).1.A := rfl
  have eC : (tickW w d).Cur = (midW w d).1.Cur := rfl
  have hcur : ∀ x : Fu.World, -1 ≤ x.Cur ∧ x.Cur ≤ 549755813888 → -1 ≤ (noCur x).Cur ∧ (noCur x).Cur ≤ 549755813888 := by
    intro x hx
    unfold noCur
    cases (atA x.A x.Cur == -1) with
    | true => exact ⟨Int.le_refl _, by show (-1 : Int) ≤ _; omega⟩
    | false => exact hx
  rw [eA, eC]
  rcases who_range (x := startW w d) hA with h | h | h | h
  · rw [mid_task (.inl h)]
    simp only [(noCur_A _).1]
    exact ⟨mayA_sub hsub hA hnow, ascA_sub hsub hasc, hcur _ ⟨c0, c1⟩⟩
  · rw [mid_once h]
    obtain ⟨a, ha, e⟩ := once_there hA h
    have hL := mayA_sub hsub hA hnow
    obtain ⟨l1, l2, l3, _⟩ := mayA_iff.1 hL
    have hida := apeOK_iff.1 (l1 a ha)
    obtain ⟨hi, hid⟩ := atA_spec ⟨a, ha, e⟩
    have hmem := rd_memP hi.1 hi.2
    have hx : -1 ≤ (whoW (startW w d)).2 ∧ (whoW (startW w d)).2 ≤ 549755813888 := by omega
    have hrd : rd .ape (ranAs (leftW w d).A (whoW (startW w d)).2) (atA (leftW w d).A (whoW (startW w d)).2) = ranA (rd .ape (leftW w d).A (atA (leftW w d).A (whoW (startW w d)).2)) := by
      have hlt : (atA (leftW w d).A (whoW (startW w d)).2).toNat < (leftW w d).A.length := by omega
      unfold ranAs upd
      simp [rd, hlt]
    have hmm := apeOK_iff.1 (l1 _ hmem)
    have hw : IntKind.i64.wrap ((rd .ape (leftW w d).A (atA (leftW w d).A (whoW (startW w d)).2)).Ran + 1) = (rd .ape (leftW w d).A (atA (leftW w d).A (whoW (startW w d)).2)).Ran + 1 := wrap_fits (by omega) (by omega)
    have hasc2 : ascA (ranAs (leftW w d).A (whoW (startW w d)).2) = true := ascA_ids (ranAs_ids _ _) (ascA_sub hsub hasc)
    have hnd2 : (idsA (ranAs (leftW w d).A (whoW (startW w d)).2)).Nodup := by rw [ranAs_ids]; exact l2
    cases hd : doneB (leftW w d).A (whoW (startW w d)).2 with
    | true =>
      simp only [cond_true, (noCur_A _).1]
      have hes := List.eraseIdx_sublist (ranAs (leftW w d).A (whoW (startW w d)).2) (atA (leftW w d).A (whoW (startW w d)).2).toNat
      refine ⟨mayA_iff.2 ⟨fun b hb => ?_, ids_sub hes hnd2, by have := hes.length_le; rw [ranAs_len] at this; omega, hnow⟩, ascA_sub hes hasc2, hcur _ hx⟩
      have hb' : b ∈ (leftW w d).A := by
        have e2 : (ranAs (leftW w d).A (whoW (startW w d)).2).eraseIdx (atA (leftW w d).A (whoW (startW w d)).2).toNat = (leftW w d).A.eraseIdx (atA (leftW w d).A (whoW (startW w d)).2).toNat := by
          unfold ranAs upd
          exact List.eraseIdx_set_eq
        rw [e2] at hb
        exact (List.eraseIdx_sublist _ _).subset hb
      exact l1 b hb'
    | false =>
      simp only [cond_false, (noCur_A _).1]
      refine ⟨mayA_iff.2 ⟨fun b hb => ?_, hnd2, by rw [ranAs_len]; exact l3, hnow⟩, hasc2, hcur _ hx⟩
      have hd2 : ¬ ((ranA (rd .ape (leftW w d).A (atA (leftW w d).A (whoW (startW w d)).2))).Ran ≥ (ranA (rd .ape (leftW w d).A (atA (leftW w d).A (whoW (startW w d)).2))).C) := by
        unfold doneB at hd
        rw [hrd] at hd
        exact of_decide_eq_false hd
      unfold ranA at hd2
      simp only at hd2
      rw [hw] at hd2
      rcases List.mem_or_eq_of_mem_set hb with hb | hb
      · exact l1 b hb
      · rw [hb]
        refine apeOK_iff.2 ⟨hmm.1, hmm.2.1, hmm.2.2.1, hmm.2.2.2.1, ?_⟩
        unfold ranA
        simp only
        rw [hw]
        omega
  · rw [mid_task (.inr h)]
    simp only [(noCur_A _).1]
    exact ⟨mayA_sub hsub hA hnow, ascA_sub hsub hasc, hcur _ ⟨c0, c1⟩⟩
  · rw [mid_none h]
    simp only [(noCur_A _).1]
    exact ⟨mayA_sub hsub hA hnow, ascA_sub hsub hasc, hcur _ ⟨c0, c1⟩⟩
end Go.Fx
