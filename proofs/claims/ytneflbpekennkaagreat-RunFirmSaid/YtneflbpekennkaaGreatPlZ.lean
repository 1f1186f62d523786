import Derived.Test.YtneflbpekennkaaGreatPlY
/- Plain laws: one time runs at most one job, by one. -/
namespace Go.Fx
open Go

theorem rdT_map {T : List Fu.Task} (f : Fu.Task → Fu.Task) {i : Int} (h0 : 0 ≤ i) (h1 : i < T.length) : rd .task (T.map f) i = f (rd .task T i) := by
  have hlt : i.toNat < T.length := by omega
  simp [rd, hlt]
theorem rdT_upd {T : List Fu.Task} {i j : Int} (hi : 0 ≤ i ∧ i < T.length) (hj : 0 ≤ j ∧ j < T.length) (x : Fu.Task) : rd .task (upd .task T i x) j = if i = j then x else rd .task T j := by
  have h1 : i.toNat < T.length := by omega
  have h2 : j.toNat < T.length := by omega
  unfold upd
  by_cases e : i = j
  · subst e
    simp [rd, h1]
  · have e2 : ¬ i.toNat = j.toNat := by omega
    simp [rd, h2, e, e2]
theorem runK_on {u : Fu.Task} (h0 : u.J.On = true) (h : (runK u).J.On = true) : (runK u).J.Ran = u.J.Ran + 1 := by
  have e : (runK u).J = stepJ u.J := by
    unfold runK
    rw [h0]
    simp only [cond_true]
    cases (stepF u.J == 0) <;> rfl
  rw [e] at h ⊢
  rcases step_cases h0 with ⟨_, s, _⟩ | ⟨_, s⟩
  · rw [s]; rfl
  · rw [s] at h; cases h
theorem endK_on {u : Fu.Task} {n : Int} (h : (endK u n).J.On = true) : endK u n = u := by
  unfold endK at h ⊢
  cases hb : overJ u.J n with
  | true => rw [hb] at h; cases h
  | false => rfl
theorem idsA_len (A : List Fu.Ape) : (idsA A).length = A.length := List.length_map _
theorem idsA_at {A : List Fu.Ape} {i : Nat} (hi : i < A.length) : (idsA A)[i]? = some A[i].ID := by
  unfold idsA
  rw [List.getElem?_map, List.getElem?_eq_getElem hi]
  rfl
theorem idsA_inj {A : List Fu.Ape} (hn : (idsA A).Nodup) {i j : Nat} (hi : i < A.length) (hj : j < A.length) (e : A[i].ID = A[j].ID) : i = j :=
  (List.getElem?_inj (j := j) (by rw [idsA_len]; exact hi) hn).1 (by rw [idsA_at hi, idsA_at hj, e])
theorem begTs_few (now : Int) : ∀ (l : List Fu.Task) (d : List Int), (begTs now d l).2.length ≤ l.length
  | [], _ => by simp [begTs]
  | t :: l, d => by
    unfold begTs
    cases begOK t now (lastD t d) with
    | true => simp only [cond_true, List.length_cons]; have := begTs_few now l d.tail; omega
    | false => simp only [cond_false, List.length_cons]; have := begTs_few now l d; omega
section
variable {w : Fu.World}
/-- What is told of the one that runs, if it is a task. -/
theorem Ahead.who_task (h : Ahead w) (d : List Int) (hc : (whoW (startW w d)).1 = 1 ∨ (whoW (startW w d)).1 = 3) : ∃ t ∈ (startW w d).T, t.ID = (whoW (startW w d)).2 ∧ t.J.On = true := by
  have hA : mayA w.A w.Now = true := (mayW_iff.1 h.may).2.2.2.1
  rcases who_spec (x := startW w d) hA with ⟨t, ht, e, hm, _⟩ | ⟨_, ⟨a, _, e, _⟩ | ⟨_, _, ⟨t, ht, e, ho⟩ | ⟨e, _⟩⟩⟩
  · exact ⟨t, ht, by rw [e], (mustJ_iff.1 hm).1⟩
  · rw [e] at hc; simp at hc
  · refine ⟨t, ht, by rw [e], ?_⟩
    unfold isOpt at ho
    cases h1 : t.J.On <;> cases h2 : t.J.Mand <;> simp [h1, h2] at ho ⊢
  · rw [e] at hc; simp at hc
theorem Ahead.startAsc (h : Ahead w) (d : List Int) : ascT (startW w d).T = true := ascT_ids (by rw [h.startT d, begTs_keys]) (mayW_asc h.may)
theorem Ahead.lenS (h : Ahead w) (d : List Int) : (startW w d).T.length = w.T.length := by
  have : ((startW w d).T.map (·.ID)).length = (w.T.map (·.ID)).length := by rw [h.startT d, begTs_keys]
  simpa using this
theorem Ahead.one_task (h : Ahead w) (d : List Int) {j : Int} (hj : 0 ≤ j ∧ j < (startW w d).T.length) :
    (((whoW (startW w d)).2 = (rd .task (startW w d).T j).ID ∧ ((whoW (startW w d)).1 = 1 ∨ (whoW (startW w d)).1 = 3)) → (rd .task (startW w d).T j).J.On = true ∧ ((rd .task (tickW w d).T j).J.On = true → (rd .task (tickW w d).T j).J.Ran = IntKind.i64.wrap ((rd .task (startW w d).T j).J.Ran + 1))) ∧
    (¬ ((whoW (startW w d)).2 = (rd .task (startW w d).T j).ID ∧ ((whoW (startW w d)).1 = 1 ∨ (whoW (startW w d)).1 = 3)) → (rd .task (tickW w d).T j).J.On = true → (rd .task (tickW w d).T j).J.Ran = (rd .task (startW w d).T j).J.Ran) := by
  have hlen : (midW w d).1.T.length = (startW w d).T.length := by
    have e1 : (tickW w d).T.length = (midW w d).1.T.length := by rw [h.tickT d, List.length_map]
    rw [← e1, h.tickLen, h.lenS]
  have ey : rd .task (tickW w d).T j = endK (rd .task (midW w d).1.T j) (w.Now + 1) := by
    rw [h.tickT d]
    exact rdT_map _ hj.1 (by omega)
  rw [ey]
  refine ⟨fun ⟨he, hc⟩ => ?_, fun hn hy => ?_⟩
  · obtain ⟨t, ht, e1, hon⟩ := h.who_task d hc
    have hmem := rdT_mem hj.1 hj.2
    have ett : t = rd .task (startW w d).T j := asc_inj (h.startAsc d) ht hmem (by rw [e1, he])
    refine ⟨by rw [← ett]; exact hon, fun hy => ?_⟩
    have e9 := endK_on hy
    rw [e9] at hy ⊢
    have e2 : (midW w d).1.T = upd .task (startW w d).T (idxT (startW w d).T (whoW (startW w d)).2) (runK (rd .task (startW w d).T (idxT (startW w d).T (whoW (startW w d)).2))) := by
      rw [mid_task hc]
      exact (noCur_A _).2.1
    obtain ⟨hi, hid⟩ := idxT_spec ⟨t, ht, e1⟩
    have er : rd .task (startW w d).T (idxT (startW w d).T (whoW (startW w d)).2) = t := asc_inj (h.startAsc d) (rdT_mem hi.1 hi.2) ht (by rw [hid, e1])
    have ei : idxT (startW w d).T (whoW (startW w d)).2 = j := by
      have hn := ascT_nodup _ (h.startAsc d)
      have h1 : (idxT (startW w d).T (whoW (startW w d)).2).toNat < ((startW w d).T.map (·.ID)).length := by rw [List.length_map]; omega
      have h2 : j.toNat < ((startW w d).T.map (·.ID)).length := by rw [List.length_map]; omega
      have h1' : (idxT (startW w d).T (whoW (startW w d)).2).toNat < (startW w d).T.length := by omega
      have h2' : j.toNat < (startW w d).T.length := by omega
      have := (List.getElem?_inj (j := j.toNat) h1 hn).1 (by
        rw [List.getElem?_eq_getElem h1, List.getElem?_eq_getElem h2, List.getElem_map, List.getElem_map]
        have e1 : rd .task (startW w d).T (idxT (startW w d).T (whoW (startW w d)).2) = (startW w d).T[(idxT (startW w d).T (whoW (startW w d)).2).toNat] := by simp [rd, h1']
        have e2 : rd .task (startW w d).T j = (startW w d).T[j.toNat] := by simp [rd, h2']
        rw [← e1, ← e2, er, ett])
      omega
    rw [e2, rdT_upd hi hj, if_pos ei, er, ett] at hy ⊢
    rw [ett] at hon
    have hTB := (h.TBs d).1 _ hmem
    have hj3 := jobOK_on hTB.2.2.2.2.2.2.1 hon
    rw [runK_on hon hy]
    have := hj3.2.2.2.2
    exact (wrap_fits (by omega) (by omega)).symm
  · have e9 := endK_on hy
    rw [e9] at hy ⊢
    rcases mid_T h.may d with e | ⟨hc, i, hi, hid, _, e⟩
    · rw [e]
    · rw [e, rdT_upd hi hj] at hy ⊢
      by_cases eij : i = j
      · subst eij
        exact absurd ⟨hid.symm, hc⟩ hn
      · rw [if_neg eij]
/-- The jobs that came once that are there still. -/
theorem Ahead.one_ape (h : Ahead w) (d : List Int) {a b : Fu.Ape} (ha : a ∈ (tickW w d).A) (hb : b ∈ w.A) (e : b.ID = a.ID) :
    (((whoW (startW w d)).1 = 2 ∧ (whoW (startW w d)).2 = a.ID) → a.Ran = IntKind.i64.wrap (b.Ran + 1)) ∧ (¬ ((whoW (startW w d)).1 = 2 ∧ (whoW (startW w d)).2 = a.ID) → a.Ran = b.Ran) := by
  have hA : mayA w.A w.Now = true := (mayW_iff.1 h.may).2.2.2.1
  have hnd := (mayA_iff.1 hA).2.1
  have hsub : List.Sublist (leftW w d).A w.A := List.filter_sublist
  have inj : ∀ x ∈ w.A, ∀ y ∈ w.A, x.ID = y.ID → x = y := fun x hx y hy exy => by
    obtain ⟨i, hi, rfl⟩ := List.getElem_of_mem hx
    obtain ⟨j, hj, rfl⟩ := List.getElem_of_mem hy
    have := idsA_inj hnd hi hj exy
    subst this
    rfl
  have eA : (tickW w d).A = (midW w d).1.A := rfl
  rw [eA] at ha
  have plain : (midW w d).1.A = (leftW w d).A → a.Ran = b.Ran := fun e2 => by
    rw [e2] at ha
    rw [inj b hb a (hsub.subset ha) e]
  rcases who_range (x := startW w d) hA with hc | hc | hc | hc
  · have := plain (by rw [mid_task (.inl hc)]; exact (noCur_A _).1)
    exact ⟨fun ⟨h1, _⟩ => by omega, fun _ => this⟩
  · obtain ⟨a0, ha0, e0⟩ := once_there hA hc
    obtain ⟨hi, hid⟩ := atA_spec ⟨a0, ha0, e0⟩
    -- each one of those is one that was there, by one more if it is the one that runs
    have key : ∀ x ∈ ranAs (leftW w d).A (whoW (startW w d)).2, (x.ID = (whoW (startW w d)).2 → ∃ y ∈ w.A, y.ID = x.ID ∧ x.Ran = IntKind.i64.wrap (y.Ran + 1)) ∧ (x.ID ≠ (whoW (startW w d)).2 → x ∈ w.A) := by
      intro x hx
      have hlt : (atA (leftW w d).A (whoW (startW w d)).2).toNat < (leftW w d).A.length := by omega
      have hrm := hsub.subset (rd_memP hi.1 hi.2)
      obtain ⟨k, hk, rfl⟩ := List.getElem_of_mem hx
      have hk' : k < (leftW w d).A.length := by rw [ranAs_len] at hk; exact hk
      by_cases ek : (atA (leftW w d).A (whoW (startW w d)).2).toNat = k
      · have e3 : (ranAs (leftW w d).A (whoW (startW w d)).2)[k] = ranA (rd .ape (leftW w d).A (atA (leftW w d).A (whoW (startW w d)).2)) := by
          exact (List.getElem_set (l := (leftW w d).A) (a := ranA (rd .ape (leftW w d).A (atA (leftW w d).A (whoW (startW w d)).2))) hk).trans (if_pos ek)
        rw [e3]
        exact ⟨fun _ => ⟨_, hrm, rfl, rfl⟩, fun hne => absurd hid hne⟩
      · have e3 : (ranAs (leftW w d).A (whoW (startW w d)).2)[k] = (leftW w d).A[k] := by
          exact (List.getElem_set (l := (leftW w d).A) (a := ranA (rd .ape (leftW w d).A (atA (leftW w d).A (whoW (startW w d)).2))) hk).trans (if_neg ek)
        rw [e3]
        refine ⟨fun e4 => ?_, fun _ => hsub.subset (List.getElem_mem _)⟩
        exfalso
        have hnd2 : (idsA (leftW w d).A).Nodup := ids_sub hsub hnd
        have := idsA_inj hnd2 hk' hlt (by
          have : rd .ape (leftW w d).A (atA (leftW w d).A (whoW (startW w d)).2) = (leftW w d).A[(atA (leftW w d).A (whoW (startW w d)).2).toNat] := by simp [rd, hlt]
          rw [← this, hid, e4])
        omega
    have fin : a ∈ ranAs (leftW w d).A (whoW (startW w d)).2 → (((whoW (startW w d)).1 = 2 ∧ (whoW (startW w d)).2 = a.ID) → a.Ran = IntKind.i64.wrap (b.Ran + 1)) ∧ (¬ ((whoW (startW w d)).1 = 2 ∧ (whoW (startW w d)).2 = a.ID) → a.Ran = b.Ran) := fun ha => by
      obtain ⟨k1, k2⟩ := key a ha
      refine ⟨fun ⟨_, h2⟩ => ?_, fun hn => ?_⟩
      · obtain ⟨y, hy, e5, e6⟩ := k1 h2.symm
        rw [e6, inj y hy b hb (by rw [e5, e])]
      · rw [inj b hb a (k2 fun e5 => hn ⟨hc, e5.symm⟩) e]
    rw [mid_once hc] at ha
    cases hd : doneB (leftW w d).A (whoW (startW w d)).2 with
    | true =>
      rw [hd] at ha
      simp only [cond_true, (noCur_A _).1] at ha
      exact fin ((List.eraseIdx_sublist _ _).subset ha)
    | false =>
      rw [hd] at ha
      simp only [cond_false, (noCur_A _).1] at ha
      exact fin ha
  · have := plain (by rw [mid_task (.inr hc)]; exact (noCur_A _).1)
    exact ⟨fun ⟨h1, _⟩ => by omega, fun _ => this⟩
  · have := plain (by rw [mid_none hc]; exact (noCur_A _).1)
    exact ⟨fun ⟨h1, _⟩ => by omega, fun _ => this⟩
end
end Go.Fx
