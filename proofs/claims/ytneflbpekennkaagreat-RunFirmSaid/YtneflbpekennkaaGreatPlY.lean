import Derived.Test.YtneflbpekennkaaGreatPlX
/- Plain laws: a safe world stays safe. -/
namespace Go.Fx
open Go

theorem fix_live (T : List Fu.Task) : (T.map liveK).map fixOf = T.map fixK := by
  rw [List.map_map]; rfl
theorem runK_same (u : Fu.Task) : (runK u).ID = u.ID ∧ (runK u).N = u.N ∧ (runK u).S = u.S ∧ (runK u).Next = u.Next ∧ (runK u).Kept = u.Kept := by
  unfold runK
  cases u.J.On with
  | false => exact ⟨rfl, rfl, rfl, rfl, rfl⟩
  | true =>
    simp only [cond_true]
    cases (stepF u.J == 0) <;> exact ⟨rfl, rfl, rfl, rfl, rfl⟩
theorem endK_same (u : Fu.Task) (n : Int) : (endK u n).ID = u.ID ∧ (endK u n).N = u.N ∧ (endK u n).S = u.S ∧ (endK u n).Next = u.Next ∧ (endK u n).Kept = u.Kept := by
  unfold endK
  cases overJ u.J n <;> exact ⟨rfl, rfl, rfl, rfl, rfl⟩
theorem upd_map {β : Type} {T : List Fu.Task} {i : Int} (h0 : 0 ≤ i) (h1 : i < T.length) {x : Fu.Task} (f : Fu.Task → β) (h : f x = f (rd .task T i)) : (upd .task T i x).map f = T.map f := by
  unfold upd
  rw [List.map_set, h]
  have hlt : i.toNat < T.length := by omega
  have e : rd .task T i = T[i.toNat] := by simp [rd, hlt]
  rw [e]
  apply List.ext_getElem?
  intro j
  rw [List.getElem?_set]
  by_cases hj : i.toNat = j
  · subst hj
    rw [if_pos rfl, if_pos (by rw [List.length_map]; exact hlt), List.getElem?_map, List.getElem?_eq_getElem hlt]
    rfl
  · rw [if_neg hj]
/-- The tasks behind the one that runs. -/
theorem mid_T {w : Fu.World} (hm : mayW w = true) (d : List Int) : (midW w d).1.T = (startW w d).T ∨ (((whoW (startW w d)).1 = 1 ∨ (whoW (startW w d)).1 = 3) ∧ ∃ i : Int, (0 ≤ i ∧ i < (startW w d).T.length) ∧ (rd .task (startW w d).T i).ID = (whoW (startW w d)).2 ∧ i = idxT (startW w d).T (whoW (startW w d)).2 ∧
    (midW w d).1.T = upd .task (startW w d).T i (runK (rd .task (startW w d).T i))) := by
  have hA : mayA w.A w.Now = true := (mayW_iff.1 hm).2.2.2.1
  have key : ((whoW (startW w d)).1 = 1 ∨ (whoW (startW w d)).1 = 3) → (∃ t ∈ (startW w d).T, t.ID = (whoW (startW w d)).2) := by
    intro hc
    rcases who_spec (x := startW w d) hA with ⟨t, ht, e, _⟩ | ⟨_, ⟨a, _, e, _⟩ | ⟨_, _, ⟨t, ht, e, _⟩ | ⟨e, _⟩⟩⟩
    · exact ⟨t, ht, by rw [e]⟩
    · rw [e] at hc; simp at hc
    · exact ⟨t, ht, by rw [e]⟩
    · rw [e] at hc; simp at hc
  rcases who_range (x := startW w d) hA with h | h | h | h
  · obtain ⟨hi, hid⟩ := idxT_spec (key (.inl h))
    right
    refine ⟨.inl h, _, hi, hid, rfl, ?_⟩
    rw [mid_task (.inl h)]
    exact (noCur_A _).2.1
  · left
    rw [mid_once h]
    cases doneB (leftW w d).A (whoW (startW w d)).2 <;> simp only [cond_true, cond_false, (noCur_A _).2.1] <;> rfl
  · obtain ⟨hi, hid⟩ := idxT_spec (key (.inr h))
    right
    refine ⟨.inr h, _, hi, hid, rfl, ?_⟩
    rw [mid_task (.inr h)]
    exact (noCur_A _).2.1
  · left
    rw [mid_none h]
    exact (noCur_A _).2.1
theorem mid_now (w : Fu.World) (d : List Int) : (midW w d).1.Now = w.Now := by
  unfold midW ranW ranWho curW
  simp only [(noCur_A _).2.2]
  have e : ∀ x : Fu.World, x.Now = w.Now → ∀ c : Int × Int, (bif c.1 == 1 || c.1 == 3 then (ranTask x c.2, stepF (rd .task x.T (idxT x.T c.2)).J) else
      bif c.1 == 2 then (bif doneB x.A c.2 then ({ x with A := (ranAs x.A c.2).eraseIdx (atA x.A c.2).toNat }, 1) else ({ x with A := ranAs x.A c.2 }, 0)) else (x, 0)).1.Now = w.Now := by
    intro x hx c
    cases (c.1 == 1 || c.1 == 3) with
    | true => exact hx
    | false =>
      simp only [cond_false]
      cases (c.1 == 2) with
      | true =>
        simp only [cond_true]
        cases doneB x.A c.2 <;> exact hx
      | false => exact hx
  refine e _ ?_ _
  cases (!((whoW (startW w d)).1 == 1 || (whoW (startW w d)).1 == 3) && (whoW (startW w d)).1 == 2) <;> rfl
/-- What is said of a world ahead of one time. -/
structure Ahead (w : Fu.World) : Prop where
  may : mayW w = true
  now : w.Now < 274877906944
  low : ∀ t ∈ w.T, t.N < 549755813888
theorem Ahead.of_low {w : Fu.World} {b : Int} (hm : mayW w = true) (hb : b ≤ 1000) (h : lowN b w) : Ahead w := ⟨hm, by have := h.1; omega, fun t ht => by have := h.2 t ht; omega⟩
section
variable {w : Fu.World}
theorem Ahead.nowge (h : Ahead w) : 0 ≤ w.Now := (mayW_iff.1 h.may).1.1
theorem Ahead.startT (h : Ahead w) (d : List Int) : (startW w d).T = (begTs w.Now d w.T).1 := (begin_T h.may d).1
theorem Ahead.tasks (h : Ahead w) : ∀ t ∈ w.T, tkOK w.Now t = true ∧ t.N < 549755813888 := fun t ht => ⟨(mayW_iff.1 h.may).2.2.2.2.1 t ht, h.low t ht⟩
theorem Ahead.TBs (h : Ahead w) (d : List Int) : (∀ u ∈ (startW w d).T, TB w.Now u) ∧ (startW w d).T.map liveK = beginAll (w.T.map liveK) w.Now := by
  rw [h.startT d]
  obtain ⟨h1, h2, _⟩ := begTs_TB h.nowge (by have := h.now; omega) w.T d h.tasks
  exact ⟨h1, h2⟩
theorem Ahead.midTB (h : Ahead w) (d : List Int) : ∀ u ∈ (midW w d).1.T, TB w.Now u := by
  have hB := (h.TBs d).1
  rcases mid_T h.may d with e | ⟨_, i, hi, _, _, e⟩
  · rw [e]; exact hB
  · rw [e]
    intro u hu
    rcases List.mem_or_eq_of_mem_set hu with hu | rfl
    · exact hB u hu
    · exact run_TB (hB _ (rdT_mem hi.1 hi.2))
theorem Ahead.later (h : Ahead w) (d : List Int) : (laterW (midW w d).1).Now = w.Now + 1 := by
  show IntKind.i64.wrap ((midW w d).1.Now + 1) = _
  rw [mid_now]
  have := h.nowge
  have := h.now
  exact wrap_fits (by omega) (by omega)
theorem Ahead.tickT (h : Ahead w) (d : List Int) : (tickW w d).T = (midW w d).1.T.map fun t => endK t (w.Now + 1) := by
  show (midW w d).1.T.map (fun t => endK t (laterW (midW w d).1).Now) = _
  rw [h.later d]
theorem Ahead.tickNow (h : Ahead w) (d : List Int) : (tickW w d).Now = w.Now + 1 := h.later d
theorem Ahead.tickMap (h : Ahead w) (d : List Int) {β : Type} (f : Fu.Task → β) (h1 : ∀ u n, f (endK u n) = f u) (h2 : ∀ u, f (runK u) = f u) : (tickW w d).T.map f = (startW w d).T.map f := by
  rw [h.tickT d, List.map_map]
  have e : (midW w d).1.T.map (f ∘ fun t => endK t (w.Now + 1)) = (midW w d).1.T.map f := List.map_congr_left fun u _ => h1 u _
  rw [e]
  rcases mid_T h.may d with e | ⟨_, i, hi, _, _, e⟩
  · rw [e]
  · rw [e]
    exact upd_map hi.1 hi.2 f (h2 _)
theorem Ahead.tickIDs (h : Ahead w) (d : List Int) : (tickW w d).T.map (·.ID) = w.T.map (·.ID) := by
  rw [h.tickMap d (·.ID) (fun u n => (endK_same u n).1) fun u => (runK_same u).1, h.startT d, begTs_keys]
theorem Ahead.tickFix (h : Ahead w) (d : List Int) : (tickW w d).T.map fixK = w.T.map fixK := by
  rw [h.tickMap d fixK (fun u n => by unfold fixK; rw [(endK_same u n).2.2.1, (endK_same u n).2.2.2.1]) fun u => by unfold fixK; rw [(runK_same u).2.2.1, (runK_same u).2.2.2.1]]
  rw [h.startT d, begTs_fix]
theorem Ahead.tickLen (h : Ahead w) (d : List Int) : (tickW w d).T.length = w.T.length := by
  have := congrArg List.length (h.tickIDs d)
  simpa using this
/-- What may be stays so. -/
theorem Ahead.tickMay (h : Ahead w) (d : List Int) : mayW (tickW w d) = true := by
  obtain ⟨⟨h0, _⟩, h4, _, _, _, hasc, _⟩ := mayW_iff.1 h.may
  obtain ⟨a1, a2, a3, a4⟩ := tick_apes h.may h.now d
  have hn := h.now
  refine mayW_iff.2 ⟨by rw [h.tickNow]; omega, by rw [h.tickLen]; exact h4, ⟨a3, a4⟩, by rw [h.tickNow]; exact a1, ?_, ascT_ids (h.tickIDs d) hasc, a2⟩
  rw [h.tickNow, h.tickT]
  intro t ht
  obtain ⟨u, hu, rfl⟩ := List.mem_map.1 ht
  exact end_tk (h.midTB d u hu) h0 (by omega)
theorem Ahead.tickLow (h : Ahead w) (d : List Int) {b : Int} (hl : lowN b w) : lowN (b + 1) (tickW w d) := by
  refine ⟨by rw [h.tickNow]; have := hl.1; omega, fun t ht => ?_⟩
  have e := h.tickMap d (·.N) (fun u n => (endK_same u n).2.1) fun u => (runK_same u).2.1
  have hmem : t.N ∈ (startW w d).T.map (·.N) := by rw [← e]; exact List.mem_map.2 ⟨t, ht, rfl⟩
  obtain ⟨u, hu, e2⟩ := List.mem_map.1 hmem
  rw [h.startT d] at hu
  have := (begTs_TB h.nowge (by have := h.now; omega) w.T d h.tasks).2.2 _ hl.2 u hu
  have e2 : u.N = t.N := e2
  omega

/-! ### as it is looked on -/
theorem TB.liveB {now : Int} {u : Fu.Task} (h : TB now u) : LiveB 549755813888 (liveK u) now := by
  obtain ⟨k1, k2, k3, k4, k5, k6, k7, k8, k9⟩ := h
  refine ⟨k4, k5, k6, ?_⟩
  show lookJ u = zeroJ ∨ _
  cases ho : u.J.On with
  | false =>
    left
    unfold lookJ
    rw [ho, jobOK_off k7 ho]
    rfl
  | true =>
    right
    obtain ⟨j1, j2, j3, j4, j5, j6⟩ := jobOK_on k7 ho
    obtain ⟨q1, q2, q3⟩ := k8 ho
    have e : (liveK u).J = { u.J with D := u.S.C } := by show lookJ u = _; unfold lookJ; rw [ho]; rfl
    rw [e]
    have := k7.1.1
    exact ⟨ho, ⟨j1.1, q3⟩, ⟨j2.1, q1⟩, q2, j3, by show 1 ≤ u.S.C ∧ u.S.C ≤ 20; omega, by show 0 ≤ u.J.Ran ∧ u.J.Ran < u.J.C ∧ u.J.Ran < u.S.C; omega, j6⟩
theorem Ahead.midAll (h : Ahead w) (d : List Int) : AllB 549755813888 ((midW w d).1.T.map liveK) w.Now := by
  refine ⟨?_, fun x hx => ?_⟩
  · rw [List.length_map]
    have e : (midW w d).1.T.length = (tickW w d).T.length := by rw [h.tickT d, List.length_map]
    rw [e, h.tickLen]
    exact (mayW_iff.1 h.may).2.1
  · obtain ⟨u, hu, rfl⟩ := List.mem_map.1 hx
    exact (h.midTB d u hu).liveB
/-- The tasks' jobs have no more to do than as they are looked on. -/
theorem Ahead.midLo (h : Ahead w) (d : List Int) : LoL ((midW w d).1.T.map liveK) (runFirst (beginAll (w.T.map liveK) w.Now)) := by
  have hA : mayA w.A w.Now = true := (mayW_iff.1 h.may).2.2.2.1
  obtain ⟨hB, hL⟩ := h.TBs d
  rw [← hL]
  have hasc : ascT (startW w d).T = true := ascT_ids (by rw [h.startT d, begTs_keys]) (mayW_asc h.may)
  have hidle : (∀ t ∈ (startW w d).T, mustJ t.J = false) → runFirst ((startW w d).T.map liveK) = (startW w d).T.map liveK := fun h0 => by
    have : idleL ((startW w d).T.map liveK) = true := idle_iff.2 fun x hx => by
      obtain ⟨u, hu, rfl⟩ := List.mem_map.1 hx
      rw [(must_live u).1]
      exact h0 u hu
    unfold runFirst
    unfold idleL at this
    rw [this]
    rfl
  rcases who_spec (x := startW w d) hA with ⟨t, ht, e, _, _⟩ | ⟨hn, h3⟩
  · have hmu : mustW (startW w d) = ((whoW (startW w d)).2, true) := by
      unfold whoW at e ⊢
      cases hb : (mustW (startW w d)).2 with
      | true => simp only [cond_true]; rw [← hb]
      | false =>
        rw [hb] at e
        simp only [cond_false] at e
        cases ho : (onceW (startW w d)).2 with
        | true => rw [ho] at e; simp at e
        | false =>
          rw [ho] at e
          simp only [cond_false] at e
          cases hp : (mayBand (startW w d)).2 with
          | true => rw [hp] at e; simp at e
          | false => rw [hp] at e; simp at e
    have hne : (firstL ((startW w d).T.map liveK) == -1) = false := by
      cases hb : (firstL ((startW w d).T.map liveK) == -1) with
      | false => rfl
      | true =>
        unfold mustW livesW at hmu
        rw [hb] at hmu
        simp at hmu
    have hj : (rd .task (startW w d).T (firstL ((startW w d).T.map liveK))).ID = (whoW (startW w d)).2 := by
      unfold mustW livesW at hmu
      rw [hne] at hmu
      simp only [cond_false, Prod.mk.injEq] at hmu
      exact hmu.1
    have hr : 0 ≤ firstL ((startW w d).T.map liveK) ∧ firstL ((startW w d).T.map liveK) < (startW w d).T.length := by
      rcases firstL_range ((startW w d).T.map liveK) with h1 | h1
      · rw [h1] at hne; simp at hne
      · rw [List.length_map] at h1; exact h1
    rcases mid_T h.may d with e2 | ⟨_, i, hi, hid, hie, e2⟩
    · exfalso
      have : (midW w d).1.T = (ranTask (leftW w d) (whoW (startW w d)).2).T := by
        rw [mid_task (.inl (by rw [e]))]
        exact (noCur_A _).2.1
      -- the task that runs has a job
      have hmt := firstL_spec ((startW w d).T.map liveK)
      rw [this] at e2
      have hx : (whoW (startW w d)).2 = t.ID := by rw [e]
      obtain ⟨hi, hid⟩ := idxT_spec ⟨t, ht, hx.symm⟩
      have e3 : upd .task (startW w d).T (idxT (startW w d).T (whoW (startW w d)).2) (runK (rd .task (startW w d).T (idxT (startW w d).T (whoW (startW w d)).2))) = (startW w d).T := e2
      have e4 : runK (rd .task (startW w d).T (idxT (startW w d).T (whoW (startW w d)).2)) = rd .task (startW w d).T (idxT (startW w d).T (whoW (startW w d)).2) := by
        have hlt : (idxT (startW w d).T (whoW (startW w d)).2).toNat < (startW w d).T.length := by omega
        have := congrArg (fun l : List Fu.Task => rd .task l (idxT (startW w d).T (whoW (startW w d)).2)) e3
        have e0 : ∀ x : Fu.Task, rd .task (upd .task (startW w d).T (idxT (startW w d).T (whoW (startW w d)).2) x) (idxT (startW w d).T (whoW (startW w d)).2) = x := fun x => by unfold upd; simp [rd, hlt]
        exact (e0 _).symm.trans this
      have e5 : rd .task (startW w d).T (idxT (startW w d).T (whoW (startW w d)).2) = t := asc_inj hasc (rdT_mem hi.1 hi.2) ht (by rw [hid, hx])
      rw [e5] at e4
      have hmm : mustJ t.J = true := by
        rcases who_spec (x := startW w d) hA with ⟨t', ht', e', hm', _⟩ | ⟨hn, _⟩
        · have : t' = t := asc_inj hasc ht' ht (by rw [e] at e'; simpa using e'.symm)
          rw [← this]; exact hm'
        · rcases must_spec (startW w d) with ⟨q, _⟩ | ⟨t', ht', q, q2, _⟩
          · rw [hmu] at q; cases q
          · rw [hn t' ht'] at q2; cases q2
      obtain ⟨o1, _⟩ := mustJ_iff.1 hmm
      have e6 : (runK t).J = stepJ t.J := by
        unfold runK
        rw [o1]
        simp only [cond_true]
        cases (stepF t.J == 0) <;> rfl
      rw [e4] at e6
      rcases step_cases o1 with ⟨_, s, _⟩ | ⟨_, s⟩
      · rw [s] at e6
        have := congrArg Fu.Job.Ran e6
        have : t.J.Ran = t.J.Ran + 1 := this
        omega
      · rw [s] at e6
        rw [e6] at o1
        cases o1
    · have ej : i = firstL ((startW w d).T.map liveK) := by
        have hu : rd .task (startW w d).T i = rd .task (startW w d).T (firstL ((startW w d).T.map liveK)) := asc_inj hasc (rdT_mem hi.1 hi.2) (rdT_mem hr.1 hr.2) (by rw [hid, hj])
        have hn := ascT_nodup _ hasc
        have h1 : i.toNat < ((startW w d).T.map (·.ID)).length := by rw [List.length_map]; omega
        have h2 : (firstL ((startW w d).T.map liveK)).toNat < ((startW w d).T.map (·.ID)).length := by rw [List.length_map]; omega
        have h3 : ((startW w d).T.map (·.ID))[i.toNat] = ((startW w d).T.map (·.ID))[(firstL ((startW w d).T.map liveK)).toNat] := by
          have h1' : i.toNat < (startW w d).T.length := by omega
          have h2' : (firstL ((startW w d).T.map liveK)).toNat < (startW w d).T.length := by omega
          rw [List.getElem_map, List.getElem_map]
          have e1 : rd .task (startW w d).T i = (startW w d).T[i.toNat] := by simp [rd, h1']
          have e2 : rd .task (startW w d).T (firstL ((startW w d).T.map liveK)) = (startW w d).T[(firstL ((startW w d).T.map liveK)).toNat] := by simp [rd, h2']
          rw [← e1, ← e2, hu]
        have := (List.getElem?_inj (j := (firstL ((startW w d).T.map liveK)).toNat) h1 hn).1 (by rw [List.getElem?_eq_getElem h1, List.getElem?_eq_getElem h2, h3])
        omega
      rw [e2]
      unfold runFirst
      rw [hne]
      simp only [cond_false]
      unfold upd
      rw [List.map_set, ← ej]
      have hrl : rd .live ((startW w d).T.map liveK) i = liveK (rd .task (startW w d).T i) := rd_lives hi.1 hi.2
      unfold jobAt
      rw [hrl]
      refine LoL.upd (run_live ?_ ?_).1
      · have hsp := firstL_spec ((startW w d).T.map liveK)
        rcases must_spec (startW w d) with ⟨q, _⟩ | ⟨t', ht', q, q2, _⟩
        · rw [hmu] at q; cases q
        · have e7 : t'.ID = (whoW (startW w d)).2 := by rw [hmu] at q; exact (congrArg Prod.fst q).symm
          have : t' = rd .task (startW w d).T i := asc_inj hasc ht' (rdT_mem hi.1 hi.2) (by rw [hid, e7])
          rw [← this]
          exact (mustJ_iff.1 q2).1
      · have hTB := hB _ (rdT_mem hi.1 hi.2)
        obtain ⟨_, _, _, _, _, _, k7, _⟩ := hTB
        rcases must_spec (startW w d) with ⟨q, _⟩ | ⟨t', ht', q, q2, _⟩
        · rw [hmu] at q; cases q
        · have e7 : t'.ID = (whoW (startW w d)).2 := by rw [hmu] at q; exact (congrArg Prod.fst q).symm
          have e8 : t' = rd .task (startW w d).T i := asc_inj hasc ht' (rdT_mem hi.1 hi.2) (by rw [hid, e7])
          exact (jobOK_on k7 (by rw [← e8]; exact (mustJ_iff.1 q2).1)).2.2.1
  · rw [hidle hn]
    rcases mid_T h.may d with e2 | ⟨hc, i, hi, hid, hie, e2⟩
    · rw [e2]; exact .refl _
    · rw [e2]
      rcases h3 with ⟨a, _, e, _⟩ | ⟨_, _, ⟨t, ht, e, ho⟩ | ⟨e, _⟩⟩
      · rw [e] at hc; simp at hc
      · have e5 : rd .task (startW w d).T i = t := asc_inj hasc (rdT_mem hi.1 hi.2) ht (by rw [hid, e])
        have hopt : t.J.On = true ∧ t.J.Mand = false := by
          unfold isOpt at ho
          cases h1 : t.J.On <;> cases h2 : t.J.Mand <;> simp [h1, h2] at ho ⊢
        have hTB := hB _ ht
        rw [e5]
        unfold upd
        rw [List.map_set]
        refine LoL.updR (x := liveK t) ((run_live hopt.1 (jobOK_on hTB.2.2.2.2.2.2.1 hopt.1).2.2.1).2 hopt.2) ?_
        have hlt : i.toNat < (startW w d).T.length := by omega
        have e1 : rd .task (startW w d).T i = (startW w d).T[i.toNat] := by simp [rd, hlt]
        rw [List.getElem?_map, List.getElem?_eq_getElem hlt, ← e1, e5]
        rfl
      · rw [e] at hc; simp at hc
theorem lookR_succ (k : Nat) (l : List Fu.Live) (t : Int) : lookR (k + 1) l t = bif idleL l then (t, true) else bif missedL l t then (t, false) else lookR k (stepL l t) (t + 1) := rfl
theorem lookL_may {l : List Fu.Live} {now : Int} (hm : mayL l now = true) : lookL l now = lookR 2000 l now := by unfold lookL; rw [hm, cond_true]
theorem look_step (k : Nat) (hk : k = 1999) {l l' : List Fu.Live} {now : Int} (hm : mayL l now = true) (hn : now ≤ 274877906944) (hlook : (lookR (k + 1) l now).2 = true) (htest : testV (l.map fixOf) = true) (hA' : AllI 549755813889 l' (now + 1)) (hm' : mayL l' (now + 1) = true) (hlo : LoL l' (stepL l now)) :
    missedL l now = false ∧ (lookR (k + 1) l' (now + 1)).2 = true := by
  obtain ⟨hA, h0, h1⟩ := mayL_of hm
  have hB := begin_all hA h0 (by omega) (by omega)
  have hS := step_all hA h0 (by omega) (by omega)
  have hstat := hlo.stat
  have hW := hlo.W hS.jp
  have hjp' := hA'.jp
  have hid : idleL (stepL l now) = true → idleL l' = true := fun h5 => (idle_W hjp').2 fun D => by
    have h6 := (idle_W hS.jp).1 h5 D
    have h7 := hW D
    have h8 := W_nonneg hjp' D
    omega
  have hless : Less l' (stepL l now) (now + 1) := ⟨by rw [hstat]; exact List.Sublist.refl _, fun D => hlo.AW hS.jp _ D⟩
  cases hi : idleL l with
  | false =>
    rw [lookR_succ, hi] at hlook
    cases hmis : missedL l now with
    | true => rw [hmis] at hlook; simp at hlook
    | false =>
      rw [hmis] at hlook
      simp only [cond_false] at hlook
      obtain ⟨r, hr⟩ : ∃ r, lookR k (stepL l now) (now + 1) = r := ⟨_, rfl⟩
      rw [hr] at hlook
      obtain ⟨r1, r2⟩ := r
      have hlook : r2 = true := hlook
      rw [hlook] at hr
      obtain ⟨m, q, _⟩ := less_look k 549755813889 (stepL l now) l' (now + 1) r1 hS hA' (by omega) (by omega) (by omega) hless hid hr
      have q2 : lookR (k + 1) l' (now + 1) = (m, true) := look_more k _ _ _ q
      exact ⟨rfl, by rw [q2]⟩
  | true =>
    have hr := room_idle hA h0 htest hi
    obtain ⟨r1, r2, r3⟩ := room_step hA h0 (by omega) (by omega) htest hr
    refine ⟨r1, ?_⟩
    have hfix : l'.map fixOf = l.map fixOf := by
      rw [← fixes_stat l', hstat, fixes_stat, r3]
    have hroom : Room l' (now + 1) := fun D hD0 hD1 => by
      have k1 := r2 D hD0 hD1
      rw [hstat]
      have := hW D
      omega
    rcases room_look (k + 1) 549755813889 l' (now + 1) hA' (by omega) (by omega) (by omega) (by rw [hfix]; exact htest) hroom with h | h
    · exact h
    · exfalso
      have hAA := (mayL_of hm').1
      obtain ⟨_, h7⟩ := soon_look k (k + 1) rfl (by omega) hAA (by omega) (by omega) (Int.le_refl _) (units_fits (by rw [hfix]; exact htest))
      obtain ⟨w1, w2⟩ := W_small hAA (now + 1 + 3000)
      have h4 := hAA.1
      rw [h] at h7
      rcases h7 with h7 | h7 <;> omega
/-- Looked on from a step's end, who has no more to do comes to where nobody must as well. -/
theorem look_next {l l' : List Fu.Live} {now : Int} (hm : mayL l now = true) (hn : now ≤ 274877906944) (hlook : (lookL l now).2 = true) (htest : testV (l.map fixOf) = true) (hA' : AllI 549755813889 l' (now + 1)) (hm' : mayL l' (now + 1) = true) (hlo : LoL l' (stepL l now)) :
    missedL l now = false ∧ (lookL l' (now + 1)).2 = true := by
  rw [lookL_may hm] at hlook
  rw [lookL_may hm']
  exact look_step 1999 rfl hm hn hlook htest hA' hm' hlo
/-- A safe world stays so, and none is missed. -/
theorem safe_tick (h : Ahead w) (hs : safeW w = true) (d : List Int) : safeW (tickW w d) = true ∧ tickM w d = [] := by
  unfold safeW at hs
  simp only [Bool.and_eq_true] at hs
  obtain ⟨_, h2, h3⟩ := hs
  have hlo := h.midLo d
  have hall := h.midAll d
  have hmay := h.tickMay d
  have hnow := h.now
  have eL : (tickW w d).T.map liveK = ((midW w d).1.T.map liveK).map (endL (w.Now + 1)) := by
    rw [h.tickT d, List.map_map, List.map_map]
    exact List.map_congr_left fun u _ => end_live u _
  have hlo2 : LoL ((tickW w d).T.map liveK) (stepL (w.T.map liveK) w.Now) := by
    rw [eL]
    exact hlo.ends _
  have hA' : AllI 549755813889 ((tickW w d).T.map liveK) (w.Now + 1) := by
    rw [eL]
    refine ⟨by rw [List.length_map]; exact hall.1, fun x hx => ?_⟩
    obtain ⟨y, hy, rfl⟩ := List.mem_map.1 hx
    have := endL_inv (hall.2 y hy)
    exact ⟨this.1, this.2.1, by have := this.2.2.1; omega, this.2.2.2⟩
  have hm' : mayL ((tickW w d).T.map liveK) (w.Now + 1) = true := by
    have := mayW_live hmay
    rw [h.tickNow d] at this
    exact this
  obtain ⟨k1, k2⟩ := look_next (mayW_live h.may) (by omega) h2 (by rw [fix_live]; exact h3) hA' hm' hlo2
  refine ⟨?_, ?_⟩
  · unfold safeW
    rw [hmay, h.tickNow d, k2, h.tickFix d, h3]
    rfl
  · -- none is missed
    have hjr := (runFirst_all (begin_all (mayL_of (mayW_live h.may)).1 h.nowge (by omega) (by omega))).jp
    have hw0 : W (runFirst (beginAll (w.T.map liveK) w.Now)) (w.Now + 1) = 0 := (miss_iff hjr).1 k1
    have hw1 := hlo.W hjr (w.Now + 1)
    have hw2 := W_nonneg hall.jp (w.Now + 1)
    have hz : ((midW w d).1.T.map liveK).any (missL (w.Now + 1)) = false := (miss_iff hall.jp).2 (by omega)
    show (((midW w d).1.T).filter (lateM (laterW (midW w d).1).Now)).map (·.ID) = []
    rw [h.later d]
    have : ((midW w d).1.T).filter (lateM (w.Now + 1)) = [] := by
      rw [List.filter_eq_nil_iff]
      intro u hu hl
      rw [lateM_eq] at hl
      simp only [Bool.and_eq_true] at hl
      have h9 := List.any_eq_false.1 hz (liveK u) (List.mem_map.2 ⟨u, hu, rfl⟩)
      refine h9 ?_
      have ho : u.J.On = true := by have := hl.1; unfold overJ at this; simp at this; exact this.1
      have e : (liveK u).J = { u.J with D := u.S.C } := by show lookJ u = _; unfold lookJ; rw [ho]; rfl
      obtain ⟨_, _, _, _, _, _, k7, _⟩ := h.midTB d u hu
      obtain ⟨_, _, _, _, j5, _⟩ := jobOK_on k7 ho
      unfold missL
      rw [e, Bool.and_eq_true]
      refine ⟨hl.1, mustJ_iff.2 ⟨ho, hl.2, ?_⟩⟩
      unfold worst
      simp only [ho, cond_true]
      omega
    rw [this]
    rfl
end
end Go.Fx
