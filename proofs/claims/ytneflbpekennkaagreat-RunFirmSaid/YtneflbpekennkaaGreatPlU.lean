import Derived.Test.YtneflbpekennkaaGreatB42
import Derived.Test.YtneflbpekennkaaGreatPlS
import Derived.Test.YtneflbpekennkaaGreatPlT
/- Plain laws: one time. -/
namespace Go.Fx
open Go

/-! ### who begins -/
theorem begTs_mem (now : Int) : ∀ (l : List Fu.Task) (d : List Int) (u : Fu.Task), u ∈ (begTs now d l).1 → ∃ t ∈ l, u = t ∨ ∃ n, begOK t now n = true ∧ u = begT t now n
  | [], _, _, h => by simp [begTs] at h
  | y :: l, d, u, h => by
    unfold begTs at h
    cases hb : begOK y now (lastD y d) with
    | true =>
      rw [hb] at h
      simp only [cond_true, List.mem_cons] at h
      rcases h with rfl | h
      · exact ⟨y, by simp, .inr ⟨_, hb, rfl⟩⟩
      · obtain ⟨t, h1, h2⟩ := begTs_mem now l _ u h
        exact ⟨t, List.mem_cons_of_mem _ h1, h2⟩
    | false =>
      rw [hb] at h
      simp only [cond_false, List.mem_cons] at h
      rcases h with rfl | h
      · exact ⟨u, by simp, .inl rfl⟩
      · obtain ⟨t, h1, h2⟩ := begTs_mem now l _ u h
        exact ⟨t, List.mem_cons_of_mem _ h1, h2⟩
theorem begTs_keys (now : Int) : ∀ (l : List Fu.Task) (d : List Int), (begTs now d l).1.map (·.ID) = l.map (·.ID)
  | [], _ => rfl
  | y :: l, d => by
    unfold begTs
    cases begOK y now (lastD y d) with
    | true => simp only [cond_true, List.map_cons, begTs_keys now l]; rfl
    | false => simp only [cond_false, List.map_cons, begTs_keys now l]
theorem begin_T {w : Fu.World} (hm : mayW w = true) (d : List Int) : (beginW w d).1.T = (begTs w.Now d w.T).1 ∧ (beginW w d).2 = (begTs w.Now d w.T).2 := by
  unfold beginW
  rw [hm]
  exact ⟨rfl, rfl⟩
theorem jobOK_small {s : Fu.Spec} {j : Fu.Job} (h : JobOK s j) : smallC j := by
  obtain ⟨⟨hs, _⟩, h⟩ := h
  unfold smallC
  rcases h with ⟨_, rfl⟩ | ⟨_, _, _, h1, _, h2, _⟩
  · exact ⟨by decide, by decide, by decide, by decide⟩
  · omega
theorem start_job {w : Fu.World} (hm : mayW w = true) (d : List Int) {u : Fu.Task} (hu : u ∈ (startW w d).T) : JobOK u.S u.J := by
  have hu : u ∈ (beginW w d).1.T := hu
  rw [(begin_T hm d).1] at hu
  obtain ⟨t, ht, h⟩ := begTs_mem _ _ _ _ hu
  rcases h with rfl | ⟨n, hb, rfl⟩
  · exact of_decide_eq_true (mayK_iff.1 (tkOK_iff.1 ((mayW_iff.1 hm).2.2.2.2.1 u ht)).1).2.2.2.2.1
  · unfold begOK at hb
    simp only [Bool.and_eq_true] at hb
    exact of_decide_eq_true hb.2
theorem start_len {w : Fu.World} (hm : mayW w = true) (d : List Int) : (startW w d).T.length = w.T.length := by
  show (beginW w d).1.T.length = _
  rw [(begin_T hm d).1, begTs_len]
theorem start_small {w : Fu.World} (h : smallW w) (hm : mayW w = true) (d : List Int) : smallW (startW w d) ∧ smallW (leftW w d) := by
  have hl := start_len hm d
  refine ⟨⟨by rw [hl]; exact h.1, h.2⟩, ⟨by show ((beginW w d).1.T.length : Int) * 176 ≤ _; have hl' : (beginW w d).1.T.length = w.T.length := hl; rw [hl']; exact h.1, ?_⟩⟩
  have h2 := h.2
  have := List.length_filter_le (fun a : Fu.Ape => !hasI (pickW (startW w d)).2 a.ID) w.A
  show ((dropA (pickW (startW w d)).2 w.A).length : Int) * 40 ≤ _
  unfold dropA
  omega
theorem start_who {w : Fu.World} (h : smallW w) (hm : mayW w = true) (d : List Int) : okWho (startW w d) := by
  refine ⟨(start_small h hm d).1, ?_, fun x hx => ?_⟩
  · unfold livesW
    rw [List.length_map, start_len hm d]
    have := h.1
    omega
  · unfold livesW at hx
    obtain ⟨u, hu, rfl⟩ := List.mem_map.1 hx
    have := jobOK_small (start_job hm d hu)
    have e : (liveK u).J.C = u.J.C ∧ (liveK u).J.Ran = u.J.Ran := by
      show (lookJ u).C = _ ∧ (lookJ u).Ran = _
      unfold lookJ
      cases u.J.On <;> exact ⟨rfl, rfl⟩
    unfold smallC at this ⊢
    rw [e.1, e.2]
    exact this

/-! ### who runs -/
theorem rdT_mem {T : List Fu.Task} {i : Int} (h0 : 0 ≤ i) (h1 : i < T.length) : rd .task T i ∈ T := rd_inT h0 h1
theorem idxT_spec {T : List Fu.Task} {id : Int} (h : ∃ t ∈ T, t.ID = id) : (0 ≤ idxT T id ∧ idxT T id < T.length) ∧ (rd .task T (idxT T id)).ID = id := by
  obtain ⟨t, ht, he⟩ := h
  obtain ⟨k, h0, h1, hk⟩ := mem_rdT ht
  unfold idxT
  cases hf : firstP (fun i => (rd .task T i).ID == id) T.length 0 with
  | none =>
    have := firstP_none hf k h0 (by omega)
    simp only [hk, he] at this
    simp at this
  | some j =>
    obtain ⟨⟨h2, h3⟩, h4, _⟩ := firstP_some hf
    exact ⟨⟨h2, by simp only [Option.getD_some]; omega⟩, by simpa using h4⟩
theorem memA_rd {A : List Fu.Ape} {a : Fu.Ape} (h : a ∈ A) : ∃ i : Int, 0 ≤ i ∧ i < A.length ∧ rd .ape A i = a := by
  obtain ⟨n, hn, e⟩ := List.getElem_of_mem h
  exact ⟨n, by omega, by omega, by simp [rd, hn, e]⟩
theorem atA_spec {A : List Fu.Ape} {id : Int} (h : ∃ a ∈ A, a.ID = id) : (0 ≤ atA A id ∧ atA A id < A.length) ∧ (rd .ape A (atA A id)).ID = id := by
  obtain ⟨a, ha, he⟩ := h
  obtain ⟨k, h0, h1, hk⟩ := memA_rd ha
  unfold atA
  cases hf : firstP (pAt (A, id)) A.length 0 with
  | none =>
    have := firstP_none hf k h0 (by omega)
    unfold pAt at this
    simp only [hk, he] at this
    simp at this
  | some j =>
    obtain ⟨⟨h2, h3⟩, h4, _⟩ := firstP_some hf
    unfold pAt at h4
    exact ⟨⟨h2, by simp only [Option.getD_some]; omega⟩, by simpa using h4⟩
theorem hasI_iff {g : List Int} {v : Int} : hasI g v = true ↔ v ∈ g := by
  unfold hasI
  rw [List.any_eq_true]
  constructor
  · rintro ⟨x, hx, e⟩
    have : x = v := by simpa using e
    exact this ▸ hx
  · intro h
    exact ⟨v, h, by simp⟩
theorem opts_who (w : Fu.World) : ((mayBand w).2 = false ∧ ∀ t ∈ w.T, isOpt t.J = false) ∨ ∃ t ∈ w.T, mayBand w = (t.ID, true) ∧ isOpt t.J = true := by
  unfold mayBand
  rcases firstO_spec (optsW w.T) with ⟨h1, h2⟩ | ⟨h1, h2⟩
  · left
    rw [h1]
    refine ⟨rfl, fun t ht => ?_⟩
    cases ho : isOpt t.J with
    | false => rfl
    | true =>
      have : optT1 t ∈ optsW w.T := List.mem_map.2 ⟨t, List.mem_filter.2 ⟨ht, ho⟩, rfl⟩
      rw [h2] at this
      cases this
  · right
    have hne : (firstO (optsW w.T) == -1) = false := by simp; omega
    rw [hne]
    have hmem : rd .opt (optsW w.T) (firstO (optsW w.T)) ∈ optsW w.T := by
      have hlt : (firstO (optsW w.T)).toNat < (optsW w.T).length := by omega
      have : rd .opt (optsW w.T) (firstO (optsW w.T)) = (optsW w.T)[(firstO (optsW w.T)).toNat] := by simp [rd, hlt]
      rw [this]
      exact List.getElem_mem _
    obtain ⟨t, ht, e⟩ := List.mem_map.1 hmem
    obtain ⟨ht1, ht2⟩ := List.mem_filter.1 ht
    refine ⟨t, ht1, ?_, ht2⟩
    rw [← e]
    have : (optT1 t).ID = t.ID := by unfold optT1 optR; rw [ht2]; rfl
    simp only [cond_false]
    rw [this]
/-- Who runs: a task that must, a job that came once, a task that may, or nobody. -/
theorem who_spec {x : Fu.World} (hA : mayA x.A x.Now = true) :
    (∃ t ∈ x.T, whoW x = (1, t.ID) ∧ mustJ t.J = true ∧ ∀ u ∈ x.T, mustJ u.J = true → t.J.Due ≤ u.J.Due) ∨
    ((∀ t ∈ x.T, mustJ t.J = false) ∧
      ((∃ a ∈ x.A, whoW x = (2, a.ID) ∧ (pickW x).1 = a.ID ∧ a.ID ∉ (pickW x).2 ∧ lateA x.Now a = false) ∨
       ((pickW x).2.length = x.A.length ∧ (∀ a ∈ x.A, lateA x.Now a = true) ∧ ((∃ t ∈ x.T, whoW x = (3, t.ID) ∧ isOpt t.J = true) ∨ (whoW x = (0, 0) ∧ ∀ t ∈ x.T, isOpt t.J = false))))) := by
  unfold whoW
  rcases must_spec x with ⟨h1, h2⟩ | ⟨t, ht, h1, h2, h3⟩
  · right
    refine ⟨h2, ?_⟩
    rw [h1]
    simp only [cond_false]
    rcases pick_spec (cur := x.Cur) hA with ⟨k1, k2, k3⟩ | ⟨a, ha, k1, k2, k3, k4⟩
    · right
      refine ⟨k2, k3, ?_⟩
      have e : (onceW x).2 = false := by
        show ((pickW x).1 != -1) = false
        have k1 : (pickW x).1 = -1 := k1
        rw [k1]; rfl
      rw [e]
      simp only [cond_false]
      rcases opts_who x with ⟨q1, q2⟩ | ⟨t, ht, q1, q2⟩
      · right
        rw [q1]
        exact ⟨rfl, q2⟩
      · left
        refine ⟨t, ht, ?_, q2⟩
        rw [q1]
        rfl
    · left
      refine ⟨a, ha, ?_, k1, k2, k3⟩
      have k1 : (pickW x).1 = a.ID := k1
      have e : onceW x = (a.ID, true) := by
        unfold onceW
        rw [k1, maxI_eq]
        have : (a.ID != -1) = true := by simp; omega
        rw [this, Int.max_eq_left k4]
      rw [e]
      rfl
  · left
    refine ⟨t, ht, ?_, h2, h3⟩
    rw [h1]
    rfl
/-! ### who is gone -/
theorem goN_fold {A : List Fu.Ape} : ∀ (R : List Fu.Ape) (c : CPk), (idsA R).Nodup → (∀ r ∈ R, r.ID ∈ idsA A ∧ r.ID ∉ c.2.2.2) → c.2.2.2.Nodup → (∀ x ∈ c.2.2.2, x ∈ idsA A) → (R.foldl goA c).2.2.2.Nodup ∧ ∀ x ∈ (R.foldl goA c).2.2.2, x ∈ idsA A
  | [], c, _, _, h3, h4 => ⟨h3, h4⟩
  | a :: R, c, h1, h2, h3, h4 => by
    have h1' : a.ID ∉ idsA R ∧ (idsA R).Nodup := List.nodup_cons.1 h1
    have ha := h2 a (by simp)
    have hR : ∀ r ∈ R, r.ID ∈ idsA A ∧ r.ID ∉ c.2.2.2 := fun r hr => h2 r (List.mem_cons_of_mem _ hr)
    rw [List.foldl_cons]
    unfold goA
    cases (a.ID == c.2.1 || decide (laxA a c.1 > 0)) with
    | true => exact goN_fold R c h1'.2 hR h3 h4
    | false =>
      simp only [cond_false]
      cases (!(mget c.2.2.1 c.2.1).isSome || beatsV a.V ((mget c.2.2.1 c.2.1).getD ⟨0, 0, 0, 0, 0⟩).V 4) with
      | true => exact goN_fold R _ h1'.2 hR h3 h4
      | false =>
        refine goN_fold R _ h1'.2 (fun r hr => ⟨(hR r hr).1, ?_⟩) ?_ ?_
        · simp only [cond_false, List.mem_append, List.mem_singleton, not_or]
          refine ⟨(hR r hr).2, fun e => h1'.1 (by rw [← e]; exact List.mem_map.2 ⟨r, hr, rfl⟩)⟩
        · simp only [cond_false]
          rw [List.nodup_append]
          refine ⟨h3, by simp, fun x hx y hy e => ?_⟩
          rw [List.mem_singleton] at hy
          subst hy; subst e
          exact ha.2 hx
        · intro x hx
          simp only [cond_false, List.mem_append, List.mem_singleton] at hx
          rcases hx with hx | rfl
          · exact h4 x hx
          · exact ha.1
/-- Who is gone is there, each once. -/
theorem gone_nodup {A : List Fu.Ape} {cur now : Int} (hm : mayA A now = true) : (pickA A cur now).2.Nodup ∧ ∀ x ∈ (pickA A cur now).2, x ∈ idsA A := by
  obtain ⟨hok, hn, _⟩ := mayA_iff.1 hm
  have hp := pick1_eq hn cur now
  have hg : (pick1 A cur now).2.2.2 = idsA (A.filter (lateA now)) := by rw [hp]
  have hsub : ∀ x ∈ idsA (A.filter (lateA now)), x ∈ idsA A := fun x hx => by
    obtain ⟨b, hb, e⟩ := List.mem_map.1 hx
    exact List.mem_map.2 ⟨b, (List.mem_filter.1 hb).1, e⟩
  have h1 : (pick1 A cur now).2.2.2.Nodup ∧ ∀ x ∈ (pick1 A cur now).2.2.2, x ∈ idsA A := by
    rw [hg]
    exact ⟨ids_sub List.filter_sublist hn, hsub⟩
  have h3 := goN_fold (A := A) (thereA A cur now) (pick1 A cur now) (there_nodup hn cur now) (fun r hr => by
    have hr := (there_mem hn).1 hr
    obtain ⟨k1, k2⟩ := List.mem_filter.1 hr
    refine ⟨List.mem_map.2 ⟨r, k1, rfl⟩, fun hx => ?_⟩
    rw [hg] at hx
    obtain ⟨b, hb, e⟩ := List.mem_map.1 hx
    obtain ⟨hb1, hb2⟩ := List.mem_filter.1 hb
    have e1 : mget (byA A) r.ID = some r := mget_byA hn k1
    have e2 : mget (byA A) b.ID = some b := mget_byA hn hb1
    have e : b.ID = r.ID := e
    rw [e, e1] at e2
    cases e2
    rw [hb2] at k2
    cases k2) h1.1 h1.2
  unfold pickA
  rw [hm]
  simp only [Bool.not_true, cond_false]
  cases (((thereA A cur now).length : Int) == 0) with
  | true => exact h1
  | false =>
    simp only [cond_false]
    cases fitsA (thereA A cur now) now with
    | true => exact h1
    | false =>
      simp only [cond_false]
      cases (mget (pick3 A cur now).2.2.1 (pick3 A cur now).2.1).isSome with
      | true => exact h3
      | false => exact h3
theorem drop_len {A : List Fu.Ape} (hA : (idsA A).Nodup) : ∀ {g : List Int}, g.Nodup → (∀ x ∈ g, x ∈ idsA A) → (dropA g A).length + g.length = A.length
  | [], _, _ => by
    have : dropA [] A = A := by unfold dropA; rw [List.filter_eq_self]; intro a _; rfl
    rw [this]; rfl
  | x :: g, hn, h => by
    rw [List.nodup_cons] at hn
    have ih := drop_len hA hn.2 fun y hy => h y (List.mem_cons_of_mem _ hy)
    have key : (dropA (x :: g) A).length + 1 = (dropA g A).length := by
      have e : dropA (x :: g) A = (dropA g A).filter fun a => a.ID != x := by
        unfold dropA
        rw [List.filter_filter]
        congr 1
        funext a
        unfold hasI
        rw [List.any_cons, Bool.not_or]
        cases hx : (x == a.ID) with
        | true =>
          have hx : x = a.ID := by simpa using hx
          simp [hx]
        | false =>
          have hx : x ≠ a.ID := by simpa using hx
          simp [Ne.symm hx]
      rw [e]
      have hmem : ∃ a ∈ dropA g A, a.ID = x := by
        obtain ⟨a, ha, e2⟩ := List.mem_map.1 (h x (by simp))
        refine ⟨a, List.mem_filter.2 ⟨ha, ?_⟩, e2⟩
        have e2 : a.ID = x := e2
        rw [e2]
        have : hasI g x = false := by
          cases hh : hasI g x with
          | false => rfl
          | true => exact absurd (hasI_iff.1 hh) hn.1
        rw [this]; rfl
      have hnd : (idsA (dropA g A)).Nodup := ids_sub List.filter_sublist hA
      generalize dropA g A = B at hmem hnd
      obtain ⟨a, ha, rfl⟩ := hmem
      induction B with
      | nil => cases ha
      | cons b B ihB =>
        have hb : b.ID ∉ idsA B ∧ (idsA B).Nodup := List.nodup_cons.1 hnd
        rcases List.mem_cons.1 ha with rfl | ha
        · have : B.filter (fun c => c.ID != a.ID) = B := List.filter_eq_self.2 fun c hc => by
            have : c.ID ≠ a.ID := fun e2 => hb.1 (by rw [← e2]; exact List.mem_map.2 ⟨c, hc, rfl⟩)
            simpa using this
          rw [List.filter_cons_of_neg (by simp), this]
          rfl
        · have hx : b.ID ≠ a.ID := fun e2 => hb.1 (by rw [e2]; exact List.mem_map.2 ⟨a, ha, rfl⟩)
          rw [List.filter_cons_of_pos (by simpa using hx), List.length_cons, List.length_cons, ihB hb.2 ha]
    rw [List.length_cons]
    omega
theorem gone_len {x : Fu.World} (hA : mayA x.A x.Now = true) : (dropA (pickW x).2 x.A).length + (pickW x).2.length = x.A.length := by
  obtain ⟨h1, h2⟩ := gone_nodup (cur := x.Cur) hA
  exact drop_len (mayA_iff.1 hA).2.1 h1 h2

/-! ### one time -/
/-- Where somebody is told to run, that one is there. -/
theorem okTick_may {w : Fu.World} (h : smallW w) (hm : mayW w = true) (d : List Int) : okTick w d := by
  have hA : mayA w.A w.Now = true := (mayW_iff.1 hm).2.2.2.1
  have hX : mayA (startW w d).A (startW w d).Now = true := hA
  have hl := (mayA_iff.1 hA).2.2.1
  have hg := gone_len hX
  have hs := start_small h hm d
  have hcur : (curW (leftW w d) (whoW (startW w d))).T = (startW w d).T ∧ (curW (leftW w d) (whoW (startW w d))).A = dropA (pickW (startW w d)).2 w.A := by
    unfold curW
    cases (!((whoW (startW w d)).1 == 1 || (whoW (startW w d)).1 == 3) && (whoW (startW w d)).1 == 2) <;> exact ⟨rfl, rfl⟩
  have hr : ranOK (curW (leftW w d) (whoW (startW w d))) (whoW (startW w d)) := by
    refine ⟨?_, fun hc => ?_, fun hc => ?_⟩
    · have := hs.2
      unfold smallW at this ⊢
      rw [hcur.1, hcur.2]
      exact this
    · have ht : ∃ t ∈ (startW w d).T, t.ID = (whoW (startW w d)).2 := by
        rcases who_spec hX with ⟨t, ht, e, _⟩ | ⟨_, ⟨a, _, e, _⟩ | ⟨_, _, ⟨t, ht, e, _⟩ | ⟨e, _⟩⟩⟩
        · exact ⟨t, ht, by rw [e]⟩
        · rw [e] at hc; simp at hc
        · exact ⟨t, ht, by rw [e]⟩
        · rw [e] at hc; simp at hc
      unfold taskAt
      rw [hcur.1]
      have hi := (idxT_spec ht).1
      exact ⟨hi, jobOK_small (start_job hm d (rdT_mem hi.1 hi.2))⟩
    · have ha : ∃ a ∈ dropA (pickW (startW w d)).2 w.A, a.ID = (whoW (startW w d)).2 := by
        rcases who_spec hX with ⟨t, ht, e, _⟩ | ⟨_, ⟨a, ha, e, _, hn, _⟩ | ⟨_, _, ⟨t, ht, e, _⟩ | ⟨e, _⟩⟩⟩
        · rw [e] at hc; simp at hc
        · refine ⟨a, List.mem_filter.2 ⟨ha, ?_⟩, by rw [e]⟩
          cases hh : hasI (pickW (startW w d)).2 a.ID with
          | false => rfl
          | true => exact absurd (hasI_iff.1 hh) hn
        · rw [e] at hc; simp at hc
        · rw [e] at hc; simp at hc
      unfold apeAt
      rw [hcur.2]
      exact (atA_spec ha).1
  refine ⟨start_who h hm d, ?_, hr, hs.2, ?_⟩
  · have : (startW w d).A = w.A := rfl
    rw [this] at hg
    omega
  · obtain ⟨⟨r1, r2⟩, _, _⟩ := hr
    have e1 : (midW w d).1.T.length = (curW (leftW w d) (whoW (startW w d))).T.length := by
      unfold midW ranW noCur ranWho
      cases ((whoW (startW w d)).1 == 1 || (whoW (startW w d)).1 == 3) with
      | true =>
        simp only [cond_true]
        cases (atA _ _ == -1) <;> simp [ranTask, upd]
      | false =>
        simp only [cond_false]
        cases ((whoW (startW w d)).1 == 2) with
        | true =>
          simp only [cond_true]
          cases doneB _ _ <;> simp only [cond_true, cond_false] <;> cases (atA _ _ == -1) <;> rfl
        | false =>
          simp only [cond_false]
          cases (atA _ _ == -1) <;> rfl
    have e2 : (midW w d).1.A.length ≤ (curW (leftW w d) (whoW (startW w d))).A.length := by
      unfold midW ranW noCur ranWho
      cases ((whoW (startW w d)).1 == 1 || (whoW (startW w d)).1 == 3) with
      | true =>
        simp only [cond_true]
        cases (atA _ _ == -1) <;> exact Nat.le_refl _
      | false =>
        simp only [cond_false]
        cases ((whoW (startW w d)).1 == 2) with
        | true =>
          simp only [cond_true]
          cases doneB _ _ with
          | true =>
            simp only [cond_true]
            have := List.length_eraseIdx_le (ranAs (curW (leftW w d) (whoW (startW w d))).A (whoW (startW w d)).2) (atA (curW (leftW w d) (whoW (startW w d))).A (whoW (startW w d)).2).toNat
            rw [ranAs_len] at this
            cases (atA _ _ == -1) <;> exact this
          | false =>
            simp only [cond_false]
            cases (atA _ _ == -1) <;> exact Nat.le_of_eq (ranAs_len _ _)
        | false =>
          simp only [cond_false]
          cases (atA _ _ == -1) <;> exact Nat.le_refl _
    refine ⟨?_, ?_⟩
    · show ((midW w d).1.T.length : Int) * 176 ≤ _
      rw [e1]; exact r1
    · show ((midW w d).1.A.length : Int) * 40 ≤ _
      omega
end Go.Fx
