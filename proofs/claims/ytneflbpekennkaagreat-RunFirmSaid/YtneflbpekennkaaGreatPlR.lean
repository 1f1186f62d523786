import Derived.Test.YtneflbpekennkaaGreatB32
/- Plain laws: which worlds are safe. -/
namespace Go.Fx
open Go

theorem mayW_iff {w : Fu.World} : mayW w = true ↔ (0 ≤ w.Now ∧ w.Now ≤ 274877906944) ∧ w.T.length ≤ 4 ∧ (-1 ≤ w.Cur ∧ w.Cur ≤ 549755813888) ∧ mayA w.A w.Now = true ∧ (∀ t ∈ w.T, tkOK w.Now t = true) ∧ ascT w.T = true ∧ ascA w.A = true := by
  unfold mayW
  simp only [Bool.and_eq_true, Bool.not_eq_true', Bool.or_eq_false_iff, decide_eq_false_iff_not, Bool.not_eq_false', List.all_eq_true]
  constructor
  · rintro ⟨⟨h1, h2, h3, h4, h5, h6⟩, ⟨h7, h8⟩, h9⟩
    exact ⟨⟨by omega, by omega⟩, by omega, ⟨by omega, by omega⟩, h6, h7, h8, h9⟩
  · rintro ⟨⟨h1, h2⟩, h3, ⟨h4, h5⟩, h6, h7, h8, h9⟩
    exact ⟨⟨by omega, by omega, by omega, by omega, by omega, h6⟩, ⟨h7, h8⟩, h9⟩
theorem mayW_T {w : Fu.World} {T : List Fu.Task} (h : mayW w = true) (hl : T.length ≤ 4) (ho : ∀ t ∈ T, tkOK w.Now t = true) (ha : ascT T = true) : mayW { w with T := T } = true := by
  obtain ⟨h1, _, h3, h4, _, _, h7⟩ := mayW_iff.1 h
  exact mayW_iff.2 ⟨h1, hl, h3, h4, ho, ha, h7⟩
theorem ascT_pair : ∀ {l : List Fu.Task}, ascT l = true ↔ l.Pairwise fun a b => a.ID < b.ID
  | [] => by simp [ascT]
  | t :: l => by
    constructor
    · intro h
      exact List.pairwise_cons.2 ⟨ascT_lt l t h, ascT_pair.1 (ascT_tail h)⟩
    · intro h
      obtain ⟨h1, h2⟩ := List.pairwise_cons.1 h
      cases l with
      | nil => rfl
      | cons u l =>
        show (decide (t.ID < u.ID) && ascT (u :: l)) = true
        rw [decide_eq_true (h1 u (by simp)), ascT_pair.2 h2]
        rfl
theorem sumS_sub {l l' : List Int} (h : List.Sublist l' l) (hn : ∀ x ∈ l, 0 ≤ x) : 0 ≤ l'.sum ∧ l'.sum ≤ l.sum := by
  induction h with
  | slnil => simp
  | cons a _ ih =>
    have := ih fun x hx => hn x (List.mem_cons_of_mem _ hx)
    have := hn a (by simp)
    rw [List.sum_cons]; omega
  | cons_cons a _ ih =>
    have := ih fun x hx => hn x (List.mem_cons_of_mem _ hx)
    have := hn a (by simp)
    rw [List.sum_cons, List.sum_cons]; omega
theorem mayFs_sub {l l' : List Fu.Fix} (h : List.Sublist l' l) (hm : mayFs l = true) : mayFs l' = true := by
  have h1 := mayFs_mem hm
  have h2 := fits_sum hm
  unfold mayFs fitsV sumV at hm ⊢
  simp only [Bool.and_eq_true, decide_eq_true_eq, List.all_eq_true] at hm ⊢
  obtain ⟨_, _, h3, h4⟩ := hm
  refine ⟨fun x hx => h1.2 x (h.subset hx), ?_, ?_⟩
  · have := h.length_le; omega
  cases hc : (decide (((l.map unitF).length : Int) > 1000) || (l.map unitF).any outU) with
  | true => rw [hc] at h3; cases h3
  | false =>
    rw [Bool.or_eq_false_iff, List.any_eq_false] at hc
    have hs := h.map unitF
    have e : (decide (((l'.map unitF).length : Int) > 1000) || (l'.map unitF).any outU) = false := by
      rw [Bool.or_eq_false_iff, List.any_eq_false]
      refine ⟨decide_eq_false ?_, fun x hx => hc.2 x (hs.subset hx)⟩
      have := h.length_le
      rw [List.length_map]; omega
    rw [e]
    have hp : ∀ x ∈ l.map unitF, 0 ≤ x := fun x hx => by
      obtain ⟨y, hy, rfl⟩ := List.mem_map.1 hx
      have := h1.2 y hy
      unfold mayF at this
      have := of_decide_eq_true this
      unfold unitF; omega
    have := sumS_sub hs hp
    exact ⟨rfl, by simp only [cond_false]; omega⟩
theorem test_sub {l l' : List Fu.Fix} (h : List.Sublist l' l) (ht : testV l = true) : testV l' = true := by
  obtain ⟨h1, _⟩ := testV_iff.1 ht
  have h2 := mayFs_sub h h1
  have hr := hzV_range h2
  refine testV_iff.2 ⟨h2, fun d h0 hd => ?_⟩
  have h3 := test_all ht h0 (by omega)
  have hp : ∀ x ∈ l.map fun x => ofV x d, 0 ≤ x := fun x hx => by
    obtain ⟨y, _, rfl⟩ := List.mem_map.1 hx
    exact (ofV_range y d).1
  have h4 := sumS_sub (h.map fun x => ofV x d) hp
  unfold sumOf at *
  omega
/-- A safe world stays so without some of its tasks. -/
theorem safe_sub {w : Fu.World} {T : List Fu.Task} (h : List.Sublist T w.T) (hs : safeW w = true) : safeW { w with T := T } = true := by
  unfold safeW at hs ⊢
  simp only [Bool.and_eq_true] at hs ⊢
  obtain ⟨h1, h2, h3⟩ := hs
  obtain ⟨_, k2, _, _, k5, k6, _⟩ := mayW_iff.1 h1
  refine ⟨mayW_T h1 (by have := h.length_le; omega) (fun t ht => k5 t (h.subset ht)) (ascT_pair.2 ((ascT_pair.1 k6).sublist h)), ?_, test_sub (h.map fixK) h3⟩
  obtain ⟨m, k1, _⟩ := look_less (n := (lookL (w.T.map liveK) w.Now).1) (h.map liveK) (by rw [← h2])
  rw [k1]
/-- Without tasks a world is safe. -/
theorem safe_bare {w : Fu.World} (h : mayW w = true) : safeW { w with T := [] } = true := by
  obtain ⟨⟨h1, h2⟩, _⟩ := mayW_iff.1 h
  unfold safeW
  rw [mayW_T h (by simp) (by simp) rfl]
  have e : lookL [] w.Now = (w.Now, true) := by
    unfold lookL
    rw [show mayL [] w.Now = true from mayL_iff.2 ⟨by simp, ⟨h1, by omega⟩, by simp⟩]
    rfl
  show (lookL [] w.Now).2 && testV [] = true
  rw [e]
  have : testV [] = true := by decide +kernel
  rw [this]
  rfl

/-! ### other periods -/
theorem tkOK_iff {t : Fu.Task} {now : Int} : tkOK now t = true ↔ mayK t now = true ∧ (t.J.On = true → now < t.J.Due) := by
  unfold tkOK
  rw [Bool.and_eq_true]
  cases t.J.On <;> simp
theorem mayK_iff {t : Fu.Task} {now : Int} : mayK t now = true ↔ (0 ≤ t.ID ∧ t.ID ≤ 549755813888) ∧ (1 ≤ t.P ∧ t.P ≤ 48) ∧ ringOK t.H = true ∧ ((0 ≤ now ∧ now ≤ 549755813888) ∧ LiveOK (liveK t) now) ∧ mayJ t.S t.J = true ∧ t.H.N = minI (overK t) 60 := by
  unfold mayK
  have e : mayL [liveK t] now = true ↔ (0 ≤ now ∧ now ≤ 549755813888) ∧ LiveOK (liveK t) now := by
    rw [mayL_iff]; simp
  simp only [Bool.and_eq_true, Bool.not_eq_true', Bool.or_eq_false_iff, decide_eq_false_iff_not, Bool.not_eq_false', e, beq_iff_eq]
  constructor
  · rintro ⟨⟨h1, h2, h3, h4, h5⟩, h6, h7, h8⟩
    exact ⟨⟨by omega, by omega⟩, ⟨by omega, by omega⟩, h5, h6, h7, h8⟩
  · rintro ⟨⟨h1, h2⟩, ⟨h3, h4⟩, h5, h6, h7, h8⟩
    exact ⟨⟨by omega, by omega, by omega, by omega, h5⟩, h6, h7, h8⟩
theorem turn_J (t : Fu.Task) (s : Fu.Spec) (q : Int) : (turnK t s q).J = t.J ∧ (turnK t s q).ID = t.ID := by
  unfold turnK
  cases turnOK t s q <;> exact ⟨rfl, rfl⟩
theorem tkOK_turn {t : Fu.Task} {now : Int} (h : tkOK now t = true) (q : Int) : tkOK now (turnK t t.S q) = true := by
  unfold turnK
  cases ho : turnOK t t.S q with
  | false => exact h
  | true =>
    have hp : perOK t.S q = true := by
      unfold turnOK unitsV at ho
      cases hp : perOK t.S q with
      | true => rfl
      | false => rw [hp] at ho; simp at ho
    obtain ⟨h1, h2⟩ := tkOK_iff.1 h
    obtain ⟨k1, k2, k3, ⟨k4, k5⟩, k6, k7⟩ := mayK_iff.1 h1
    exact tkOK_iff.2 ⟨mayK_iff.2 ⟨k1, k2, k3, ⟨k4, ⟨hp, k5.2⟩⟩, k6, k7⟩, h2⟩
theorem mayW_live {w : Fu.World} (h : mayW w = true) : mayL (w.T.map liveK) w.Now = true := by
  obtain ⟨h1, h2, _, _, h5, _⟩ := mayW_iff.1 h
  refine mayL_iff.2 ⟨by rw [List.length_map]; omega, by omega, fun x hx => ?_⟩
  obtain ⟨t, ht, rfl⟩ := List.mem_map.1 hx
  exact (mayK_iff.1 (tkOK_iff.1 (h5 t ht)).1).2.2.2.1.2
theorem look_idle {l : List Fu.Live} {now : Int} (hm : mayL l now = true) (hi : idleL l = true) : lookL l now = (now, true) := by
  unfold lookL
  rw [hm]
  unfold lookR
  rw [hi]
  rfl
theorem safe_idle {w : Fu.World} (hm : mayW w = true) (hi : idleL (w.T.map liveK) = true) : safeW w = testV (w.T.map fixK) := by
  unfold safeW
  rw [hm, look_idle (mayW_live hm) hi]
  rfl
def turnAll (T : List Fu.Task) (p : List Int) : List Fu.Task := List.zipWith (fun t q => turnK t t.S q) T p
theorem turnAll_mem : ∀ {T : List Fu.Task} {p : List Int} {u : Fu.Task}, u ∈ turnAll T p → ∃ t ∈ T, ∃ q, u = turnK t t.S q
  | [], _, _, h => by simp [turnAll] at h
  | _ :: _, [], _, h => by simp [turnAll] at h
  | t :: T, q :: p, u, h => by
    have h' : u ∈ turnK t t.S q :: turnAll T p := h
    rcases List.mem_cons.1 h' with rfl | h'
    · exact ⟨t, by simp, q, rfl⟩
    · obtain ⟨t', k1, k2⟩ := turnAll_mem h'
      exact ⟨t', List.mem_cons_of_mem _ k1, k2⟩
theorem turnAll_ids : ∀ {T : List Fu.Task} {p : List Int}, T.length ≤ p.length → (turnAll T p).map (·.ID) = T.map (·.ID)
  | [], _, _ => by simp [turnAll]
  | _ :: _, [], h => by simp at h
  | t :: T, q :: p, h => by
    have e : turnAll (t :: T) (q :: p) = turnK t t.S q :: turnAll T p := rfl
    rw [e, List.map_cons, List.map_cons, turnAll_ids (by simpa using h), (turn_J t t.S q).2]
theorem ascT_ids {T T' : List Fu.Task} (h : T'.map (·.ID) = T.map (·.ID)) (ha : ascT T = true) : ascT T' = true := by
  have h1 : ∀ l : List Fu.Task, ascT l = true ↔ (l.map (·.ID)).Pairwise (· < ·) := fun l => by rw [ascT_pair, List.pairwise_map]
  rw [h1, h]
  exact (h1 T).1 ha
/-- A safe world where nobody must is as safe as its tasks' periods pass, whichever these are. -/
theorem safe_turn {w : Fu.World} {p : List Int} (hs : safeW w = true) (hl : w.T.length ≤ p.length) (hi : idleL (w.T.map liveK) = true) : safeW { w with T := turnAll w.T p } = testV ((turnAll w.T p).map fixK) := by
  unfold safeW at hs
  simp only [Bool.and_eq_true] at hs
  obtain ⟨h1, h2, h3, h4, h5, h6, h7⟩ := mayW_iff.1 hs.1
  have hids := turnAll_ids hl
  have hlen : (turnAll w.T p).length = w.T.length := by
    have := congrArg List.length hids
    simpa using this
  have hm : mayW { w with T := turnAll w.T p } = true := mayW_T hs.1 (by omega) (fun t ht => by
    obtain ⟨u, hu, q, rfl⟩ := turnAll_mem ht
    exact tkOK_turn (h5 u hu) q) (ascT_ids hids h6)
  refine safe_idle hm (idle_iff.2 fun x hx => ?_)
  obtain ⟨u, hu, rfl⟩ := List.mem_map.1 hx
  obtain ⟨t, ht, q, rfl⟩ := turnAll_mem hu
  have k1 := idle_iff.1 hi (liveK t) (List.mem_map.2 ⟨t, ht, rfl⟩)
  have e : (liveK (turnK t t.S q)).J = (liveK t).J := by
    show lookJ _ = lookJ _
    unfold lookJ turnK
    cases turnOK t t.S q <;> rfl
  rw [e]
  exact k1

/-! ### who begins -/
theorem lastD_range {t : Fu.Task} {now : Int} (h : tkOK now t = true) (d : List Int) : 1 ≤ lastD t d ∧ lastD t d ≤ 20 := by
  obtain ⟨h1, _⟩ := tkOK_iff.1 h
  obtain ⟨_, _, _, ⟨_, k5⟩, _⟩ := mayK_iff.1 h1
  have hp := perOK_P k5.1
  have hC : (liveK t).S.C = t.S.C := rfl
  unfold lastD
  cases d with
  | nil => simp only; omega
  | cons x d =>
    simp only
    cases hc : (decide (x < 1) || decide (x > 20)) with
    | true => simp only [cond_true]; omega
    | false =>
      simp only [Bool.or_eq_false_iff, decide_eq_false_iff_not] at hc
      simp only [cond_false]; omega
theorem lastD_at (t : Fu.Task) (d : List Int) {k : Int} (h0 : 0 ≤ k) : lastD t (d.drop k.toNat) = bif decide (k < (d.length : Int)) && (decide (rd (.int .i64) d k ≥ 1) && decide (rd (.int .i64) d k ≤ 20)) then rd (.int .i64) d k else t.S.C := by
  rcases Int.lt_or_le k d.length with h1 | h1
  · rw [drop_rd (r := .int .i64) (xs := d) h0 h1, decide_eq_true h1]
    unfold lastD
    have e : ∀ x : Int, (decide (x < 1) || decide (x > 20)) = !(decide (x ≥ 1) && decide (x ≤ 20)) := fun x => by
      rw [Bool.eq_iff_iff]; simp
    simp only [Bool.true_and]
    rw [e]
    cases (decide (rd (.int .i64) d k ≥ 1) && decide (rd (.int .i64) d k ≤ 20)) <;> rfl
  · rw [drop_end (by omega), decide_eq_false (by omega)]
    rfl
theorem begOK_now {t : Fu.Task} {now : Int} (h : tkOK now t = true) (h0 : 0 ≤ now) (h1 : now ≤ 274877906944) (ha : t.At = now) (hn : t.N ≤ 274877906944) (d : List Int) : begOK t now (lastD t d) = true ∧ t.J.On = false := by
  have hl := lastD_range h d
  obtain ⟨k0, k9⟩ := tkOK_iff.1 h
  obtain ⟨_, _, _, ⟨_, k1, k2, k3, k4, k5⟩, k6, _⟩ := mayK_iff.1 k0
  have hp := perOK_P k1
  have e1 : (liveK t).S = t.S := rfl
  have e2 : (liveK t).P = t.Next := rfl
  have e3 : (liveK t).At = t.At := rfl
  have e4 : (liveK t).N = t.N := rfl
  have e5 : (liveK t).J.On = t.J.On ∧ (liveK t).J.Due = t.J.Due := by
    show (lookJ t).On = _ ∧ (lookJ t).Due = _
    unfold lookJ
    cases hb : t.J.On with
    | true => exact ⟨hb, rfl⟩
    | false => exact ⟨hb, rfl⟩
  have hC : (liveK t).S.C = t.S.C := rfl
  have hN : (liveK t).N = t.N := rfl
  have hoff : t.J.On = false := by
    cases hb : t.J.On with
    | false => rfl
    | true =>
      have k9 := k9 hb
      rcases k5 with k5 | ⟨_, k5, _⟩
      · rw [e5.1, hb] at k5; cases k5
      · rw [e5.2, e3] at k5; omega
  refine ⟨?_, hoff⟩
  unfold begOK
  rw [hoff, ha]
  have hb : (now != now) = false := by simp
  rw [hb]
  have hm : mayJ t.S (begJ t now (lastD t d)) = true := by
    unfold begJ
    rw [e2] at hp
    rw [wrap_fits (by omega) (by omega)]
    unfold mayJ
    refine decide_eq_true ⟨(perOK_iff.1 k1).1, .inr ⟨rfl, ?_, ?_, rfl, ?_, ?_, rfl⟩⟩ <;> simp only [jobOf] <;> omega
  rw [hm]
  rfl
theorem begOK_not {t : Fu.Task} {now : Int} (ha : t.At ≠ now) (n : Int) : begOK t now n = false := by
  unfold begOK
  have : (now != t.At) = true := by simp; omega
  rw [this]
  simp

/-! ### who ends -/
theorem overJ_end (t : Fu.Task) (now : Int) : overJ (endK t now).J now = false ∧ (overJ t.J now = false → endK t now = t) ∧ (overJ t.J now = true → (endK t now).J.On = false) := by
  unfold endK
  cases h : overJ t.J now with
  | true => exact ⟨rfl, fun h => (by cases h), fun _ => rfl⟩
  | false => exact ⟨h, fun _ => rfl, fun h => (by cases h)⟩
theorem endK_twice (t : Fu.Task) (now : Int) : endK (endK t now) now = endK t now := (overJ_end (endK t now) now).2.1 (overJ_end t now).1
theorem lateM_eq (now : Int) (t : Fu.Task) : lateM now t = (overJ t.J now && t.J.Mand) := by
  unfold lateM atF
  cases overJ t.J now <;> rfl
theorem end_again (w : Fu.World) : endW (endW w) = endW w ∧ missedW (endW w) = [] := by
  constructor
  · unfold endW
    simp only [List.map_map]
    congr 1
    exact List.map_congr_left fun t _ => endK_twice t w.Now
  · unfold missedW endW
    have : (w.T.map fun t => endK t w.Now).filter (lateM w.Now) = [] := by
      rw [List.filter_eq_nil_iff]
      intro t ht
      obtain ⟨u, _, rfl⟩ := List.mem_map.1 ht
      rw [lateM_eq, (overJ_end u w.Now).1]
      simp
    show ((w.T.map fun t => endK t w.Now).filter (lateM w.Now)).map (·.ID) = []
    rw [this]
    rfl

instance (j : Fu.Job) : Decidable (smallC j) := by unfold smallC; infer_instance
def taskF (l : List Fu.Task) (id : Int) : Option Fu.Task := l.find? fun t => t.ID == id
def good2W (args : List AV) : Prop := ∃ (w : Fu.World) (i : Int), args = [.agg (encW w), .int .i64 i] ∧ smallW w
def good2V (args : List AV) : Prop := ∃ (w : Fu.World) (p : List Int), args = [.agg (encW w), .view (.int .i64) p] ∧ smallW w ∧ (p.length : Int) < 17592186044416
def good3V (args : List AV) : Prop := ∃ (w : Fu.World) (p q : List Int), args = [.agg (encW w), .view (.int .i64) p, .view (.int .i64) q] ∧ smallW w ∧ (p.length : Int) < 17592186044416 ∧ (q.length : Int) < 17592186044416
def good1W (args : List AV) : Prop := ∃ w : Fu.World, args = [.agg (encW w)] ∧ smallW w
end Go.Fx
