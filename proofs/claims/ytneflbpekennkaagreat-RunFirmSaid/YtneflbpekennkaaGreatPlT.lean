import Derived.Test.YtneflbpekennkaaGreatB38
import Derived.Test.YtneflbpekennkaaGreatPlS
/- Plain laws: who of the jobs that came once runs. -/
namespace Go.Fx
open Go

/-! ### the order -/
theorem swp_perm {xs : List Fu.Ape} {k : Nat} (h : k + 1 < xs.length) : (swpA xs ((k : Int) + 1) k).Perm xs := by
  obtain ⟨pre, a, b, post, e, hl⟩ : ∃ pre a b post, xs = pre ++ a :: b :: post ∧ pre.length = k := ⟨xs.take k, xs[k], xs[k + 1], xs.drop (k + 2), by
    rw [← List.drop_eq_getElem_cons, ← List.drop_eq_getElem_cons, List.take_append_drop], by simp; omega⟩
  subst e
  have e1 : rd .ape (pre ++ a :: b :: post) (k : Int) = a := by subst hl; exact rd_mid
  have e2 : rd .ape (pre ++ a :: b :: post) ((k : Int) + 1) = b := by
    have : pre ++ a :: b :: post = (pre ++ [a]) ++ b :: post := by simp
    rw [this, show (k : Int) + 1 = (((pre ++ [a]).length : Nat) : Int) by simp [hl]]
    exact rd_mid
  unfold swpA
  rw [e1, e2]
  have e3 : upd .ape (pre ++ a :: b :: post) ((k : Int) + 1) a = pre ++ a :: a :: post := by
    have : pre ++ a :: b :: post = (pre ++ [a]) ++ b :: post := by simp
    rw [this, show (k : Int) + 1 = (((pre ++ [a]).length : Nat) : Int) by simp [hl]]
    rw [upd_mid]
    simp
  rw [e3]
  have e4 : upd .ape (pre ++ a :: a :: post) (k : Int) b = pre ++ b :: a :: post := by subst hl; exact upd_mid
  rw [e4]
  exact List.Perm.append_left _ (List.Perm.swap _ _ _)
theorem sink_perm : ∀ (k : Nat) (xs : List Fu.Ape), k < xs.length → (sinkA k xs).Perm xs
  | 0, xs, _ => .refl _
  | k + 1, xs, h => by
    unfold sinkA
    cases ltA (rd .ape xs ((k : Int) + 1)) (rd .ape xs k) with
    | false => exact .refl _
    | true => exact (sink_perm k _ (by rw [swpA_len]; omega)).trans (swp_perm h)
theorem fold_perm : ∀ (k : Nat) (xs : List Fu.Ape) (i : Int), 0 ≤ i → i + k ≤ xs.length → (foldI nxtOu k xs i).Perm xs
  | 0, _, _, _, _ => .refl _
  | k + 1, xs, i, h0, h1 => (fold_perm k (sinkA i.toNat xs) (i + 1) (by omega) (by rw [sinkA_len]; omega)).trans (sink_perm i.toNat xs (by omega))
theorem sortA_perm (xs : List Fu.Ape) : (sortA xs).Perm xs := by
  cases xs with
  | nil => exact .refl _
  | cons a l => exact fold_perm _ _ 1 (by omega) (by simp only [List.length_cons]; omega)

/-! ### who is there -/
def idsA (l : List Fu.Ape) : List Int := l.map (·.ID)
def byA (l : List Fu.Ape) : List (Int × Fu.Ape) := l.map fun a => (a.ID, a)
theorem byA_keys (l : List Fu.Ape) : mkeys (byA l) = idsA l := by simp [mkeys, byA, idsA]
theorem mput_new {k : Int} {v : Fu.Ape} : ∀ {es : List (Int × Fu.Ape)}, k ∉ mkeys es → mput es k v = es ++ [(k, v)]
  | [], _ => rfl
  | (j, x) :: es, h => by
    have h' : k ≠ j ∧ k ∉ mkeys es := by simpa [mkeys] using h
    unfold mput
    rw [if_neg (fun e => h'.1 e.symm), mput_new h'.2]
    rfl
theorem mdel_last {k : Int} {v : Fu.Ape} : ∀ {es : List (Int × Fu.Ape)}, k ∉ mkeys es → mdel (es ++ [(k, v)]) k = es
  | [], _ => by simp [mdel]
  | (j, x) :: es, h => by
    have h' : k ≠ j ∧ k ∉ mkeys es := by simpa [mkeys] using h
    show mdel ((j, x) :: (es ++ [(k, v)])) k = _
    unfold mdel
    rw [if_neg (fun e => h'.1 e.symm), mdel_last h'.2]
theorem mdel_byA {k : Int} : ∀ {l : List Fu.Ape}, (idsA l).Nodup → mdel (byA l) k = byA (l.filter fun a => a.ID != k)
  | [], _ => rfl
  | a :: l, h => by
    have h' : a.ID ∉ idsA l ∧ (idsA l).Nodup := List.nodup_cons.1 h
    show mdel ((a.ID, a) :: byA l) k = _
    unfold mdel
    by_cases e : a.ID = k
    · rw [if_pos e, List.filter_cons_of_neg (by simp [e])]
      have : l.filter (fun b => b.ID != k) = l := List.filter_eq_self.2 fun b hb => by
        have : b.ID ≠ k := fun e2 => h'.1 (by rw [e, ← e2]; exact List.mem_map.2 ⟨b, hb, rfl⟩)
        simpa using this
      rw [this]
    · rw [if_neg e, List.filter_cons_of_pos (by simp [e]), mdel_byA h'.2]
      rfl
theorem mget_byA {l : List Fu.Ape} (h : (idsA l).Nodup) {a : Fu.Ape} (ha : a ∈ l) : mget (byA l) a.ID = some a := by
  induction l with
  | nil => cases ha
  | cons b l ih =>
    have h' : b.ID ∉ idsA l ∧ (idsA l).Nodup := List.nodup_cons.1 h
    show mget ((b.ID, b) :: byA l) a.ID = _
    unfold mget
    rcases List.mem_cons.1 ha with e | ha
    · rw [e, if_pos rfl]
    · rw [if_neg (fun e => h'.1 (by rw [e]; exact List.mem_map.2 ⟨a, ha, rfl⟩))]
      exact ih h'.2 ha
theorem mget_mem {l : List Fu.Ape} {k : Int} {a : Fu.Ape} (h : mget (byA l) k = some a) : a ∈ l ∧ a.ID = k := by
  induction l with
  | nil => cases h
  | cons b l ih =>
    have h : mget ((b.ID, b) :: byA l) k = some a := h
    unfold mget at h
    by_cases e : b.ID = k
    · rw [if_pos e] at h
      cases h
      exact ⟨by simp, e⟩
    · rw [if_neg e] at h
      obtain ⟨h1, h2⟩ := ih h
      exact ⟨List.mem_cons_of_mem _ h1, h2⟩
theorem still_iff {l : List Fu.Ape} (h : (idsA l).Nodup) {a : Fu.Ape} : stillA (byA l) a = true ↔ a ∈ l := by
  unfold stillA
  rw [Bool.and_eq_true, eqApeB_eq, decide_eq_true_eq]
  constructor
  · rintro ⟨h1, h2⟩
    cases hg : mget (byA l) a.ID with
    | none => rw [hg] at h1; cases h1
    | some b =>
      rw [hg] at h2
      have h2 : a = b := h2
      rw [h2]
      exact (mget_mem hg).1
  · intro ha
    rw [mget_byA h ha]
    exact ⟨rfl, rfl⟩
def lateA (now : Int) (a : Fu.Ape) : Bool := decide (laxA a now < 0)
theorem pick1_fold (now cur : Int) : ∀ (A P : List Fu.Ape) (g : List Int), (idsA (P ++ A)).Nodup →
    A.foldl putA (now, cur, byA P, g) = (now, cur, byA (P ++ A.filter fun a => !lateA now a), g ++ idsA (A.filter (lateA now)))
  | [], P, g, _ => by simp [idsA]
  | a :: A, P, g, h => by
    have hk : a.ID ∉ mkeys (byA P) := by
      rw [byA_keys]
      have : (idsA P ++ a.ID :: idsA A).Nodup := by simpa [idsA] using h
      have := List.nodup_append.1 this
      exact fun hm => this.2.2 _ hm _ (by simp) rfl
    rw [List.foldl_cons]
    have e : putA (now, cur, byA P, g) a = bif lateA now a then (now, cur, byA P, g ++ [a.ID]) else (now, cur, byA (P ++ [a]), g) := by
      unfold putA lateA
      simp only
      rw [mput_new hk]
      cases decide (laxA a now < 0) with
      | true => simp only [cond_true]; rw [mdel_last hk]
      | false => simp [byA]
    rw [e]
    cases hl : lateA now a with
    | true =>
      simp only [cond_true]
      have h' : (idsA (P ++ A)).Nodup := by
        refine h.sublist ?_
        simp only [idsA, List.map_append, List.map_cons]
        exact List.Sublist.append_left (List.sublist_cons_self _ _) _
      rw [pick1_fold now cur A P _ h', List.filter_cons_of_neg (by simp [hl]), List.filter_cons_of_pos hl]
      simp [idsA]
    | false =>
      simp only [cond_false]
      have h' : (idsA ((P ++ [a]) ++ A)).Nodup := by simpa using h
      rw [pick1_fold now cur A (P ++ [a]) _ h', List.filter_cons_of_pos (by simp [hl]), List.filter_cons_of_neg (by simp [hl])]
      simp
theorem ids_sub {l m : List Fu.Ape} (h : List.Sublist l m) (hn : (idsA m).Nodup) : (idsA l).Nodup := hn.sublist (h.map _)
/-- Those that can still end. -/
def liveA (A : List Fu.Ape) (now : Int) : List Fu.Ape := A.filter fun a => !lateA now a
theorem pick1_eq {A : List Fu.Ape} (h : (idsA A).Nodup) (cur now : Int) : pick1 A cur now = (now, cur, byA (liveA A now), idsA (A.filter (lateA now))) := by
  have := pick1_fold now cur A [] [] (by simpa using h)
  simpa [byA, pick1, liveA] using this
theorem live_nodup {A : List Fu.Ape} (h : (idsA A).Nodup) (now : Int) : (idsA (liveA A now)).Nodup := by
  unfold liveA
  exact h.sublist (List.filter_sublist.map _)
theorem there_mem {A : List Fu.Ape} (h : (idsA A).Nodup) {cur now : Int} {a : Fu.Ape} : a ∈ thereA A cur now ↔ a ∈ liveA A now := by
  unfold thereA
  rw [List.mem_filter, pick1_eq h, (sortA_perm A).mem_iff]
  show a ∈ A ∧ stillA (byA (liveA A now)) a = true ↔ _
  rw [still_iff (live_nodup h now)]
  exact ⟨fun h => h.2, fun h => ⟨(List.mem_filter.1 h).1, h⟩⟩
theorem there_nodup {A : List Fu.Ape} (h : (idsA A).Nodup) (cur now : Int) : (idsA (thereA A cur now)).Nodup := by
  refine ids_sub List.filter_sublist ?_
  exact ((sortA_perm A).map _).nodup_iff.2 h

/-! ### who goes -/
/-- How it stands behind some, ahead of others. -/
def GoI (L : List Fu.Ape) (g1 : List Int) (R : List Fu.Ape) (c : CPk) : Prop :=
  ∃ B, c.2.2.1 = byA B ∧ List.Sublist B L ∧ (∀ a ∈ R, a ∈ B) ∧ B.length + c.2.2.2.length = L.length + g1.length ∧ (∀ b ∈ B, b.ID ∉ c.2.2.2) ∧ (c.2.2.2 = g1 ∧ B = L ∨ (mget c.2.2.1 c.2.1).isSome = true)
theorem goI_fold {L : List Fu.Ape} {g1 : List Int} (hL : (idsA L).Nodup) : ∀ (R : List Fu.Ape) (c : CPk), (idsA R).Nodup → GoI L g1 R c → GoI L g1 [] (R.foldl goA c)
  | [], _, _, h => h
  | a :: R, c, hn, h => by
    rw [List.foldl_cons]
    have hn' : a.ID ∉ idsA R ∧ (idsA R).Nodup := List.nodup_cons.1 hn
    refine goI_fold hL R _ hn'.2 ?_
    obtain ⟨B, h1, h2, h3, h4, h5, h6⟩ := h
    have hB := ids_sub h2 hL
    have haB := h3 a (by simp)
    have hR : ∀ b ∈ R, b ∈ B := fun b hb => h3 b (List.mem_cons_of_mem _ hb)
    unfold goA
    cases hc : (a.ID == c.2.1 || decide (laxA a c.1 > 0)) with
    | true => exact ⟨B, h1, h2, hR, h4, h5, h6⟩
    | false =>
      simp only [cond_false]
      cases hb : (!(mget c.2.2.1 c.2.1).isSome || beatsV a.V ((mget c.2.2.1 c.2.1).getD ⟨0, 0, 0, 0, 0⟩).V 4) with
      | true =>
        simp only [cond_true]
        refine ⟨B, h1, h2, hR, h4, h5, .inr ?_⟩
        show (mget c.2.2.1 a.ID).isSome = true
        rw [h1, mget_byA hB haB]
        rfl
      | false =>
        simp only [cond_false]
        simp only [Bool.or_eq_false_iff, Bool.not_eq_false'] at hb hc
        have hne : a.ID ≠ c.2.1 := by simpa using hc.1
        have hsome := hb.1
        rw [h1] at hsome
        have hlen : (B.filter fun b => b.ID != a.ID).length + 1 = B.length := by
          have hd := mdel_byA (k := a.ID) hB
          have : ∀ {l : List Fu.Ape}, (idsA l).Nodup → a ∈ l → (l.filter fun b => b.ID != a.ID).length + 1 = l.length := by
            intro l
            induction l with
            | nil => intro _ h; cases h
            | cons x l ih =>
              intro hl ha
              have hl' : x.ID ∉ idsA l ∧ (idsA l).Nodup := List.nodup_cons.1 hl
              rcases List.mem_cons.1 ha with rfl | ha
              · have : l.filter (fun b => b.ID != a.ID) = l := List.filter_eq_self.2 fun b hb => by
                  have : b.ID ≠ a.ID := fun e2 => hl'.1 (by rw [← e2]; exact List.mem_map.2 ⟨b, hb, rfl⟩)
                  simpa using this
                rw [List.filter_cons_of_neg (by simp), this]
                rfl
              · have hx : x.ID ≠ a.ID := fun e => hl'.1 (by rw [e]; exact List.mem_map.2 ⟨a, ha, rfl⟩)
                rw [List.filter_cons_of_pos (by simpa using hx), List.length_cons, List.length_cons, ih hl'.2 ha]
          exact this hB haB
        refine ⟨B.filter fun b => b.ID != a.ID, ?_, List.filter_sublist.trans h2, fun b hb => ?_, ?_, fun b hb => ?_, .inr ?_⟩
        · show mdel c.2.2.1 a.ID = _
          rw [h1, mdel_byA hB]
        · refine List.mem_filter.2 ⟨hR b hb, ?_⟩
          have : b.ID ≠ a.ID := fun e => hn'.1 (by rw [← e]; exact List.mem_map.2 ⟨b, hb, rfl⟩)
          simpa using this
        · show _ + (c.2.2.2 ++ [a.ID]).length = _
          rw [List.length_append, List.length_cons, List.length_nil]
          omega
        · show b.ID ∉ c.2.2.2 ++ [a.ID]
          obtain ⟨k1, k2⟩ := List.mem_filter.1 hb
          have k2 : b.ID ≠ a.ID := by simpa using k2
          simp only [List.mem_append, List.mem_singleton, not_or]
          exact ⟨h5 b k1, k2⟩
        · show (mget (mdel c.2.2.1 a.ID) c.2.1).isSome = true
          rw [h1, mdel_byA hB]
          cases hg : mget (byA B) c.2.1 with
          | none => rw [hg] at hsome; cases hsome
          | some x =>
            obtain ⟨m1, m2⟩ := mget_mem hg
            have hx : x ∈ B.filter fun b => b.ID != a.ID := List.mem_filter.2 ⟨m1, by rw [m2]; simpa using fun e => hne e.symm⟩
            rw [← m2, mget_byA (ids_sub List.filter_sublist hB) hx]
            rfl
theorem firstS_none {by' : List (Int × Fu.Ape)} : ∀ {l : List Fu.Ape} {i : Int}, firstS by' l i = none → ∀ a ∈ l, stillA by' a = false
  | [], _, _, _, h => by cases h
  | b :: l, i, h, a, ha => by
    unfold firstS at h
    cases hs : stillA by' b with
    | true => rw [hs] at h; cases h
    | false =>
      rw [hs] at h
      rcases List.mem_cons.1 ha with rfl | ha
      · exact hs
      · exact firstS_none h a ha
theorem rd_memP {A : List Fu.Ape} {i : Int} (h0 : 0 ≤ i) (h1 : i < A.length) : rd .ape A i ∈ A := by
  have hlt : i.toNat < A.length := by omega
  have : rd .ape A i = A[i.toNat] := by simp [rd, hlt]
  rw [this]
  exact List.getElem_mem _
theorem mayA_iff {A : List Fu.Ape} {now : Int} : mayA A now = true ↔ (∀ a ∈ A, apeOK a = true) ∧ (idsA A).Nodup ∧ A.length ≤ 4 ∧ 0 ≤ now ∧ now ≤ 549755813888 := by
  unfold mayA idsA
  simp only [Bool.and_eq_true, decide_eq_true_eq, List.all_eq_true]
  constructor
  · rintro ⟨h1, h2, h3, h4, h5⟩; exact ⟨h1, h2, by omega, h4, h5⟩
  · rintro ⟨h1, h2, h3, h4, h5⟩; exact ⟨h1, h2, by omega, h4, h5⟩
theorem filter_len (p : Fu.Ape → Bool) : ∀ A : List Fu.Ape, (A.filter fun a => !p a).length + (A.filter p).length = A.length
  | [] => rfl
  | a :: A => by
    have ih := filter_len p A
    rw [List.filter_cons, List.filter_cons]
    cases p a with
    | true => simp only [Bool.not_true, Bool.false_eq_true, if_false, if_true, List.length_cons]; omega
    | false => simp only [Bool.not_false, Bool.false_eq_true, if_false, if_true, List.length_cons]; omega
/-- None runs just where none can end, and then all are gone; else one of them does that can, and is not gone. -/
theorem pick_spec {A : List Fu.Ape} {cur now : Int} (hm : mayA A now = true) :
    ((pickA A cur now).1 = -1 ∧ (pickA A cur now).2.length = A.length ∧ ∀ a ∈ A, lateA now a = true) ∨ (∃ a ∈ A, (pickA A cur now).1 = a.ID ∧ a.ID ∉ (pickA A cur now).2 ∧ lateA now a = false ∧ 0 ≤ a.ID) := by
  obtain ⟨hok, hn, _⟩ := mayA_iff.1 hm
  have hp := pick1_eq hn cur now
  have hLn := live_nodup hn now
  have hg : (pick1 A cur now).2.2.2 = idsA (A.filter (lateA now)) := by rw [hp]
  have hlen : (liveA A now).length + (idsA (A.filter (lateA now))).length = A.length := by
    unfold liveA idsA
    rw [List.length_map]
    exact filter_len (lateA now) A
  have hlive : ∀ a ∈ liveA A now, a ∈ A ∧ lateA now a = false := fun a ha => by
    obtain ⟨h1, h2⟩ := List.mem_filter.1 ha
    exact ⟨h1, by simpa using h2⟩
  have hpos : ∀ a ∈ A, 0 ≤ a.ID := fun a ha => (apeOK_iff.1 (hok a ha)).1.1
  have hnot : ∀ a ∈ liveA A now, a.ID ∉ idsA (A.filter (lateA now)) := fun a ha hm => by
    obtain ⟨b, hb, e⟩ := List.mem_map.1 hm
    obtain ⟨hb1, hb2⟩ := List.mem_filter.1 hb
    obtain ⟨ha1, ha2⟩ := hlive a ha
    have : mget (byA A) a.ID = some a := mget_byA hn ha1
    rw [← e, mget_byA hn hb1] at this
    have e2 : b = a := by simpa using this
    rw [e2, ha2] at hb2
    cases hb2
  unfold pickA
  rw [hm]
  simp only [Bool.not_true, cond_false]
  cases h0 : (((thereA A cur now).length : Int) == 0) with
  | true =>
    simp only [cond_true]
    have h0 : (thereA A cur now).length = 0 := by have : ((thereA A cur now).length : Int) = 0 := by simpa using h0
                                                  omega
    have hnil : liveA A now = [] := by
      cases hl : liveA A now with
      | nil => rfl
      | cons a l =>
        have : a ∈ thereA A cur now := (there_mem hn).2 (by rw [hl]; simp)
        rw [List.eq_nil_of_length_eq_zero h0] at this
        cases this
    rw [hnil, List.length_nil] at hlen
    refine .inl ⟨trivial, by rw [hg]; omega, fun a ha => ?_⟩
    cases hl : lateA now a with
    | true => rfl
    | false =>
      have : a ∈ liveA A now := List.mem_filter.2 ⟨ha, by simp [hl]⟩
      rw [hnil] at this
      cases this
  | false =>
    simp only [cond_false]
    have h0 : 0 < (thereA A cur now).length := by
      have : ((thereA A cur now).length : Int) ≠ 0 := by simpa using h0
      omega
    right
    cases hf : fitsA (thereA A cur now) now with
    | true =>
      simp only [cond_true]
      have ha := (there_mem hn).1 (rd_memP (A := thereA A cur now) (Int.le_refl 0) (by omega))
      exact ⟨_, (hlive _ ha).1, rfl, by rw [hg]; exact hnot _ ha, (hlive _ ha).2, hpos _ (hlive _ ha).1⟩
    | false =>
      simp only [cond_false]
      have hI : GoI (liveA A now) (idsA (A.filter (lateA now))) (thereA A cur now) (pick1 A cur now) := by
        rw [hp]
        exact ⟨liveA A now, rfl, List.Sublist.refl _, fun a ha => (there_mem hn).1 ha, rfl, hnot, .inl ⟨rfl, rfl⟩⟩
      have hI := goI_fold hLn (thereA A cur now) _ (there_nodup hn cur now) hI
      have hI : GoI (liveA A now) (idsA (A.filter (lateA now))) [] (pick3 A cur now) := hI
      generalize pick3 A cur now = c at hI ⊢
      obtain ⟨B, b1, b2, _, b4, b5, b6⟩ := hI
      have hBn := ids_sub b2 hLn
      have hfin : ∀ a ∈ B, a ∈ A ∧ a.ID ∉ c.2.2.2 ∧ lateA now a = false ∧ 0 ≤ a.ID := fun a ha =>
        ⟨(hlive a (b2.subset ha)).1, b5 a ha, (hlive a (b2.subset ha)).2, hpos a (hlive a (b2.subset ha)).1⟩
      cases hs : (mget c.2.2.1 c.2.1).isSome with
      | true =>
        simp only [cond_true]
        cases hgm : mget c.2.2.1 c.2.1 with
        | none => rw [hgm] at hs; cases hs
        | some x =>
          rw [b1] at hgm
          obtain ⟨m1, m2⟩ := mget_mem hgm
          obtain ⟨f1, f2, f3, f4⟩ := hfin x m1
          exact ⟨x, f1, m2.symm, f2, f3, f4⟩
      | false =>
        simp only [cond_false]
        have hBL : B = liveA A now := by
          rcases b6 with b6 | b6
          · exact b6.2
          · rw [b6] at hs; cases hs
        cases hj : firstS c.2.2.1 (thereA A cur now) 0 with
        | some j =>
          obtain ⟨j1, j2, j3⟩ := firstS_spec _ _ _ _ hj
          rw [show j - 0 = j by omega, b1, still_iff hBn] at j3
          obtain ⟨f1, f2, f3, f4⟩ := hfin _ j3
          exact ⟨_, f1, rfl, f2, f3, f4⟩
        | none =>
          have ha := rd_memP (A := thereA A cur now) (Int.le_refl 0) (by omega)
          have h1 := firstS_none hj _ ha
          rw [b1, hBL] at h1
          have h2 := (still_iff hLn).2 ((there_mem hn).1 ha)
          rw [h2] at h1
          cases h1

end Go.Fx
