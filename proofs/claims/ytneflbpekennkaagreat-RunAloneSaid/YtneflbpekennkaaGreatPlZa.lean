import Derived.Test.YtneflbpekennkaaGreatPlZ
/- Plain laws: jobs that came once, where all of them fit. -/
namespace Go.Fx
open Go

/-! ### the order -/
def leA (a b : Fu.Ape) : Prop := a.Due < b.Due ∨ (a.Due = b.Due ∧ a.ID ≤ b.ID)
theorem leA.trans {a b c : Fu.Ape} (h : leA a b) (h' : leA b c) : leA a c := by unfold leA at *; omega
theorem ltA_iff {a b : Fu.Ape} : ltA a b = true ↔ a.Due < b.Due ∨ (a.Due = b.Due ∧ a.ID < b.ID) := by
  unfold ltA cmpA
  rw [eqApeB_eq]
  by_cases h : a.Due < b.Due ∨ (a.Due = b.Due ∧ a.ID < b.ID)
  · have hb : (decide (a.Due < b.Due) || (a.Due == b.Due && decide (a.ID < b.ID))) = true := by simpa using h
    have hne : decide (a = b) = false := decide_eq_false fun e => by subst e; omega
    rw [hb, hne]
    simp [h]
  · have hb : (decide (a.Due < b.Due) || (a.Due == b.Due && decide (a.ID < b.ID))) = false := by
      cases hx : (decide (a.Due < b.Due) || (a.Due == b.Due && decide (a.ID < b.ID))) with
      | false => rfl
      | true => exact absurd (by simpa using hx) h
    rw [hb]
    simp only [h, iff_false, Bool.not_eq_true, decide_eq_false_iff_not]
    cases (decide (a = b) || (!false && (a.Due == b.Due && a.ID == b.ID))) <;> simp
theorem leA_of_not {a b : Fu.Ape} (h : ltA a b = false) : leA b a := by
  have : ¬ (a.Due < b.Due ∨ (a.Due = b.Due ∧ a.ID < b.ID)) := fun hh => by rw [ltA_iff.2 hh] at h; cases h
  unfold leA
  omega
theorem leA_of {a b : Fu.Ape} (h : ltA a b = true) : leA a b := by
  have := ltA_iff.1 h
  unfold leA
  omega
theorem swp_mid (pre post : List Fu.Ape) (b a : Fu.Ape) : swpA (pre ++ b :: a :: post) ((pre.length : Int) + 1) pre.length = pre ++ a :: b :: post ∧ rd .ape (pre ++ b :: a :: post) ((pre.length : Int) + 1) = a ∧ rd .ape (pre ++ b :: a :: post) (pre.length : Int) = b := by
  have e1 : rd .ape (pre ++ b :: a :: post) (pre.length : Int) = b := rd_mid
  have ek : (pre.length : Int) + 1 = (((pre ++ [b]).length : Nat) : Int) := by simp
  have e2 : rd .ape (pre ++ b :: a :: post) ((pre.length : Int) + 1) = a := by
    have : pre ++ b :: a :: post = (pre ++ [b]) ++ a :: post := by simp
    rw [this, ek]
    exact rd_mid
  refine ⟨?_, e2, e1⟩
  unfold swpA
  rw [e1, e2]
  have e3 : upd .ape (pre ++ b :: a :: post) ((pre.length : Int) + 1) b = pre ++ b :: b :: post := by
    have : pre ++ b :: a :: post = (pre ++ [b]) ++ a :: post := by simp
    rw [this, ek, upd_mid]
    simp
  rw [e3]
  exact upd_mid
theorem sink_sorted : ∀ (k : Nat) (P : List Fu.Ape) (a : Fu.Ape) (S : List Fu.Ape), P.length = k → P.Pairwise leA → ∃ Q, sinkA k (P ++ a :: S) = Q ++ S ∧ Q.Pairwise leA ∧ Q.Perm (a :: P) ∧ Q.length = k + 1
  | 0, P, a, S, h, _ => by
    have : P = [] := List.eq_nil_of_length_eq_zero h
    subst this
    exact ⟨[a], rfl, by simp, .refl _, rfl⟩
  | k + 1, P, a, S, h, hp => by
    obtain ⟨P', b, rfl⟩ : ∃ P' b, P = P' ++ [b] := ⟨P.dropLast, P.getLast (by intro e; subst e; cases h), (List.dropLast_concat_getLast _).symm⟩
    have hk : P'.length = k := by simpa using h
    obtain ⟨s1, s2, s3⟩ := swp_mid P' S b a
    rw [hk] at s1 s2 s3
    obtain ⟨hp1, _, hp3⟩ := List.pairwise_append.1 hp
    have hb : ∀ x ∈ P', leA x b := fun x hx => hp3 x hx b (by simp)
    have e : (P' ++ [b]) ++ a :: S = P' ++ b :: a :: S := by simp
    rw [e]
    unfold sinkA
    rw [s1, s2, s3]
    cases hl : ltA a b with
    | true =>
      simp only [cond_true]
      obtain ⟨Q, q1, q2, q3, q4⟩ := sink_sorted k P' a (b :: S) hk hp1
      refine ⟨Q ++ [b], by rw [q1]; simp, List.pairwise_append.2 ⟨q2, by simp, fun x hx y hy => ?_⟩, ?_, by simp [q4]⟩
      · have : y = b := by simpa using hy
        subst this
        rcases List.mem_cons.1 (q3.mem_iff.1 hx) with rfl | hx
        · exact leA_of hl
        · exact hb x hx
      · exact (List.perm_append_comm.trans (q3.cons b)).trans ((List.Perm.swap _ _ _).trans ((List.perm_append_comm (l₁ := [b])).cons a))
    | false =>
      simp only [cond_false]
      refine ⟨P' ++ [b] ++ [a], by simp, List.pairwise_append.2 ⟨hp, by simp, fun x hx y hy => ?_⟩, List.perm_append_comm, by simp [hk]⟩
      have : y = a := by simpa using hy
      subst this
      rcases List.mem_append.1 hx with hx | hx
      · exact (hb x hx).trans (leA_of_not hl)
      · have : x = b := by simpa using hx
        subst this
        exact leA_of_not hl
theorem fold_sorted : ∀ (k : Nat) (P S : List Fu.Ape) (i : Int), i = P.length → S.length = k → P.Pairwise leA → (foldI nxtOu k (P ++ S) i).Pairwise leA
  | 0, P, S, i, hi, hs, hp => by
    have : S = [] := List.eq_nil_of_length_eq_zero hs
    subst this
    simpa [foldI] using hp
  | k + 1, P, S, i, hi, hs, hp => by
    obtain ⟨a, S', rfl⟩ : ∃ a S', S = a :: S' := by cases S with | nil => cases hs | cons a S' => exact ⟨a, S', rfl⟩
    obtain ⟨Q, q1, q2, _, q4⟩ := sink_sorted P.length P a S' rfl hp
    unfold foldI
    have e : nxtOu (P ++ a :: S') i = Q ++ S' := by
      unfold nxtOu
      rw [show i.toNat = P.length by omega, q1]
    rw [e]
    exact fold_sorted k Q S' (i + 1) (by rw [q4]; omega) (by simpa using hs) q2
theorem sortA_sorted (xs : List Fu.Ape) : (sortA xs).Pairwise leA := by
  unfold sortA
  cases xs with
  | nil => simp [foldI]
  | cons a l =>
    have e : (((a :: l).length : Int) - 1).toNat = l.length := by simp
    rw [e]
    exact fold_sorted l.length [a] l 1 rfl rfl (by simp)
theorem sorted_eq {l m : List Fu.Ape} (hn : (idsA l).Nodup) (h : l.Perm m) (hl : l.Pairwise leA) (hm : m.Pairwise leA) : l = m := by
  refine List.Perm.eq_of_pairwise (fun a b ha hb h1 h2 => ?_) hl hm h
  have hb' := h.mem_iff.2 hb
  have hid : a.ID = b.ID := by unfold leA at h1 h2; omega
  obtain ⟨i, hi, rfl⟩ := List.getElem_of_mem ha
  obtain ⟨j, hj, rfl⟩ := List.getElem_of_mem hb'
  have := idsA_inj hn hi hj hid
  subst this
  rfl
theorem sortA_eq {l m : List Fu.Ape} (hn : (idsA l).Nodup) (h : l.Perm m) (hm : m.Pairwise leA) : sortA l = m :=
  sorted_eq (((sortA_perm l).map _).nodup_iff.2 hn) ((sortA_perm l).trans h) (sortA_sorted l) hm

/-! ### all fit -/
def remA (a : Fu.Ape) : Int := a.C - a.Ran
theorem leftA_eq {a : Fu.Ape} (h : apeOK a = true) : leftA a = remA a ∧ 1 ≤ remA a ∧ remA a ≤ 40 := by
  have := apeOK_iff.1 h
  unfold leftA remA
  exact ⟨wrap_fits (by omega) (by omega), by omega, by omega⟩
def Fit : Int → List Fu.Ape → Prop
  | _, [] => True
  | n, a :: l => n + remA a ≤ a.Due ∧ Fit (n + remA a) l
theorem fitF_iff : ∀ (l : List Fu.Ape) (n : Int), (∀ a ∈ l, apeOK a = true) → 0 ≤ n → n + 40 * l.length ≤ 2251799813685248 → (fitF n l = true ↔ Fit n l)
  | [], _, _, _, _ => by simp [fitF, Fit]
  | a :: l, n, h, h0, h1 => by
    obtain ⟨k1, k2, k3⟩ := leftA_eq (h a (by simp))
    have hl : ((a :: l).length : Int) = l.length + 1 := by simp
    have ih := fitF_iff l (n + remA a) (fun b hb => h b (by simp [hb])) (by omega) (by omega)
    unfold fitF Fit
    rw [k1, wrap_fits (n := n + remA a) (by omega) (by omega)]
    by_cases hd : n + remA a > a.Due
    · rw [decide_eq_true hd]
      simp only [cond_true, Bool.false_eq_true, false_iff]
      omega
    · rw [decide_eq_false hd]
      simp only [cond_false]
      rw [ih]
      exact ⟨fun h => ⟨by omega, h⟩, fun h => h.2⟩
theorem fit_due : ∀ {l : List Fu.Ape} {n : Int}, (∀ a ∈ l, 1 ≤ remA a) → Fit n l → ∀ a ∈ l, n + remA a ≤ a.Due
  | a :: l, n, h, hf, b, hb => by
    rcases List.mem_cons.1 hb with rfl | hb
    · exact hf.1
    · have := fit_due (fun c hc => h c (by simp [hc])) hf.2 b hb
      have := h a (by simp)
      omega
/-- How much is left of them, in all. -/
def remS (l : List Fu.Ape) : Int := (l.map remA).sum
theorem remS_le : ∀ {l : List Fu.Ape}, (∀ a ∈ l, apeOK a = true) → 0 ≤ remS l ∧ remS l ≤ 40 * l.length ∧ (l ≠ [] → 1 ≤ remS l)
  | [], _ => by simp [remS]
  | a :: l, h => by
    obtain ⟨_, k2, k3⟩ := leftA_eq (h a (by simp))
    obtain ⟨h1, h2, _⟩ := remS_le (l := l) fun b hb => h b (by simp [hb])
    have e : remS (a :: l) = remA a + remS l := by simp [remS]
    have hl : ((a :: l).length : Int) = l.length + 1 := by simp
    rw [e]
    exact ⟨by omega, by omega, fun _ => by omega⟩
/-- Who runs where all fit: the first one; and none is gone. -/
theorem pick_fits {A : List Fu.Ape} {cur now : Int} (hm : mayA A now = true) (hf : fitsA A now = true) (hne : A ≠ []) : ∃ a l, sortA A = a :: l ∧ pickA A cur now = (a.ID, []) := by
  obtain ⟨hok, hn, hl4, hn0, hn1⟩ := mayA_iff.1 hm
  have hp := sortA_perm A
  have hokS : ∀ a ∈ sortA A, apeOK a = true := fun a ha => hok a (hp.mem_iff.1 ha)
  have hlen := hp.length_eq
  have hF : Fit now (sortA A) := (fitF_iff (sortA A) now hokS hn0 (by omega)).1 hf
  have hlate : ∀ a ∈ A, lateA now a = false := fun a ha => by
    have h1 := fit_due (fun b hb => (leftA_eq (hokS b hb)).2.1) hF a (hp.mem_iff.2 ha)
    obtain ⟨k1, k2, k3⟩ := leftA_eq (hok a ha)
    have := apeOK_iff.1 (hok a ha)
    unfold lateA laxA
    rw [k1, wrap_fits (n := a.Due - now) (by omega) (by omega), wrap_fits (by omega) (by omega)]
    exact decide_eq_false (by omega)
  have hlive : liveA A now = A := List.filter_eq_self.2 fun a ha => by rw [hlate a ha]; rfl
  have hgone : A.filter (lateA now) = [] := List.filter_eq_nil_iff.2 fun a ha => by rw [hlate a ha]; simp
  have h1 := pick1_eq hn cur now
  rw [hlive, hgone] at h1
  have hthere : thereA A cur now = sortA A := by
    unfold thereA
    refine List.filter_eq_self.2 fun a ha => ?_
    rw [h1]
    exact (still_iff hn).2 (hp.mem_iff.1 ha)
  obtain ⟨a, l, e⟩ : ∃ a l, sortA A = a :: l := by
    cases hs : sortA A with
    | nil => rw [hs] at hp; exact absurd (List.Perm.nil_eq hp).symm hne
    | cons a l => exact ⟨a, l, rfl⟩
  refine ⟨a, l, e, ?_⟩
  have hss : sortA (sortA A) = sortA A := sortA_eq ((hp.map _).nodup_iff.2 hn) (.refl _) (sortA_sorted A)
  unfold pickA
  rw [hm, hthere]
  have h0 : (((sortA A).length : Int) == 0) = false := by rw [e]; simp; omega
  have hfit : fitsA (sortA A) now = true := by
    unfold fitsA
    rw [hss]
    exact hf
  rw [h0, hfit, h1]
  simp only [Bool.not_true, cond_false, cond_true]
  rw [e]
  rfl

/-! ### one time -/
theorem remS_perm {l m : List Fu.Ape} (h : l.Perm m) : remS l = remS m := by
  induction h with
  | nil => rfl
  | cons x _ ih => simp only [remS, List.map_cons, List.sum_cons] at ih ⊢; omega
  | swap x y l => simp only [remS, List.map_cons, List.sum_cons]; omega
  | trans _ _ h1 h2 => exact h1.trans h2
theorem erase_perm {l : List Fu.Ape} {i : Nat} (h : i < l.length) : (l[i] :: l.eraseIdx i).Perm l := by
  rw [List.eraseIdx_eq_take_drop_succ]
  have e : l = l.take i ++ l[i] :: l.drop (i + 1) := by rw [← List.drop_eq_getElem_cons, List.take_append_drop]
  have h2 : (l.take i ++ l[i] :: l.drop (i + 1)).Perm (l[i] :: (l.take i ++ l.drop (i + 1))) := List.perm_middle
  exact h2.symm.trans (by rw [← e])
theorem ranA_ok {a : Fu.Ape} (h : apeOK a = true) : (ranA a).Ran = a.Ran + 1 := by
  have := apeOK_iff.1 h
  exact wrap_fits (by omega) (by omega)
/-- Where no task is, and all jobs that came once fit, one of them runs, none is gone, and what is there then fits. -/
theorem alone_tick {w : Fu.World} (hm : mayW w = true) (hT : w.T = []) (hnow : w.Now < 274877906944) (hf : fitsA w.A w.Now = true) (hne : w.A ≠ []) :
    (pickW (startW w [])).2 = [] ∧ (whoW (startW w [])).1 = 2 ∧ (tickW w []).T = [] ∧ fitsA (tickW w []).A (w.Now + 1) = true ∧ remS (tickW w []).A = remS w.A - 1 := by
  have hA0 : Ahead w := ⟨hm, hnow, by rw [hT]; simp⟩
  have hA : mayA w.A w.Now = true := (mayW_iff.1 hm).2.2.2.1
  obtain ⟨hok, hn, hl4, hn0, hn1⟩ := mayA_iff.1 hA
  obtain ⟨a, l, e, hpick⟩ := pick_fits (cur := w.Cur) hA hf hne
  have hpk : pickW (startW w []) = (a.ID, []) := hpick
  have hp := sortA_perm w.A
  rw [e] at hp
  have ha : a ∈ w.A := hp.mem_iff.1 (by simp)
  have hoka := hok a ha
  have hape := apeOK_iff.1 hoka
  have hT1 : (startW w []).T = [] := List.eq_nil_of_length_eq_zero (by rw [hA0.lenS, hT]; rfl)
  have hmust : (mustW (startW w [])).2 = false := by
    rcases must_spec (startW w []) with ⟨h, _⟩ | ⟨t, ht, _⟩
    · exact h
    · rw [hT1] at ht; cases ht
  have hwho : whoW (startW w []) = (2, a.ID) := by
    unfold whoW onceW
    rw [hmust, hpk, maxI_eq]
    have h1 : (a.ID != -1) = true := by simp; omega
    rw [h1, Int.max_eq_left hape.1.1]
    rfl
  have hleft : (leftW w []).A = w.A := by
    show dropA (pickW (startW w [])).2 w.A = w.A
    rw [hpk]
    exact List.filter_eq_self.2 fun _ _ => rfl
  obtain ⟨hi, hid⟩ := atA_spec (A := w.A) ⟨a, ha, rfl⟩
  have hlt : (atA w.A a.ID).toNat < w.A.length := by omega
  have hrd : rd .ape w.A (atA w.A a.ID) = w.A[(atA w.A a.ID).toNat] := by simp [rd, hlt]
  have hat : w.A[(atA w.A a.ID).toNat] = a := by
    obtain ⟨j, hj, ej⟩ := List.getElem_of_mem ha
    have := idsA_inj hn hlt hj (by rw [← hrd, hid, ej])
    subst this
    exact ej
  have hsub : (w.A.eraseIdx (atA w.A a.ID).toNat).Perm l := by
    have := erase_perm hlt
    rw [hat] at this
    exact (this.trans hp.symm).cons_inv
  have hsorted := sortA_sorted w.A
  rw [e] at hsorted
  obtain ⟨hs1, hs2⟩ := List.pairwise_cons.1 hsorted
  have hlen : (a :: l).length = w.A.length := hp.length_eq
  have hokl : ∀ b ∈ a :: l, apeOK b = true := fun b hb => hok b (hp.mem_iff.1 hb)
  have hF : Fit w.Now (a :: l) := by
    have h1 : fitF w.Now (a :: l) = true := by rw [← e]; exact hf
    exact (fitF_iff (a :: l) w.Now hokl hn0 (by omega)).1 h1
  have hrem : remS w.A = remA a + remS l := by rw [← remS_perm hp]; simp [remS]
  obtain ⟨t1, t2, _⟩ := tick_apes hm hnow []
  obtain ⟨tok, tn, tl4, tn0, _⟩ := mayA_iff.1 t1
  have hra := ranA_ok hoka
  have hT2 : (tickW w []).T = [] := List.eq_nil_of_length_eq_zero (by rw [hA0.tickLen, hT]; rfl)
  have fin : ∀ m : List Fu.Ape, (tickW w []).A.Perm m → m.Pairwise leA → Fit (w.Now + 1) m → fitsA (tickW w []).A (w.Now + 1) = true := fun m h1 h2 h3 => by
    unfold fitsA
    rw [sortA_eq tn h1 h2]
    have h4 : m.length = (tickW w []).A.length := h1.length_eq.symm
    exact (fitF_iff m (w.Now + 1) (fun b hb => tok b (h1.mem_iff.2 hb)) (by omega) (by omega)).2 h3
  refine ⟨by rw [hpk], by rw [hwho], hT2, ?_⟩
  have eA : (tickW w []).A = (midW w []).1.A := rfl
  have hran : rd .ape (ranAs w.A a.ID) (atA w.A a.ID) = ranA a := by
    unfold ranAs upd
    rw [hrd, hat]
    simp [rd, hlt]
  have hmid := mid_once (w := w) (d := []) (by rw [hwho])
  rw [hleft, hwho] at hmid
  simp only at hmid
  cases hd : doneB w.A a.ID with
  | true =>
    rw [hd] at hmid
    simp only [cond_true] at hmid
    have e1 : (tickW w []).A = w.A.eraseIdx (atA w.A a.ID).toNat := by
      rw [eA, hmid]
      simp only [(noCur_A _).1]
      unfold ranAs upd
      exact List.eraseIdx_set_eq
    have hdone : a.Ran + 1 ≥ a.C := by
      unfold doneB at hd
      rw [hran] at hd
      have := of_decide_eq_true hd
      rw [hra] at this
      exact this
    have hr1 : remA a = 1 := by unfold remA; omega
    have hpm : (tickW w []).A.Perm l := by rw [e1]; exact hsub
    refine ⟨fin l hpm hs2 (by have := hF.2; rw [hr1] at this; exact this), ?_⟩
    rw [remS_perm hpm, hrem, hr1]
    omega
  | false =>
    rw [hd] at hmid
    simp only [cond_false] at hmid
    have e1 : (tickW w []).A = w.A.set (atA w.A a.ID).toNat (ranA a) := by
      rw [eA, hmid]
      simp only [(noCur_A _).1]
      unfold ranAs upd
      rw [hrd, hat]
    have hr1 : remA (ranA a) = remA a - 1 := by
      show a.C - (ranA a).Ran = a.C - a.Ran - 1
      rw [hra]
      omega
    have hpm : (tickW w []).A.Perm (ranA a :: l) := by
      rw [e1]
      have hlt2 : (atA w.A a.ID).toNat < (w.A.set (atA w.A a.ID).toNat (ranA a)).length := by rw [List.length_set]; exact hlt
      have := erase_perm hlt2
      rw [List.eraseIdx_set_eq, List.getElem_set_self] at this
      exact this.symm.trans (hsub.cons _)
    refine ⟨fin _ hpm (List.pairwise_cons.2 ⟨fun b hb => hs1 b hb, hs2⟩) ⟨?_, ?_⟩, ?_⟩
    · have := hF.1
      show w.Now + 1 + remA (ranA a) ≤ a.Due
      rw [hr1]
      omega
    · have := hF.2
      rw [hr1, show w.Now + 1 + (remA a - 1) = w.Now + remA a by omega]
      exact this
    · rw [remS_perm hpm, hrem]
      have : remS (ranA a :: l) = remA (ranA a) + remS l := by simp [remS]
      rw [this, hr1]
      omega
end Go.Fx
