import Derived.Test.YtccfojgceohciaaPlF
/- Plain laws: who has less to do comes to where nobody must no later. -/
namespace Go.Fx
open Go

/-- What of a task its jobs do not change. -/
abbrev Stat := Fu.Spec × Int × Int × Int
def statOf (x : Fu.Live) : Stat := (x.S, x.P, x.At, x.N)
/-- The job that begins. -/
def freshJ (t : Int) (s : Stat) : Fu.Job := newJ s.1 s.2.2.2 t (t + s.2.1) s.1.C
def wkJ (D : Int) (j : Fu.Job) : Int := bif decide (j.Due ≤ D) then leftM j else 0
theorem wk_J (D : Int) (x : Fu.Live) : wk D x = wkJ D x.J := rfl
theorem wkJ_nonneg {j : Fu.Job} (h : JP j) (D : Int) : 0 ≤ wkJ D j := by
  unfold wkJ
  cases decide (j.Due ≤ D) with
  | true => exact leftM_nonneg h
  | false => exact Int.le_refl _
/-- What goes on, and what begins. -/
def oldW (D t : Int) (x : Fu.Live) : Int := bif decide (x.At ≤ t) then 0 else wk D x
def newW (D t : Int) (s : Stat) : Int := bif decide (s.2.2.1 ≤ t) then wkJ D (freshJ t s) else 0
def AW (l : List Fu.Live) (t D : Int) : Int := (l.map (oldW D t)).sum
def BW (l : List Fu.Live) (t D : Int) : Int := ((l.map statOf).map (newW D t)).sum
theorem jp_new (s : Fu.Spec) (n r d c : Int) : JP (newJ s n r d c) := by
  unfold newJ
  cases hm : mayJ s (jobOf s n r d c) with
  | false => exact .inl rfl
  | true =>
    have := of_decide_eq_true hm
    rcases this.2 with h | h
    · cases h.1
    · exact .inr ⟨h.1, h.2.2.2.2.2.1⟩
theorem newW_nonneg (D t : Int) (s : Stat) : 0 ≤ newW D t s := by
  unfold newW
  cases decide (s.2.2.1 ≤ t) with
  | true => exact wkJ_nonneg (jp_new _ _ _ _ _) D
  | false => exact Int.le_refl _
theorem oldW_nonneg {x : Fu.Live} (h : JP x.J) (D t : Int) : 0 ≤ oldW D t x := by
  unfold oldW
  cases decide (x.At ≤ t) with
  | true => exact Int.le_refl _
  | false => exact wk_nonneg h D
theorem W_begin (l : List Fu.Live) (t D : Int) : W (beginAll l t) D = AW l t D + BW l t D := by
  induction l with
  | nil => rfl
  | cons x l ih =>
    have h : wk D (beginL t x) = oldW D t x + newW D t (statOf x) := by
      rw [wk_J]
      unfold beginL oldW newW statOf
      simp only
      cases decide (x.At ≤ t) with
      | true => simp only [cond_true]; rw [Int.zero_add]; rfl
      | false => simp only [cond_false]; rw [Int.add_zero]; rfl
    simp only [W, AW, BW, beginAll, List.map_cons, List.sum_cons] at *
    omega
theorem sum_sub {α : Type} {f : α → Int} {l l' : List α} (h : List.Sublist l' l) (hf : ∀ x ∈ l, 0 ≤ f x) : (l'.map f).sum ≤ (l.map f).sum := by
  induction h with
  | slnil => exact Int.le_refl _
  | @cons l1 l2 a _ ih =>
    have h1 := ih fun x hx => hf x (List.mem_cons_of_mem _ hx)
    have h2 := hf a (by simp)
    simp only [List.map_cons, List.sum_cons]
    omega
  | @cons_cons l1 l2 a _ ih =>
    have h1 := ih fun x hx => hf x (List.mem_cons_of_mem _ hx)
    simp only [List.map_cons, List.sum_cons]
    omega

/-! ### what stays -/
def statB (t : Int) (s : Stat) : Stat := bif decide (s.2.2.1 ≤ t) then (s.1, s.2.1, t + s.2.1, s.2.2.2 + 1) else s
theorem stat_begin (t : Int) (x : Fu.Live) : statOf (beginL t x) = statB t (statOf x) := by
  unfold beginL statB statOf
  simp only
  cases decide (x.At ≤ t) <;> rfl
theorem stat_run (l : List Fu.Live) : (runFirst l).map statOf = l.map statOf := by
  unfold runFirst
  rcases firstL_range l with hf | ⟨h0, h1⟩
  · rw [hf]; rfl
  · rw [show (firstL l == -1) = false by simp; omega]
    simp only [cond_false]
    obtain ⟨pre, suf, h2, h3⟩ := split_at h0 h1
    have e : ∀ y : Fu.Live, statOf { rd .live l (firstL l) with J := y.J } = statOf (rd .live l (firstL l)) := fun _ => rfl
    have e2 := e { rd .live l (firstL l) with J := stepJ (jobAt l (firstL l)) }
    generalize ({ rd .live l (firstL l) with J := stepJ (jobAt l (firstL l)) } : Fu.Live) = z at e2 ⊢
    generalize rd .live l (firstL l) = y at h2 e2
    rw [← h3]
    conv => lhs; rw [h2]
    rw [upd_mid (r := .live)]
    conv => rhs; rw [h2]
    simp only [List.map_append, List.map_cons]
    rw [show statOf z = statOf y from e2]
theorem stat_end (l : List Fu.Live) (t : Int) : (l.map (endL t)).map statOf = l.map statOf := by
  rw [List.map_map]
  rfl
theorem stat_beginAll (l : List Fu.Live) (t : Int) : (beginAll l t).map statOf = (l.map statOf).map (statB t) := by
  unfold beginAll
  rw [List.map_map, List.map_map]
  exact List.map_congr_left fun x _ => stat_begin t x

/-! ### one time -/
/-- Behind one time all that is there goes on. -/
theorem AW_end {b : Int} {L : List Fu.Live} {t : Int} (h : ∀ x ∈ L, LiveB b x t) (D : Int) : AW (L.map (endL (t + 1))) (t + 1) D = W (L.map (endL (t + 1))) D := by
  induction L with
  | nil => rfl
  | cons x l ih =>
    have h1 := ih fun y hy => h y (List.mem_cons_of_mem _ hy)
    have h2 : oldW D (t + 1) (endL (t + 1) x) = wk D (endL (t + 1) x) := by
      unfold oldW
      cases hd : decide ((endL (t + 1) x).At ≤ t + 1) with
      | false => rfl
      | true =>
        have hd : x.At ≤ t + 1 := of_decide_eq_true hd
        have hz : (endL (t + 1) x).J = zeroJ := by
          obtain ⟨_, _, _, hj⟩ := h x (by simp)
          unfold endL atJ overJ
          simp only
          rcases hj with hj | ⟨k1, _, _, k2, _⟩
          · rw [hj]; rfl
          · rw [k1, decide_eq_true (by omega)]; rfl
        rw [wk_J, hz]
        simp only [cond_true]
        unfold wkJ
        rw [show leftM zeroJ = 0 from rfl]
        cases decide (zeroJ.Due ≤ D) <;> rfl
    simp only [W, AW, List.map_cons, List.sum_cons] at *
    omega
theorem AllB.jp {b : Int} {l : List Fu.Live} {t : Int} (h : AllB b l t) : ∀ x ∈ l, JP x.J := fun x hx => (h.2 x hx).2.2.2.jp
theorem AllI.jp {b : Int} {l : List Fu.Live} {t : Int} (h : AllI b l t) : ∀ x ∈ l, JP x.J := fun x hx => (h.2 x hx).2.2.2.jp
/-- Where less must be done ahead of the run, less must be behind it, and none is missed. -/
theorem dom_step {b b' : Int} {B' l : List Fu.Live} {t : Int} (hB : AllB b (beginAll l t) t) (hB' : AllB b' B' t) (hw : ∀ D, W B' D ≤ W (beginAll l t) D) (hm : missedL l t = false) :
    (runFirst B').any (missL (t + 1)) = false ∧ (∀ D, W ((runFirst B').map (endL (t + 1))) D ≤ W (stepL l t) D) ∧ (∀ D, AW ((runFirst B').map (endL (t + 1))) (t + 1) D ≤ AW (stepL l t) (t + 1) D) := by
  have hr := run_mono hB.jp hB'.jp hw
  have j1 := jp_run hB.jp
  have j2 := jp_run hB'.jp
  have hm' : (runFirst B').any (missL (t + 1)) = false := by
    rw [miss_iff j2]
    have h1 : W (runFirst (beginAll l t)) (t + 1) = 0 := (miss_iff j1).1 hm
    have h2 := hr (t + 1)
    have h3 := W_nonneg j2 (t + 1)
    omega
  have hW : ∀ D, W ((runFirst B').map (endL (t + 1))) D ≤ W (stepL l t) D := fun D => by
    unfold stepL
    rw [W_end j2 hm', W_end j1 hm]
    exact hr D
  refine ⟨hm', hW, fun D => ?_⟩
  have := hW D
  unfold stepL at this ⊢
  rw [AW_end (runFirst_all hB').2, AW_end (runFirst_all hB).2]
  exact this
theorem BW_sub {l l' : List Fu.Live} (h : List.Sublist (l'.map statOf) (l.map statOf)) (t D : Int) : BW l' t D ≤ BW l t D := sum_sub h fun s _ => newW_nonneg D t s
/-- Has less to do. -/
def Less (l' l : List Fu.Live) (t : Int) : Prop := List.Sublist (l'.map statOf) (l.map statOf) ∧ (∀ D, AW l' t D ≤ AW l t D)
theorem Less.begin {l' l : List Fu.Live} {t : Int} (h : Less l' l t) (D : Int) : W (beginAll l' t) D ≤ W (beginAll l t) D := by
  rw [W_begin, W_begin]
  have h1 := h.2 D
  have h2 := BW_sub h.1 t D
  omega
theorem look_le : ∀ (k : Nat) (l : List Fu.Live) (t : Int), t ≤ (lookR k l t).1 ∧ (lookR k l t).1 ≤ t + k
  | 0, _, _ => by simp [lookR]
  | k + 1, l, t => by
    unfold lookR
    have h := look_le k (stepL l t) (t + 1)
    cases idleL l with
    | true => simp only [cond_true]; omega
    | false =>
      cases missedL l t with
      | true => simp only [cond_false, cond_true]; omega
      | false => simp only [cond_false]; omega
theorem less_look : ∀ (k : Nat) (b : Int) (l l' : List Fu.Live) (t n : Int), AllI b l t → AllI b l' t → 0 ≤ t → t + k ≤ 1099511627000 → b + k ≤ 1099511627776 → Less l' l t → (idleL l = true → idleL l' = true) → lookR k l t = (n, true) →
    ∃ m, lookR k l' t = (m, true) ∧ t ≤ m ∧ m ≤ n
  | 0, _, _, _, _, _, _, _, _, _, _, _, _, h => by simp [lookR] at h
  | k + 1, b, l, l', t, n, hA, hA', h0, h1, hb, hl, hi, h => by
    have hle := look_le (k + 1) l t
    rw [h] at hle
    simp only at hle
    unfold lookR at h ⊢
    cases hi' : idleL l' with
    | true => exact ⟨t, rfl, Int.le_refl _, hle.1⟩
    | false =>
      cases hi2 : idleL l with
      | true => rw [hi hi2] at hi'; cases hi'
      | false =>
        cases hm : missedL l t with
        | true => rw [hi2, hm] at h; simp at h
        | false =>
          rw [hi2, hm] at h
          simp only [cond_false] at h
          have hB := begin_all hA h0 (by omega) (by omega)
          have hB' := begin_all hA' h0 (by omega) (by omega)
          obtain ⟨k1, k2, k3⟩ := dom_step hB hB' hl.begin hm
          have hS := step_all hA h0 (by omega) (by omega)
          have hS' := step_all hA' h0 (by omega) (by omega)
          have hs : Less (stepL l' t) (stepL l t) (t + 1) := by
            refine ⟨?_, k3⟩
            unfold stepL
            rw [stat_end, stat_end, stat_run, stat_run, stat_beginAll, stat_beginAll]
            exact hl.1.map _
          have hid : idleL (stepL l t) = true → idleL (stepL l' t) = true := fun h5 => (idle_W hS'.jp).2 fun D => by
            have h6 := (idle_W hS.jp).1 h5 D
            have h7 : W (stepL l' t) D ≤ W (stepL l t) D := k2 D
            have h8 := W_nonneg hS'.jp D
            omega
          obtain ⟨m, m1, m2, m3⟩ := less_look k (b + 1) _ _ (t + 1) n hS hS' (by omega) (by omega) (by omega) hs hid h
          refine ⟨m, ?_, by omega, m3⟩
          rw [show missedL l' t = false from k1]
          exact m1
/-- Without some of the tasks. -/
theorem less_sub {l l' : List Fu.Live} (h : List.Sublist l' l) (hj : ∀ x ∈ l, JP x.J) (t : Int) : Less l' l t ∧ (idleL l = true → idleL l' = true) :=
  ⟨⟨h.map _, fun D => sum_sub h fun x hx => oldW_nonneg (hj x hx) D t⟩, fun hi => idle_iff.2 fun x hx => idle_iff.1 hi x (h.subset hx)⟩
theorem mayL_sub {l l' : List Fu.Live} {now : Int} (h : List.Sublist l' l) (hm : mayL l now = true) : mayL l' now = true := by
  obtain ⟨h1, h2, h3⟩ := mayL_iff.1 hm
  exact mayL_iff.2 ⟨Nat.le_trans h.length_le h1, h2, fun x hx => h3 x (h.subset hx)⟩
theorem look_less {l l' : List Fu.Live} {now n : Int} (h : List.Sublist l' l) (hl : lookL l now = (n, true)) : ∃ m, lookL l' now = (m, true) ∧ now ≤ m ∧ m ≤ n := by
  unfold lookL at hl
  cases hm : mayL l now with
  | false => rw [hm] at hl; cases hl
  | true =>
    rw [hm] at hl
    obtain ⟨h1, h2, h3⟩ := mayL_all hm
    have hm' := mayL_sub h hm
    obtain ⟨h4, h5⟩ := less_sub h h1.jp now
    unfold lookL
    rw [hm']
    exact less_look 2000 _ l l' now n h1 (mayL_all hm').1 h2 (by omega) (by omega) h4 h5 hl

end Go.Fx
