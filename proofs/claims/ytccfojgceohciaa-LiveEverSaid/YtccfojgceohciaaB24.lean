import Derived.Test.YtccfojgceohciaaB23
/- Contracts: whether it is nowhere too much. -/
namespace Go.Fx
open Go Go.Proofs

/-! ### plain laws -/
theorem ofV_eq {x : Fu.Fix} {n : Int} (h : mayF x = true) (h0 : 0 ≤ n) (h1 : n ≤ 1099511627776) : ofV x n = x.S.C * cdiv (n / x.P * x.S.M) x.S.K := by
  obtain ⟨_, _, k1, k2, _⟩ := of_val h h0 h1
  obtain ⟨⟨a1, a2, a3, _⟩, a4, a5⟩ := perOK_iff.1 (mayF_per h)
  have hm : mayP x.S.M x.S.K = true := by simp [mayP]; omega
  have hj : inJ (n / x.P) = true := by simp [inJ]; omega
  unfold ofV mostV
  rw [h, decide_eq_true h0, decide_eq_true h1, hm, hj]
  rfl
theorem ofV_mono {x : Fu.Fix} {n n' : Int} (h : mayF x = true) (h0 : 0 ≤ n) (hn : n ≤ n') (h1 : n' ≤ 1099511627776) : ofV x n ≤ ofV x n' := by
  obtain ⟨⟨a1, a2, a3, _⟩, a4, a5⟩ := perOK_iff.1 (mayF_per h)
  rw [ofV_eq h h0 (by omega), ofV_eq h (by omega) h1]
  refine Int.mul_le_mul_of_nonneg_left (cdiv_mono (by omega) (Int.mul_le_mul_of_nonneg_right ?_ (by omega))) (by omega)
  exact Int.ediv_le_ediv (by omega) hn
theorem ofV_zero {x : Fu.Fix} (h : mayF x = true) : ofV x 0 = 0 := by
  obtain ⟨⟨a1, a2, a3, _⟩, a4, a5⟩ := perOK_iff.1 (mayF_per h)
  rw [ofV_eq h (Int.le_refl _) (by omega), Int.zero_ediv, Int.zero_mul, show cdiv 0 x.S.K = 0 from cdiv_unique (by omega) (by omega) (by omega), Int.mul_zero]
theorem lastE_spec {x : Fu.Fix} {n : Int} (h : mayF x = true) (h0 : 1 ≤ n) (h1 : n ≤ 5001) : 0 ≤ lastE n x ∧ lastE n x ≤ n - 1 ∧ ∀ d, lastE n x ≤ d → d ≤ n - 1 → d / x.P = (n - 1) / x.P := by
  have hp := perOK_P (mayF_per h)
  have e : lastE n x = x.P * ((n - 1) / x.P) := by unfold lastE; rw [h, decide_eq_true h0, decide_eq_true h1]; rfl
  have hd := Int.ediv_nonneg (show 0 ≤ n - 1 by omega) (show 0 ≤ x.P by omega)
  have hmod := Int.mul_ediv_add_emod (n - 1) x.P
  have hm0 := Int.emod_nonneg (n - 1) (show x.P ≠ 0 by omega)
  have hm1 := Int.emod_lt_of_pos (n - 1) (show 0 < x.P by omega)
  have hge : 0 ≤ x.P * ((n - 1) / x.P) := Int.mul_nonneg (by omega) hd
  refine ⟨by omega, by omega, fun d h2 h3 => ?_⟩
  have h4 : (n - 1) / x.P ≤ d / x.P := by rw [Int.le_ediv_iff_mul_le (by omega), Int.mul_comm]; omega
  have h5 : d / x.P ≤ (n - 1) / x.P := Int.ediv_le_ediv (by omega) h3
  omega
theorem foldl_max (n : Int) : ∀ (l : List Fu.Fix) (o : Int), o ≤ l.foldl (fun o x => max o (lastE n x)) o ∧ (∀ x ∈ l, lastE n x ≤ l.foldl (fun o x => max o (lastE n x)) o) ∧ ∀ b, o ≤ b → (∀ x ∈ l, lastE n x ≤ b) → l.foldl (fun o x => max o (lastE n x)) o ≤ b
  | [], o => ⟨Int.le_refl _, fun x hx => (by cases hx), fun b h _ => h⟩
  | y :: l, o => by
    obtain ⟨h1, h2, h3⟩ := foldl_max n l (max o (lastE n y))
    rw [List.foldl_cons]
    refine ⟨by omega, fun x hx => ?_, fun b h4 h5 => h3 b ?_ fun x hx => h5 x (List.mem_cons_of_mem _ hx)⟩
    · rcases List.mem_cons.1 hx with rfl | hx
      · omega
      · exact h2 x hx
    · have := h5 y (by simp); omega
theorem lastV_spec {l : List Fu.Fix} {n : Int} (h : ∀ x ∈ l, mayF x = true) (h0 : 1 ≤ n) (h1 : n ≤ 5001) : 0 ≤ lastV l n ∧ lastV l n ≤ n - 1 ∧ ∀ d, lastV l n ≤ d → d ≤ n - 1 → sumOf l d = sumOf l (lastV l n) := by
  obtain ⟨k1, k2, k3⟩ := foldl_max n l 0
  have hb : lastV l n ≤ n - 1 := k3 _ (by omega) fun x hx => (lastE_spec (h x hx) h0 h1).2.1
  refine ⟨k1, hb, fun d h2 h3 => ?_⟩
  unfold sumOf
  congr 1
  refine List.map_congr_left fun x hx => ?_
  have hx1 := lastE_spec (h x hx) h0 h1
  have hx2 := k2 x hx
  have h4 : lastE n x ≤ lastV l n := hx2
  have h5 : 0 ≤ lastV l n := k1
  rw [ofV_eq (h x hx) (by omega) (by omega), ofV_eq (h x hx) h5 (by omega), hx1.2.2 d (by omega) h3, hx1.2.2 (lastV l n) h4 hb]
theorem sumOf_mono {l : List Fu.Fix} {n n' : Int} (h : ∀ x ∈ l, mayF x = true) (h0 : 0 ≤ n) (hn : n ≤ n') (h1 : n' ≤ 1099511627776) : sumOf l n ≤ sumOf l n' := by
  induction l with
  | nil => exact Int.le_refl _
  | cons x l ih =>
    have h2 := ih fun y hy => h y (List.mem_cons_of_mem _ hy)
    have h3 := ofV_mono (h x (by simp)) h0 hn h1
    simp only [sumOf, List.map_cons, List.sum_cons] at *
    omega
theorem sumOf_zero {l : List Fu.Fix} (h : ∀ x ∈ l, mayF x = true) : sumOf l 0 = 0 := by
  induction l with
  | nil => rfl
  | cons x l ih =>
    have h2 := ih fun y hy => h y (List.mem_cons_of_mem _ hy)
    have h3 := ofV_zero (h x (by simp))
    simp only [sumOf, List.map_cons, List.sum_cons] at *
    omega
theorem sumOf_nonneg (l : List Fu.Fix) (n : Int) : 0 ≤ sumOf l n := by
  induction l with
  | nil => exact Int.le_refl _
  | cons x l ih =>
    have h3 := (ofV_range x n).1
    simp only [sumOf, List.map_cons, List.sum_cons] at *
    omega
theorem allV_eq {l : List Fu.Fix} (h : l.length ≤ 1000) (n : Int) : allV l n = sumOf l n := by
  unfold allV
  rw [decide_eq_false (by omega)]
  rfl
/-- Is it nowhere too much? -/
def testV (l : List Fu.Fix) : Bool := mayFs l && (List.range (hzV l).toNat).all fun d => decide (sumOf l d ≤ d)
theorem testV_iff {l : List Fu.Fix} : testV l = true ↔ mayFs l = true ∧ ∀ d : Int, 0 ≤ d → d < hzV l → sumOf l d ≤ d := by
  unfold testV
  rw [Bool.and_eq_true, List.all_eq_true]
  refine and_congr_right fun _ => ⟨fun h d h0 h1 => ?_, fun h d hd => ?_⟩
  · have := of_decide_eq_true (h d.toNat (List.mem_range.2 (by omega)))
    rwa [show ((d.toNat : Nat) : Int) = d by omega] at this
  · have := List.mem_range.1 hd
    exact decide_eq_true (h d (by omega) (by omega))
theorem hzV_range {l : List Fu.Fix} (h : mayFs l = true) : 0 ≤ hzV l ∧ hzV l ≤ 384 := by
  obtain ⟨h1, h2⟩ := mayFs_mem h
  unfold hzV
  rw [h]
  simp only [cond_true]
  have key : ∀ l : List Fu.Fix, (∀ x ∈ l, mayF x = true) → 0 ≤ (l.map fun x => x.S.C).sum ∧ (l.map fun x => x.S.C).sum ≤ 6 * l.length := by
    intro l
    induction l with
    | nil => intro _; simp
    | cons x l ih =>
      intro hl
      have h3 := ih fun y hy => hl y (List.mem_cons_of_mem _ hy)
      have h4 := (mayF_C (hl x (by simp))).2
      simp only [List.map_cons, List.sum_cons, List.length_cons]
      omega
  have := key l h2
  omega
/-- What is known when the test has come back to a time. -/
def InvT (x : List Fu.Fix × Int) : Prop := mayFs x.1 = true ∧ (0 ≤ x.2 ∧ x.2 ≤ 384) ∧ x.2 < max 1 (hzV x.1) ∧ ∀ d, x.2 < d → d < hzV x.1 → sumOf x.1 d ≤ d ∨ sumOf x.1 d = sumOf x.1 x.2
theorem invT_first {l : List Fu.Fix} (h : mayFs l = true) (h1 : 1 ≤ hzV l) : InvT (l, lastV l (hzV l)) := by
  obtain ⟨_, h2⟩ := mayFs_mem h
  have h3 := hzV_range h
  obtain ⟨k1, k2, k3⟩ := lastV_spec h2 h1 (by omega)
  exact ⟨h, ⟨k1, by simp only; omega⟩, by simp only; omega, fun d h4 h5 => .inr (k3 d (by simp only at h4; omega) (by simp only at h5; omega))⟩
theorem invT_zero {l : List Fu.Fix} {n : Int} (h : InvT (l, n)) (h0 : sumOf l n ≤ n) (h1 : sumOf l n = 0 ∨ n = 0) : testV l = true := by
  obtain ⟨h2, h3, _, h4⟩ := h
  simp only at h2 h3 h4
  obtain ⟨_, hm⟩ := mayFs_mem h2
  have hz : sumOf l n = 0 := by
    rcases h1 with h1 | h1
    · exact h1
    · rw [h1]; exact sumOf_zero hm
  refine testV_iff.2 ⟨h2, fun d h5 h6 => ?_⟩
  have hH := hzV_range h2
  rcases Int.lt_or_le n d with h7 | h7
  · rcases h4 d h7 h6 with h8 | h8 <;> omega
  · have := sumOf_mono hm h5 h7 (by omega)
    omega
theorem invT_over {l : List Fu.Fix} {n : Int} (h : InvT (l, n)) (h0 : n < sumOf l n) : testV l = false := by
  obtain ⟨h2, h3, h5, _⟩ := h
  simp only at h2 h3 h5
  obtain ⟨_, hm⟩ := mayFs_mem h2
  cases ht : testV l with
  | false => rfl
  | true =>
    have hn : 0 < n := by
      rcases Int.lt_or_le 0 n with h | h
      · exact h
      · have : n = 0 := by omega
        subst this
        rw [sumOf_zero hm] at h0; omega
    have := (testV_iff.1 ht).2 n (by omega) (by omega)
    omega
theorem invT_less {l : List Fu.Fix} {n : Int} (h : InvT (l, n)) (h0 : sumOf l n < n) (h1 : 0 < sumOf l n) : InvT (l, lastV l (sumOf l n + 1)) ∧ lastV l (sumOf l n + 1) < n := by
  obtain ⟨h2, h3, h5, h4⟩ := h
  simp only at h2 h3 h4 h5
  obtain ⟨_, hm⟩ := mayFs_mem h2
  have hH := hzV_range h2
  obtain ⟨k1, k2, k3⟩ := lastV_spec hm (n := sumOf l n + 1) (by omega) (by omega)
  refine ⟨⟨h2, ⟨k1, by simp only; omega⟩, by simp only; omega, fun d h6 h7 => ?_⟩, by omega⟩
  simp only at h6 h7
  rcases Int.lt_or_le n d with h8 | h8
  · rcases h4 d h8 h7 with h9 | h9
    · exact .inl h9
    · exact .inl (by show sumOf l d ≤ d; omega)
  · rcases Int.lt_or_le (sumOf l n) d with h9 | h9
    · have := sumOf_mono hm (n := d) (n' := n) (by omega) h8 (by omega)
      exact .inl (by show sumOf l d ≤ d; omega)
    · exact .inr (k3 d (by omega) (by omega))
theorem invT_eq {l : List Fu.Fix} {n : Int} (h : InvT (l, n)) (h0 : sumOf l n = n) (h1 : n ≠ 0) : InvT (l, lastV l n) ∧ lastV l n < n := by
  obtain ⟨h2, h3, h5, h4⟩ := h
  simp only at h2 h3 h4 h5
  obtain ⟨_, hm⟩ := mayFs_mem h2
  have hH := hzV_range h2
  obtain ⟨k1, k2, k3⟩ := lastV_spec hm (n := n) (by omega) (by omega)
  refine ⟨⟨h2, ⟨k1, by simp only; omega⟩, by simp only; omega, fun d h6 h7 => ?_⟩, by omega⟩
  simp only at h6 h7
  rcases Int.lt_or_le n d with h8 | h8
  · rcases h4 d h8 h7 with h9 | h9
    · exact .inl h9
    · exact .inl (by show sumOf l d ≤ d; omega)
  · rcases Int.lt_or_le d n with h9 | h9
    · exact .inr (k3 d (by omega) (by omega))
    · have : d = n := by omega
      exact .inl (by show sumOf l d ≤ d; rw [this]; omega)

/-! ### demand.Test -/
def TT (x : List Fu.Fix × Int) : St := ⟨puts (J 40) [(0, .view .fix x.1), (3, .int .i64 x.2)], [], 0⟩
def sT : List Sh := sets (Js 40) [(0, .keep), (3, .int)]
def eT : List Sh := sets (Js 40) [(2, .bool)]
def ET (b : Bool) : Ex × St := (.ret, ⟨puts (J 40) [(2, .bool b)], [], 0⟩)
def smallF (l : List Fu.Fix) (n : Int) : Prop := (l.length : Int) < 17592186044416 ∧ -1099511627776 ≤ n ∧ n ≤ 1099511627776
theorem bT (l : List Fu.Fix) (n : Int) : roundJ c86 60 32 (restAt c86.P 32 0) (norm2 0 [] [] sT) (norm2 0 [] [] eT) (TT (l, n)) =
    .ite (n == 0) (.ret (ET true)) (.ite (decide (allV l n > n)) (.ret (ET false)) (.ite (decide (allV l n < n) && decide (allV l n > 0)) (.asrt (smallF l (IntKind.i64.wrap (allV l n + 1))) (.ret (.goto 0, TT (l, lastV l (IntKind.i64.wrap (allV l n + 1))))))
      (.ite (allV l n == n) (.asrt (smallF l n) (.ret (.goto 0, TT (l, lastV l n)))) (.ret (ET true))))) := by kernel_rfl
def gT (σ : St) : Option (List Fu.Fix × Int) :=
  match nth σ.tmps 0, nth σ.tmps 3 with
  | .view .fix l, .int .i64 n => some (l, n)
  | _, _ => none
def LxT (x : List Fu.Fix × Int) : Tree (Ex × St) := .asrt (InvT x) (.ret (ET (testV x.1)))
def LT : LoopCon := entry 0 (norm2 0 [] [] sT) TT gT LxT
theorem lT (hs : SubOf c86.P 32 (restAt c86.P 32 0)) : SoundJump c86 (restAt c86.P 32 0) 0 LT := by
  refine jump_rule3 (C := c86) (g := 32) (l := 0) c86_good 60 0 _ _ (Weak.norm2 0 [] [] sT) (Weak.norm2 0 [] [] eT) hs TT LxT (fun x => x.2.toNat) (fun x q h => ?_) entry_out
  obtain ⟨l, n⟩ := x
  obtain ⟨hI, h⟩ := Tree.out_asrt.1 h
  have h' : ET (testV l) = q := h
  subst h'
  have hI' := hI
  obtain ⟨h2, h3, _, _⟩ := hI'
  simp only at h2 h3
  obtain ⟨hlen, hm⟩ := mayFs_mem h2
  refine .of_eq (bT l n) ?_
  rw [allV_eq (show l.length ≤ 1000 by omega)]
  have hs0 := sumOf_nonneg l n
  refine Tree.wp_ite.2 ⟨fun hz => ?_, fun hz => Tree.wp_ite.2 ⟨fun ho => ?_, fun ho => Tree.wp_ite.2 ⟨fun hl => ?_, fun hl => Tree.wp_ite.2 ⟨fun he => ?_, fun he => ?_⟩⟩⟩⟩
  · have hz : n = 0 := by simpa using hz
    have := invT_zero hI (by rw [hz, sumOf_zero hm]; exact Int.le_refl _) (.inr hz)
    show (_, _) = _
    rw [this]
    rfl
  · have := invT_over hI (of_decide_eq_true ho)
    show (_, _) = _
    rw [this]
    rfl
  · simp only [Bool.and_eq_true, decide_eq_true_eq] at hl
    obtain ⟨k1, k2⟩ := invT_less hI hl.1 hl.2
    rw [wrap_fits (by omega) (by omega)]
    have k3 := k1.2.1
    simp only at k3
    exact ⟨⟨by omega, by omega, by omega⟩, rfl, (l, lastV l (sumOf l n + 1)), rfl, by simp only; omega, k1, rfl⟩
  · have he : sumOf l n = n := by simpa using he
    have hz : n ≠ 0 := by simpa using hz
    obtain ⟨k1, k2⟩ := invT_eq hI he hz
    have k3 := k1.2.1
    simp only at k3
    exact ⟨⟨by omega, by omega, by omega⟩, rfl, (l, lastV l n), rfl, by simp only; omega, k1, rfl⟩
  · have he : sumOf l n ≠ n := by simpa using he
    have ho := of_decide_eq_false ho
    simp only [Bool.and_eq_false_iff, decide_eq_false_iff_not] at hl
    have := invT_zero hI (by omega) (.inl (by omega))
    show (_, _) = _
    rw [this]
    rfl
noncomputable def c87 : Cfg := c86.addJump 32 0 LT
theorem c87_good : GoodCfg c87 := c86_good.addJump ⟨by kernel_rfl, by kernel_rfl⟩ lT
def passT (l : List Fu.Fix) (n : Int) : Tree (AV × List Blk) :=
  .ite (n == 0) (.ret (.blit true, [])) (.ite (decide (allV l n > n)) (.ret (.blit false, [])) (.ite (decide (allV l n < n) && decide (allV l n > 0)) (.asrt (smallF l (IntKind.i64.wrap (allV l n + 1)))
      (.asrt (0 = 0 ∧ TT (l, lastV l (IntKind.i64.wrap (allV l n + 1))) = TT (l, lastV l (IntKind.i64.wrap (allV l n + 1)))) (.asrt (InvT (l, lastV l (IntKind.i64.wrap (allV l n + 1)))) (.ret (.bool (testV l), [])))))
      (.ite (allV l n == n) (.asrt (smallF l n) (.asrt (0 = 0 ∧ TT (l, lastV l n) = TT (l, lastV l n)) (.asrt (InvT (l, lastV l n)) (.ret (.bool (testV l), []))))) (.ret (.blit true, [])))))
def testT (l : List Fu.Fix) : Tree (AV × List Blk) :=
  .asrt ((l.length : Int) < 17592186044416) (.ite (!mayFs l) (.ret (.blit false, [])) (.asrt ((l.length : Int) < 17592186044416) (.asrt (smallF l (hzV l)) (passT l (lastV l (hzV l))))))
theorem fTest (l : List Fu.Fix) : callC c87 60 32 [.view .fix l] = testT l := by kernel_rfl
theorem hzV_zero {l : List Fu.Fix} (h : mayFs l = true) (h0 : hzV l ≤ 0) : l = [] := by
  obtain ⟨_, hm⟩ := mayFs_mem h
  unfold hzV at h0
  rw [h] at h0
  cases l with
  | nil => rfl
  | cons x l =>
    have key : ∀ l : List Fu.Fix, (∀ x ∈ l, mayF x = true) → 0 ≤ (l.map fun x => x.S.C).sum := by
      intro l
      induction l with
      | nil => intro _; simp
      | cons x l ih =>
        intro hl
        have h3 := ih fun y hy => hl y (List.mem_cons_of_mem _ hy)
        have h4 := (mayF_C (hl x (by simp))).2
        simp only [List.map_cons, List.sum_cons]
        omega
    have h1 := key l fun y hy => hm y (List.mem_cons_of_mem _ hy)
    have h2 := (perOK_P (mayF_per (hm x (by simp))))
    simp only [cond_true, List.map_cons, List.sum_cons] at h0
    omega
theorem invT_begin {l : List Fu.Fix} (h : mayFs l = true) : InvT (l, lastV l (hzV l)) := by
  rcases Int.lt_or_le 0 (hzV l) with h1 | h1
  · exact invT_first h (by omega)
  · have := hzV_zero h h1
    subst this
    have e : hzV [] = 0 := by have := (hzV_range h).1; omega
    refine ⟨h, ⟨Int.le_refl _, by show (0 : Int) ≤ 384; omega⟩, by show (0 : Int) < _; omega, fun d _ h3 => ?_⟩
    simp only [e] at h3
    rename_i h2
    have h2' : (0 : Int) < d := h2
    omega
theorem passT_rez {l : List Fu.Fix} {n : Int} (hI : InvT (l, n)) : Rez (passT l n) (.bool (testV l), []) := by
  have hI' := hI
  obtain ⟨h2, h3, _, _⟩ := hI'
  simp only at h2 h3
  obtain ⟨hlen, hm⟩ := mayFs_mem h2
  unfold passT
  rw [allV_eq (show l.length ≤ 1000 by omega)]
  have hs0 := sumOf_nonneg l n
  refine ite_rez (fun hz => ?_) fun hz => ite_rez (fun ho => ?_) fun ho => ite_rez (fun hl => ?_) fun hl => ite_rez (fun he => ?_) fun he => ?_
  · have hz : n = 0 := by simpa using hz
    exact .ret (.blit (invT_zero hI (by rw [hz, sumOf_zero hm]; exact Int.le_refl _) (.inr hz)).symm) rfl
  · exact .ret (.blit (invT_over hI (of_decide_eq_true ho)).symm) rfl
  · simp only [Bool.and_eq_true, decide_eq_true_eq] at hl
    obtain ⟨k1, k2⟩ := invT_less hI hl.1 hl.2
    rw [wrap_fits (by omega) (by omega)]
    exact .asrt ⟨by omega, by omega, by omega⟩ (.asrt ⟨rfl, rfl⟩ (.asrt k1 (.ret (.refl _) rfl)))
  · have he : sumOf l n = n := by simpa using he
    have hz : n ≠ 0 := by simpa using hz
    obtain ⟨k1, k2⟩ := invT_eq hI he hz
    exact .asrt ⟨by omega, by omega, by omega⟩ (.asrt ⟨rfl, rfl⟩ (.asrt k1 (.ret (.refl _) rfl)))
  · have he : sumOf l n ≠ n := by simpa using he
    have ho := of_decide_eq_false ho
    simp only [Bool.and_eq_false_iff, decide_eq_false_iff_not] at hl
    exact .ret (.blit (invT_zero hI (by omega) (.inl (by omega))).symm) rfl
theorem testT_rez {l : List Fu.Fix} (hl : (l.length : Int) < 17592186044416) : Rez (testT l) (.bool (testV l), []) := by
  refine .asrt hl (ite_rez (fun hm => noB_rez ?_) fun hm => .asrt hl (.asrt ?_ (passT_rez (invT_begin (by simpa using hm)))))
  · unfold testV
    rw [show mayFs l = false by simpa using hm]
    rfl
  · have := hzV_range (l := l) (by simpa using hm)
    exact ⟨hl, by omega, by omega⟩
def conTest : Con := flatCon (d1 (dView .fix)) (fun l => (l.length : Int) < 17592186044416) fun l => .bool (testV l)
theorem conTest_valid : ValidCon c87.P 32 conTest := flatCon_valid c87_good 60 (by kernel_rfl) fun l h => ⟨_, fTest l, testT_rez h⟩
noncomputable def c88 : Cfg := c87.addQuiet 32 conTest
theorem c88_good : GoodCfg c88 := c87_good.addQuiet conTest_valid flatCon_quiet

end Go.Fx
