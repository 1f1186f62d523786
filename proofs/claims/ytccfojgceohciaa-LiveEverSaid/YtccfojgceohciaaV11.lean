import Derived.Test.YtccfojgceohciaaV10
import Derived.Test.YtccfojgceohciaaPlH
/- The law LiveSoon. -/
namespace Go.Fx
open Go Go.Proofs

abbrev AY := List Fu.Live × Int × Int
def TY (x : AY × Int) : St := ⟨puts (J 71) [(0, .view .live x.1.1), (1, .int .i64 x.1.2.1), (4, .blit false), (6, .int .i64 x.1.2.2), (7, .int .i64 x.2)], [], 0⟩
def sY : List Sh := sets (Js 71) [(0, .keep), (1, .keep), (4, .keep), (6, .int), (7, .int)]
def eY : List Sh := sets (Js 71) [(0, .keep), (1, .keep), (6, .int)]
def EY (x : AY) : Ex × St := (.exit 0, ⟨puts (J 71) [(0, .view .live x.1), (1, .int .i64 x.2.1), (6, .int .i64 x.2.2)], [], 0⟩)
theorem bY (x : AY) (i : Int) : roundN c90 60 9 (loopAt c90.P 9 6) (norm2 0 [] [] sY) (norm2 0 [] [] eY) (TY (x, i)) =
    .ite (decide (i < x.1.length)) (.asrt (0 ≤ i ∧ i < x.1.length) (.asrt ((rd .live x.1 i).J.Mand = true → 0 ≤ i ∧ i < x.1.length) (.asrt ((rd .live x.1 i).J.Mand = true → smallC (rd .live x.1 i).J)
      (.ret (.normal, TY ((x.1, x.2.1, bif (rd .live x.1 i).J.Mand then IntKind.i64.wrap (x.2.2 + worst (rd .live x.1 i).J) else x.2.2), IntKind.i64.wrap (i + 1))))))) (.ret (EY x)) := by kernel_rfl

def gY (σ : St) : Option (AY × Int) :=
  match nth σ.tmps 0, nth σ.tmps 1, nth σ.tmps 6, nth σ.tmps 7 with
  | .view .live l, .int .i64 n, .int .i64 r, .int .i64 i => some ((l, n, r), i)
  | _, _, _, _ => none
def mandW (x : Fu.Live) : Int := bif x.J.Mand then worst x.J else 0
def nxtY (x : AY) (i : Int) : AY := (x.1, x.2.1, x.2.2 + mandW (rd .live x.1 i))
def okY (x : AY) (i : Int) : Prop := smallC (rd .live x.1 i).J ∧ 0 ≤ x.2.2 ∧ x.2.2 ≤ 1099511627776
def LY : LoopCon := boundF 0 (norm2 0 [] [] sY) TY gY (fun x => x.1.length) okY nxtY EY
theorem lY (hs : SubOf c90.P 9 (.loop (loopAt c90.P 9 6))) : SoundLoop c90 (loopAt c90.P 9 6) LY :=
  bound_fold (C := c90) (g := 9) (l := 6) c90_good 60 0 _ _ (Weak.norm2 0 [] [] sY) (Weak.norm2 0 [] [] eY) hs TY gY (fun x => x.1.length) okY nxtY EY
    (fun _ => by intro h; cases h) (fun _ _ => rfl)
    (fun x i h0 hi hm hok => .of_eq (bY x i) (by
      unfold maxI64 at hm
      obtain ⟨h1, h2, h3⟩ := hok
      have hw := worst_small h1
      have a : 0 ≤ i ∧ i < (x.1.length : Int) := ⟨h0, hi⟩
      rw [wrap_fits (n := i + 1) (by omega) (by omega), wrap_fits (n := x.2.2 + worst (rd .live x.1 i).J) (by omega) (by omega)]
      refine (Tree.out_ite_true (decide_eq_true hi)).2 ⟨a, fun _ => a, fun _ => h1, ?_⟩
      unfold nxtY mandW
      cases (rd .live x.1 i).J.Mand with
      | true => rfl
      | false => simp only [cond_false]; rw [Int.add_zero]; rfl))
    (fun x i hi => .of_eq (bY x i) ((Tree.out_ite_false (decide_eq_false (by omega))).2 rfl))
noncomputable def c91 : Cfg := c90.addLoop 9 6 LY
theorem c91_good : GoodCfg c91 := c90_good.addLoop (by unfold OneLoop; kernel_rfl) lY

def yF (l : List Fu.Live) (now : Int) : AY := foldI nxtY ((l.length : Int) - 0).toNat (l, now, 0) 0
def soonE (L : List Fu.Live) (N R : Int) : Tree (AV × List Blk) :=
  .asrt (smallL L) (.asrt (decide ((lookL L N).1 ≥ N) = true → boundL L) (.asrt (decide ((lookL L N).1 ≥ N) = true → ((L.map fixOf).length : Int) < 17592186044416)
    (.ret (.bool (decide ((lookL L N).1 ≥ N) && (decide ((lookL L N).1 ≤ IntKind.i64.wrap (N + planB (L.map fixOf) R)) && decide ((lookL L N).1 < IntKind.i64.wrap (N + 2000)))), []))))
def soonT (l : List Fu.Live) (now : Int) : Tree (AV × List Blk) :=
  .asrt (smallL l) (.asrt ((!mayL l now) = false → boundL l) (.asrt ((!mayL l now) = false → ((l.map fixOf).length : Int) < 17592186044416) (.ite (!mayL l now || !mayFs (l.map fixOf)) (.ret (.blit true, []))
    (.asrt (0 = 0 ∧ TY ((l, now, 0), 0) = TY ((l, now, 0), 0)) (.asrt (0 ≤ (0 : Int) ∧ (l.length : Int) ≤ maxI64 ∧ okI nxtY (fun _ _ => (none : Option Unit)) okY ((l.length : Int) - 0).toNat (l, now, 0) 0)
      (soonE (yF l now).1 (yF l now).2.1 (yF l now).2.2))))))
theorem fSoon (l : List Fu.Live) (now : Int) : callC c91 60 9 [.view .live l, .int .i64 now] = soonT l now := by kernel_rfl


/-! ### the law -/
theorem mandW_le {b : Int} {x : Fu.Live} {t : Int} (h : LiveI b x t) (D : Int) : 0 ≤ mandW x ∧ mandW x ≤ 6 ∧ wk D x ≤ mandW x := by
  have hp := perOK_P h.1
  have hj := h.2.2.2.jp
  have hl := leftM_nonneg hj
  unfold mandW
  have hw : wk D x ≤ leftM x.J := by
    unfold wk
    cases decide (x.J.Due ≤ D) with
    | true => exact Int.le_refl _
    | false => exact hl
  rcases h.2.2.2 with h1 | ⟨h1, _, _, _, h5, _, h7, _⟩
  · have e : leftM x.J = 0 := by rw [h1]; rfl
    rw [e] at hw
    have e2 : x.J.Mand = false := by rw [h1]; rfl
    rw [e2]
    exact ⟨Int.le_refl _, (by show (0 : Int) ≤ 6; omega), hw⟩
  · unfold leftM at hw
    rw [h1] at hw
    cases hm : x.J.Mand with
    | false => rw [hm] at hw; exact ⟨Int.le_refl _, (by show (0 : Int) ≤ 6; omega), hw⟩
    | true =>
      rw [hm] at hw
      simp only [Bool.and_self, cond_true] at hw ⊢
      unfold worst
      rw [h1]
      simp only [cond_true]
      omega
def sumM (l : List Fu.Live) : Int := (l.map mandW).sum
theorem foldY {l : List Fu.Live} {now : Int} (h : ∀ x ∈ l, smallC x.J ∧ 0 ≤ mandW x ∧ mandW x ≤ 6) (k : Nat) : ∀ (r i : Int), 0 ≤ i → i + k = l.length → 0 ≤ r → r + k * 6 ≤ 1099511627776 →
    okI nxtY (fun _ _ => (none : Option Unit)) okY k (l, now, r) i ∧ foldI nxtY k (l, now, r) i = (l, now, r + sumM (l.drop i.toNat)) ∧ 0 ≤ sumM (l.drop i.toNat) ∧ sumM (l.drop i.toNat) ≤ 6 * k := by
  induction k with
  | zero =>
    intro r i h0 h1 h2 h3
    rw [drop_end (by omega)]
    exact ⟨trivial, by simp [foldI, sumM], by simp [sumM], by simp [sumM]⟩
  | succ k ih =>
    intro r i h0 h1 h2 h3
    have hd := drop_rd (r := .live) (xs := l) h0 (by omega)
    have hx := h _ (rd_mem h0 (show i < (l.length : Int) by omega))
    have hok : okY (l, now, r) i := ⟨hx.1, h2, by show r ≤ 1099511627776; omega⟩
    obtain ⟨k1, k2, k3, k4⟩ := ih (r + mandW (rd .live l i)) (i + 1) (by omega) (by omega) (by omega) (by omega)
    have e : sumM (l.drop i.toNat) = mandW (rd .live l i) + sumM (l.drop (i + 1).toNat) := by rw [hd]; simp [sumM]
    refine ⟨⟨hok, fun _ => k1⟩, ?_, by omega, by omega⟩
    unfold foldI
    refine k2.trans ?_
    rw [e, ← Int.add_assoc]
theorem W_sumM {b : Int} {t : Int} (D : Int) : ∀ l : List Fu.Live, (∀ x ∈ l, LiveI b x t) → W l D ≤ sumM l
  | [], _ => Int.le_refl _
  | x :: l, h => by
    have ih := W_sumM D l fun y hy => h y (List.mem_cons_of_mem _ hy)
    have h2 := (mandW_le (h x (by simp)) D).2.2
    simp only [W, sumM, List.map_cons, List.sum_cons] at *
    omega
theorem sum_units {l : List Fu.Live} (h : mayFs (l.map fixOf) = true) : (l.map fun x => unitsV x.S x.P).sum ≤ 983040 := by
  unfold mayFs fitsV sumV at h
  simp only [Bool.and_eq_true, decide_eq_true_eq] at h
  obtain ⟨_, _, h1, h2⟩ := h
  cases hc : (decide ((((l.map fixOf).map unitF).length : Int) > 1000) || ((l.map fixOf).map unitF).any outU) with
  | true => rw [hc] at h1; cases h1
  | false =>
    rw [hc] at h2
    rw [List.map_map] at h2
    exact h2
theorem sumC_le {l : List Fu.Live} (h : ∀ x ∈ l, perOK x.S x.P = true) : 0 ≤ sumC (l.map fixOf) ∧ sumC (l.map fixOf) ≤ 6 * l.length ∧ sumC (l.map fixOf) = (l.map fun x => x.S.C).sum := by
  induction l with
  | nil => simp [sumC]
  | cons x l ih =>
    have h1 := ih fun y hy => h y (List.mem_cons_of_mem _ hy)
    have h2 := perOK_P (h x (by simp))
    simp only [sumC, List.map_cons, List.sum_cons, List.length_cons] at *
    have e : (fixOf x).S.C = x.S.C := rfl
    omega
theorem soonT_tru {l : List Fu.Live} {now : Int} (h : smallL l) : Tru (soonT l now) := by
  have hlen : mayL l now = true → l.length ≤ 4 := fun hm => (mayL_iff.1 hm).1
  refine .asrt h (.asrt (fun hm => ?_) (.asrt (fun hm => ?_) (.ite (fun _ => .yes) fun hm => ?_)))
  · have := hlen (by simpa using hm)
    show (l.length : Int) * 136 ≤ 140737488355328
    omega
  · have := hlen (by simpa using hm)
    rw [List.length_map]; omega
  · rw [Bool.or_eq_false_iff] at hm
    have hmay : mayL l now = true := by simpa using hm.1
    have hf : mayFs (l.map fixOf) = true := by simpa using hm.2
    obtain ⟨h1, h2, h3⟩ := mayL_all hmay
    have hl4 := h1.1
    obtain ⟨k1, k2, k3, k4⟩ := foldY (l := l) (now := now) (fun x hx => ⟨(h1.2 x hx).small, (mandW_le (h1.2 x hx) 0).1, (mandW_le (h1.2 x hx) 0).2.1⟩) ((l.length : Int) - 0).toNat 0 0 (Int.le_refl _) (by omega) (Int.le_refl _) (by omega)
    rw [show (0 : Int).toNat = 0 from rfl, List.drop_zero] at k2 k3 k4
    refine .asrt ⟨rfl, rfl⟩ (.asrt ⟨Int.le_refl _, by unfold maxI64; omega, k1⟩ ?_)
    have e : yF l now = (l, now, sumM l) := by unfold yF; rw [k2, Int.zero_add]
    rw [e]
    show Tru (soonE l now (sumM l))
    have el : lookL l now = lookR 2000 l now := by unfold lookL; rw [hmay]; rfl
    obtain ⟨m1, m2⟩ := soon_look 1999 2000 rfl (Nat.le_refl _) h1 h2 h3 (Int.le_refl _) (sum_units hf)
    rw [← el] at m1 m2
    have hW := W_sumM (now + 3000) l h1.2
    obtain ⟨c1, c2, c3⟩ := sumC_le fun x hx => (h1.2 x hx).1
    rw [← c3] at m2
    have hp : planB (l.map fixOf) (sumM l) = 16 * (sumM l + 2 * sumC (l.map fixOf)) + 1 := by
      unfold planB
      rw [hf, decide_eq_false (by omega), decide_eq_false (by omega)]
      rfl
    refine .asrt h (.asrt (fun _ => ?_) (.asrt (fun _ => by show ((l.map fixOf).length : Int) < 17592186044416; rw [List.length_map]; omega) (.of ?_)))
    · show (l.length : Int) * 136 ≤ 140737488355328
      omega
    · rw [hp, wrap_fits (by omega) (by omega), wrap_fits (by omega) (by omega)]
      simp only [Bool.and_eq_true, decide_eq_true_eq]
      refine ⟨by omega, ?_, ?_⟩ <;> rcases m2 with m2 | m2 <;> omega
theorem conSoon_valid : ValidCon c91.P 9 (lawCon good2L) := lawCon_of (n := 60) c91_good (by kernel_rfl) fun args ⟨l, now, h1, h2, _⟩ => by
  subst h1
  exact ⟨_, fSoon l now, soonT_tru (smallL_of h2)⟩

end Go.Fx
