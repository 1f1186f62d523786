import Derived.Test.YtccfojgceohciaaV6
import Derived.Test.YtccfojgceohciaaPlG
/- The law LiveShort. -/
namespace Go.Fx
open Go Go.Proofs

/-! ### jobs that are to run shorter -/
theorem stat_upd {l : List Fu.Live} {i : Int} (h0 : 0 ≤ i) (h1 : i < l.length) {z : Fu.Live} (hz : statOf z = statOf (rd .live l i)) : (upd .live l i z).map statOf = l.map statOf := by
  obtain ⟨pre, suf, h2, h3⟩ := split_at h0 h1
  generalize rd .live l i = y at h2 hz
  rw [← h3]
  conv => lhs; rw [h2]
  rw [upd_mid (r := .live)]
  conv => rhs; rw [h2]
  simp only [List.map_append, List.map_cons]
  rw [hz]
theorem left_low {j : Fu.Job} (h : JP j) (r D : Int) : wkJ D (lowJ j r) ≤ wkJ D j ∧ JP (lowJ j r) := by
  unfold lowJ
  cases hc : (decide (r > j.Ran) && decide (r < j.D)) with
  | false => exact ⟨Int.le_refl _, h⟩
  | true =>
    simp only [Bool.and_eq_true, decide_eq_true_eq] at hc
    simp only [cond_true]
    constructor
    · unfold wkJ leftM
      simp only
      cases decide (j.Due ≤ D) with
      | false => exact Int.le_refl _
      | true =>
        cases (j.On && j.Mand) with
        | false => exact Int.le_refl _
        | true => simp only [cond_true]; omega
    · rcases h with h | ⟨h1, h2, h3, h4⟩
      · rw [h] at hc
        have h5 := hc.1
        have h6 := hc.2
        unfold zeroJ at h5 h6
        simp only at h5 h6
        omega
      · exact .inr ⟨h1, h2, h3, hc.1⟩
theorem low_live {b : Int} {x : Fu.Live} {t : Int} (h : LiveB b x t) (r : Int) : LiveB b (lowL x r) t := by
  obtain ⟨h2, h3, h4, h5⟩ := h
  refine ⟨h2, h3, h4, ?_⟩
  simp only [JobI, lowL]
  unfold lowJ
  cases hc : (decide (r > x.J.Ran) && decide (r < x.J.D)) with
  | false => exact h5
  | true =>
    simp only [Bool.and_eq_true, decide_eq_true_eq] at hc
    rcases h5 with h5 | ⟨a1, a2, a3, a4, a5, a6, a7, a8⟩
    · rw [h5] at hc
      have h6 := hc.1
      have h7 := hc.2
      unfold zeroJ at h6 h7
      simp only at h6 h7
      omega
    · exact .inr ⟨a1, a2, a3, a4, a5, by simp only [cond_true]; omega, by simp only [cond_true]; omega, a8⟩
/-- As it is, or jobs run shorter. -/
def LowOf (b t : Int) (L0 L : List Fu.Live) : Prop := AllB b L t ∧ (∀ D, W L D ≤ W L0 D) ∧ L.map statOf = L0.map statOf
theorem low_step {b t : Int} {L0 : List Fu.Live} {x : AS} {i : Int} (h : LowOf b t L0 x.1) (h0 : 0 ≤ i) (h1 : i < x.1.length) (ha : 0 ≤ x.2.1) : LowOf b t L0 (nxtS x i).1 ∧ 0 ≤ (nxtS x i).2.1 ∧ (nxtS x i).2.2 = x.2.2 := by
  obtain ⟨k1, k2, k3⟩ := h
  unfold nxtS
  cases freshS x i with
  | false => exact ⟨⟨k1, k2, k3⟩, ha, rfl⟩
  | true =>
    simp only [cond_true]
    have hm := rd_memL h0 h1
    refine ⟨⟨⟨by rw [upd_len (r := .live)]; exact k1.1, fun y hy => ?_⟩, fun D => ?_, ?_⟩, by omega, trivial⟩
    · rcases mem_updL hy with h2 | h2
      · exact k1.2 y h2
      · rw [h2]; exact low_live (k1.2 _ hm) _
    · rw [W_upd h0 h1]
      have := k2 D
      have h3 := (left_low (k1.jp _ hm) (rd (.int .i64) x.2.2.1 x.2.1) D).1
      have e1 : wk D (rd .live x.1 i) = wkJ D (rd .live x.1 i).J := rfl
      have e2 : wk D (lowL (rd .live x.1 i) (rd (.int .i64) x.2.2.1 x.2.1)) = wkJ D (lowJ (rd .live x.1 i).J (rd (.int .i64) x.2.2.1 x.2.1)) := rfl
      rw [e1, e2]
      omega
    · exact (stat_upd h0 h1 (z := lowL (rd .live x.1 i) (rd (.int .i64) x.2.2.1 x.2.1)) rfl).trans k3
theorem low_fold {b t : Int} {L0 : List Fu.Live} (n : Nat) : ∀ (x : AS) (i : Int), LowOf b t L0 x.1 → 0 ≤ i → i + n = x.1.length → 0 ≤ x.2.1 → (x.2.2.1.length : Int) < 17592186044416 →
    LowOf b t L0 (foldI nxtS n x i).1 ∧ 0 ≤ (foldI nxtS n x i).2.1 ∧ (foldI nxtS n x i).2.2 = x.2.2 ∧ okI nxtS (fun _ _ => (none : Option Unit)) okS n x i := by
  induction n with
  | zero => exact fun x i h _ _ ha _ => ⟨h, ha, rfl, trivial⟩
  | succ n ih =>
    intro x i h h0 h1 ha hr
    obtain ⟨k1, k2, k3⟩ := low_step h h0 (by omega) ha
    obtain ⟨m1, m2, m3, m4⟩ := ih (nxtS x i) (i + 1) k1 (by omega) (by rw [nxtS_len]; omega) k2 (by rw [k3]; exact hr)
    have hok : okS x i := ⟨by omega, ha, hr⟩
    exact ⟨m1, m2, m3.trans k3, hok, fun _ => m4⟩

/-! ### the outer loop -/
abbrev AX := List Fu.Live × Int × List Int × Int × Int
def TX (x : AX × Int) : St := ⟨puts (J 174) [(0, .view .live x.1.1), (1, .int .i64 x.1.2.2.2.1), (2, .view (.int .i64) x.1.2.2.1), (6, .blit false), (8, .int .i64 x.1.2.2.2.2), (10, .int .i64 x.1.2.1), (11, .int .i64 x.2)], [], 0⟩
def sX : List Sh := sets (Js 174) [(0, .keep), (1, .keep), (2, .keep), (6, .keep), (8, .keep), (10, .int), (11, .int)]
def eX : List Sh := sets (Js 174) []
def RX : Ex × St := (.ret, ⟨puts (J 174) [], [], 0⟩)
def EX : Ex × St := (.exit 0, ⟨puts (J 174) [], [], 0⟩)
def bgS (x : AX) (t : Int) : AS := (beginAll x.1 t, x.2.1, x.2.2.1, t, x.2.2.2.1, x.2.2.2.2)
def lwS (x : AX) (t : Int) : AS := foldI nxtS (((beginAll x.1 t).length : Int) - 0).toNat (bgS x t) 0
def enS (x : AS) : AS := foldI (nxtM (r := .live) fU keepA) ((x.1.length : Int) - 0).toNat x 0
def afX (x : AS) : Tree (Ex × St) :=
  .asrt (1 = 1 ∧ TU (x, 0) = TU (x, 0)) (.asrt (0 ≤ (0 : Int) ∧ (x.1.length : Int) ≤ maxI64 ∧ okI (nxtM (r := .live) fU keepA) (fun _ _ => (none : Option Unit)) (okM (r := .live) okEU) ((x.1.length : Int) - 0).toNat x 0)
    (.ret (.normal, TX (((enS x).1, (enS x).2.1, (enS x).2.2.1, (enS x).2.2.2.2.1, (enS x).2.2.2.2.2), IntKind.i64.wrap ((enS x).2.2.2.1 + 1)))))
def runX (x : AS) : Tree (Ex × St) :=
  .asrt (okF x.1) (.ite (decide (firstL x.1 ≥ x.1.length)) (.ret RX) (.ite (decide (firstL x.1 ≥ 0)) (.asrt (0 ≤ firstL x.1 ∧ firstL x.1 < x.1.length) (.asrt (0 ≤ firstL x.1 ∧ firstL x.1 < x.1.length) (.asrt (smallC (jobAt x.1 (firstL x.1))) (.asrt (0 ≤ firstL x.1 ∧ firstL x.1 < x.1.length) (.asrt (0 ≤ firstL x.1 ∧ firstL x.1 < x.1.length)
    (afX (upd .live x.1 (firstL x.1) { (rd .live x.1 (firstL x.1)) with J := stepJ (jobAt x.1 (firstL x.1)) }, x.2))))))) (afX x)))
theorem bX (x : AX) (t : Int) : roundN cS2 60 4 (loopAt cS2.P 4 9) (sinkN sX) (sinkN eX) (TX (x, t)) =
  .ite (decide (t < x.2.2.2.2)) (.asrt (okBs (x.1, t)) (.asrt (1 = 1 ∧ TS (bgS x t, 0) = TS (bgS x t, 0)) (.asrt (0 ≤ (0 : Int) ∧ ((beginAll x.1 t).length : Int) ≤ maxI64 ∧ okI nxtS (fun _ _ => (none : Option Unit)) okS (((beginAll x.1 t).length : Int) - 0).toNat (bgS x t) 0)
   (runX (lwS x t))))) (.ret EX) := by kernel_rfl
def nxtX (x : AX) (t : Int) : AX := ((runFirst (lwS x t).1).map (endL (t + 1)), (lwS x t).2.1, x.2.2)
def okXS (x : AX) (t : Int) : Prop := (∃ b, AllI b x.1 t ∧ b ≤ 1099511627776) ∧ (0 ≤ t ∧ t ≤ 1099511627000) ∧ (0 ≤ x.2.1 ∧ (x.2.2.1.length : Int) < 17592186044416) ∧ ∀ y ∈ runFirst (lwS x t).1, (overJ y.J (t + 1) && y.J.Mand) = false
theorem lwS_low {b t : Int} {x : AX} (h : AllB b (beginAll x.1 t) t) (ha : 0 ≤ x.2.1) (hr : (x.2.2.1.length : Int) < 17592186044416) :
    LowOf b t (beginAll x.1 t) (lwS x t).1 ∧ 0 ≤ (lwS x t).2.1 ∧ (lwS x t).2.2 = (x.2.2.1, t, x.2.2.2.1, x.2.2.2.2) ∧ okI nxtS (fun _ _ => (none : Option Unit)) okS (((beginAll x.1 t).length : Int) - 0).toNat (bgS x t) 0 :=
  low_fold (b := b) (t := t) (L0 := beginAll x.1 t) _ (bgS x t) 0 ⟨h, fun _ => Int.le_refl _, rfl⟩ (Int.le_refl _) (by show (0 : Int) + ((((beginAll x.1 t).length : Int) - 0).toNat : Int) = ((beginAll x.1 t).length : Int); omega) ha hr
theorem foldl_keep {α β : Type} (l : List β) (a : α) : l.foldl (fun a _ => a) a = a := by induction l <;> simp_all
theorem afX_out {x : AS} (hl : x.1.length ≤ 4) (hn : nowOK x.2.2.2.1) (hm : ∀ y ∈ x.1, (overJ y.J (x.2.2.2.1 + 1) && y.J.Mand) = false) :
    (afX x).Out (.normal, TX ((x.1.map (endL (x.2.2.2.1 + 1)), x.2.1, x.2.2.1, x.2.2.2.2.1, x.2.2.2.2.2), x.2.2.2.1 + 1)) := by
  obtain ⟨k1, k2⟩ := foldM (r := .live) (f := fU) (g := keepA) (okE := okEU) (fun _ _ _ => rfl) (fun _ _ _ h => h) x.1 x.2 (fun y hy => ⟨hn, hm y hy⟩)
  have e : ((x.1.length : Int) - 0).toNat = x.1.length := by omega
  have e2 : enS x = (x.1.map (endL (x.2.2.2.1 + 1)), x.2) := by
    unfold enS
    rw [e]
    refine k1.trans ?_
    rw [show x.1.foldl (keepA (r := .live)) x.2 = x.2 from foldl_keep x.1 x.2]
    rfl
  obtain ⟨h1, h2⟩ := hn
  unfold afX
  rw [e2, e]
  refine ⟨⟨rfl, rfl⟩, ⟨Int.le_refl _, by unfold maxI64; omega, k2⟩, ?_⟩
  show (Tree.ret (Ex.normal, TX ((x.1.map (endL (x.2.2.2.1 + 1)), x.2.1, x.2.2.1, x.2.2.2.2.1, x.2.2.2.2.2), IntKind.i64.wrap (x.2.2.2.1 + 1)))).Out _
  rw [wrap_fits (by omega) (by omega)]
  rfl
theorem runX_out {b t : Int} {x : AS} (h : AllB b x.1 t) (hn : nowOK x.2.2.2.1) (hm : ∀ y ∈ runFirst x.1, (overJ y.J (x.2.2.2.1 + 1) && y.J.Mand) = false) :
    (runX x).Out (.normal, TX (((runFirst x.1).map (endL (x.2.2.2.1 + 1)), x.2.1, x.2.2.1, x.2.2.2.2.1, x.2.2.2.2.2), x.2.2.2.1 + 1)) := by
  have hl := h.1
  have hs : okF x.1 := ⟨by omega, fun y hy => (h.2 y hy).small⟩
  refine ⟨hs, ?_⟩
  rcases firstL_range x.1 with hf | ⟨h0, h1⟩
  · have e : runFirst x.1 = x.1 := by unfold runFirst; rw [hf]; rfl
    rw [e] at hm ⊢
    refine (Tree.out_ite_false (decide_eq_false (by omega))).2 ((Tree.out_ite_false (decide_eq_false (by omega))).2 (afX_out hl hn hm))
  · have e : runFirst x.1 = upd .live x.1 (firstL x.1) { (rd .live x.1 (firstL x.1)) with J := stepJ (jobAt x.1 (firstL x.1)) } := by
      unfold runFirst
      rw [show (firstL x.1 == -1) = false by simp; omega]
      rfl
    have hr : 0 ≤ firstL x.1 ∧ firstL x.1 < x.1.length := ⟨h0, h1⟩
    rw [e] at hm ⊢
    refine (Tree.out_ite_false (decide_eq_false (by omega))).2 ((Tree.out_ite_true (decide_eq_true h0)).2 ⟨hr, hr, (h.2 _ (rd_memL h0 h1)).small, hr, hr, ?_⟩)
    exact afX_out (x := (upd .live x.1 (firstL x.1) { (rd .live x.1 (firstL x.1)) with J := stepJ (jobAt x.1 (firstL x.1)) }, x.2)) (by simp only; rw [upd_len (r := .live)]; exact hl) hn hm
def gX (σ : St) : Option (AX × Int) :=
  match nth σ.tmps 0, nth σ.tmps 1, nth σ.tmps 2, nth σ.tmps 8, nth σ.tmps 10, nth σ.tmps 11 with
  | .view .live l, .int .i64 now, .view (.int .i64) real, .int .i64 e, .int .i64 a, .int .i64 t => some ((l, a, real, now, e), t)
  | _, _, _, _, _, _ => none
def LX : LoopCon := boundF 0 (sinkN sX) TX gX (fun x => x.2.2.2.2) okXS nxtX (fun _ => EX)
theorem lX (hs : SubOf cS2.P 4 (.loop (loopAt cS2.P 4 9))) : SoundLoop cS2 (loopAt cS2.P 4 9) LX :=
  bound_fold (C := cS2) (g := 4) (l := 9) cS2_good 60 0 _ _ (Weak.sinkN sX) (Weak.sinkN eX) hs TX gX (fun x => x.2.2.2.2) okXS nxtX (fun _ => EX)
    (fun _ => by intro h; cases h) (fun x i => rfl)
    (fun x t h0 ht hm hok => .of_eq (bX x t) (by
      obtain ⟨⟨b, hA, hb⟩, ⟨h1, h2⟩, ⟨h3, h4⟩, h5⟩ := hok
      have hB := begin_all hA h1 h2 hb
      obtain ⟨k1, k2, k3, k4⟩ := lwS_low hB h3 h4
      have hlen := hB.1
      refine (Tree.out_ite_true (decide_eq_true ht)).2 ⟨(okSt_of hA h1 h2 hb).1, ⟨rfl, rfl⟩, ⟨Int.le_refl _, by unfold maxI64; omega, k4⟩, ?_⟩
      have et : (lwS x t).2.2.2.1 = t := by rw [k3]
      have := runX_out (x := lwS x t) k1.1 (by rw [et]; exact ⟨by omega, by omega⟩) (by rw [et]; exact h5)
      rw [k3] at this
      exact this))
    (fun x t ht => .of_eq (bX x t) ((Tree.out_ite_false (decide_eq_false (by omega))).2 rfl))
noncomputable def cS3 : Cfg := cS2.addLoop 4 9 LX
theorem cS3_good : GoodCfg cS3 := cS2_good.addLoop (by unfold OneLoop; kernel_rfl) lX
def shortT (l : List Fu.Live) (now : Int) (real : List Int) : Tree (AV × List Blk) :=
  .asrt (smallL l) (.ite (!mayL l now || decide ((real.length : Int) > 4000)) (.ret (.blit true, [])) (.asrt (smallL l) (.ite (!(lookL l now).2) (.ret (.blit true, []))
    (.asrt (0 = 0 ∧ TX ((l, 0, real, now, (lookL l now).1), now) = TX ((l, 0, real, now, (lookL l now).1), now)) (.asrt (0 ≤ now ∧ (lookL l now).1 ≤ maxI64 ∧ okI nxtX (fun _ _ => (none : Option Unit)) okXS ((lookL l now).1 - now).toNat (l, 0, real, now, (lookL l now).1) now)
      (.ret (.blit true, [])))))))
theorem fShort (l : List Fu.Live) (now : Int) (real : List Int) : callC cS3 60 4 [.view .live l, .int .i64 now, .view (.int .i64) real] = shortT l now real := by kernel_rfl

/-! ### the law -/
theorem over_mand {j : Fu.Job} (h : JP j) {t : Int} (hm : (overJ j t && mustJ j) = false) : (overJ j t && j.Mand) = false := by
  cases ho : overJ j t with
  | false => rfl
  | true =>
    cases hd : j.Mand with
    | false => rfl
    | true =>
      rw [ho, Bool.true_and] at hm
      have hon : j.On = true := by unfold overJ at ho; simp at ho; exact ho.1
      have hl := not_must h hm
      rcases h with h | ⟨_, h2, h3, h4⟩
      · rw [h] at hon; cases hon
      · unfold leftM at hl
        rw [hon, hd] at hl
        simp only [Bool.and_self, cond_true] at hl
        omega
theorem short_ok (k : Nat) : ∀ (b : Int) (l : List Fu.Live) (x : AX) (t n : Int), AllI b l t → AllI b x.1 t → 0 ≤ t → t + k ≤ 1099511627000 → b + k ≤ 1099511627776 → x.1.map statOf = l.map statOf → (∀ D, AW x.1 t D ≤ AW l t D) →
    0 ≤ x.2.1 → (x.2.2.1.length : Int) < 17592186044416 → lookR k l t = (n, true) → okI nxtX (fun _ _ => (none : Option Unit)) okXS (n - t).toNat x t := by
  induction k with
  | zero =>
    intro _ _ _ _ _ _ _ _ _ _ _ _ _ _ h
    simp [lookR] at h
  | succ k ih =>
    intro b l x t n hA hA' h0 h1 hb hs hw ha hr h
    unfold lookR at h
    cases hi : idleL l with
    | true =>
      rw [hi] at h
      simp only [cond_true, Prod.mk.injEq, and_true] at h
      subst h
      rw [show (t - t).toNat = 0 by omega]
      trivial
    | false =>
      cases hm : missedL l t with
      | true => rw [hi, hm] at h; simp at h
      | false =>
        rw [hi, hm] at h
        simp only [cond_false] at h
        have hn := look_le k (stepL l t) (t + 1)
        rw [h] at hn
        simp only at hn
        rw [show (n - t).toNat = (n - (t + 1)).toNat + 1 by omega]
        have hB := begin_all hA h0 (by omega) (by omega)
        have hB' := begin_all hA' h0 (by omega) (by omega)
        obtain ⟨k1, k2, k3, k4⟩ := lwS_low hB' ha hr
        have hl : Less x.1 l t := ⟨by rw [hs]; exact List.Sublist.refl _, hw⟩
        obtain ⟨m1, m2, m3⟩ := dom_step hB k1.1 (fun D => Int.le_trans (k1.2.1 D) (hl.begin D)) hm
        have hR := runFirst_all k1.1
        have hok : okXS x t := by
          refine ⟨⟨b, hA', by omega⟩, ⟨h0, by omega⟩, ⟨ha, hr⟩, fun y hy => over_mand (hR.jp y hy) ?_⟩
          have := List.any_eq_false.1 m1 y hy
          unfold missL at this
          simpa using this
        refine ⟨hok, fun _ => ?_⟩
        · refine ih (b + 1) (stepL l t) (nxtX x t) (t + 1) n (step_all hA h0 (by omega) (by omega)) ⟨?_, fun y hy => ?_⟩ (by omega) (by omega) (by omega) ?_ m3 k2 hr h
          · show ((runFirst (lwS x t).1).map (endL (t + 1))).length ≤ 4
            rw [List.length_map]; exact hR.1
          · obtain ⟨z, hz, rfl⟩ := List.mem_map.1 hy
            exact endL_inv (hR.2 z hz)
          · show ((runFirst (lwS x t).1).map (endL (t + 1))).map statOf = (stepL l t).map statOf
            unfold stepL
            rw [stat_end, stat_end, stat_run, stat_run, k1.2.2, stat_beginAll, stat_beginAll, hs]
theorem shortT_tru {l : List Fu.Live} {now : Int} {real : List Int} (h : smallL l) (hr : (real.length : Int) < 17592186044416) : Tru (shortT l now real) := by
  refine .asrt h (.ite (fun _ => .yes) fun hm => .asrt h (.ite (fun _ => .yes) fun hl => ?_))
  rw [Bool.or_eq_false_iff] at hm
  have hmay : mayL l now = true := by simpa using hm.1
  have hl2 : (lookL l now).2 = true := by simpa using hl
  obtain ⟨h1, h2, h3⟩ := mayL_all hmay
  have e : lookL l now = lookR 2000 l now := by unfold lookL; rw [hmay]; rfl
  have e2 : lookR 2000 l now = ((lookL l now).1, true) := by rw [← hl2, ← e]
  have hle := look_le 2000 l now
  rw [← e] at hle
  exact .asrt ⟨rfl, rfl⟩ (.asrt ⟨h2, by unfold maxI64; omega, short_ok 2000 _ l (l, 0, real, now, (lookL l now).1) now _ h1 h1 h2 (by omega) (by omega) rfl (fun _ => Int.le_refl _) (Int.le_refl _) hr e2⟩ .yes)
def good3S (args : List AV) : Prop := ∃ (l : List Fu.Live) (now : Int) (real : List Int), args = [.view .live l, .int .i64 now, .view (.int .i64) real] ∧ (l.length : Int) * 128 ≤ 140737488351232 ∧ (real.length : Int) < 17592186044416
theorem conShort_valid : ValidCon cS3.P 4 (lawCon good3S) := lawCon_of (n := 60) cS3_good (by kernel_rfl) fun args ⟨l, now, real, h1, h2, h3⟩ => by
  subst h1
  exact ⟨_, fShort l now real, shortT_tru (smallL_of h2) h3⟩

end Go.Fx
