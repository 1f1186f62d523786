import Derived.Test.YtccfojgceohciaaV3
/- The law LiveOne. -/
namespace Go.Fx
open Go Go.Proofs

/-- The configuration in which what begins is owned. -/
noncomputable def cOwn : Cfg := c47
theorem cOwn_good : GoodCfg cOwn := c47_good
/-- The lists as what is there. -/
def conBeginF : Con := flatCon (d2 (dView .live) dInt) okBs fun x => .view .live (beginAll x.1 x.2)
theorem conBeginF_valid : ValidCon c47.P 18 conBeginF := resCon_frozen conBegin_valid fun _ => ⟨_, rfl, .refl _⟩
noncomputable def c48 : Cfg := c47.addQuiet 18 conBeginF
theorem c48_good : GoodCfg c48 := c47_good.addQuiet conBeginF_valid flatCon_quiet

/-! ### the walk -/
abbrev AN := List Fu.Live × List Fu.Live × List Fu.Live × Int × Int
abbrev XN := AN × Int
def TN (x : XN) : St := ⟨puts (J 178) [(0, .view .live x.1.1), (1, .int .i64 x.1.2.2.2.1), (4, .blit false), (6, .view .live x.1.2.1), (7, .view .live x.1.2.2.1), (9, .int .i64 x.1.2.2.2.2), (10, .int .i64 x.2)], [], 0⟩
def sN : List Sh := sets (Js 178) [(0, .keep), (1, .keep), (4, .keep), (6, .keep), (7, .keep), (9, .int), (10, .int)]
def eN : List Sh := sets (Js 178) [(4, .keep), (9, .keep)]
def EN (x : AN) : Ex × St := (.exit 0, ⟨puts (J 178) [(4, .blit false), (9, .int .i64 x.2.2.2.2)], [], 0⟩)
def RN (b : Bool) (n : Int) : Ex × St := (.ret, ⟨puts (J 178) [(4, .blit b), (9, .int .i64 n)], [], 0⟩)
def overN (y : Fu.Live) (n : Int) : Bool := bif y.J.On then decide (y.J.Due ≤ n) || !y.J.On else !y.J.On
theorem bN (x : AN) (i : Int) : roundN c48 60 7 (loopAt c48.P 7 10) (norm2 0 [] [] sN) (norm2 0 [] [] eN) (TN (x, i)) =
    .ite (decide (i < x.1.length)) (.asrt (0 ≤ i ∧ i < x.1.length) (.ite (decide ((rd .live x.1 i).N > 274877906944)) (.ret (RN true x.2.2.2.2)) (.asrt (0 ≤ i ∧ i < x.1.length) (.asrt (0 ≤ i ∧ i < x.2.1.length) (.asrt (0 ≤ i ∧ i < x.1.length)
      (.asrt ((!((rd .live x.1 i).At == x.2.2.2.1) == ((rd .live x.2.1 i).N == IntKind.i64.wrap ((rd .live x.1 i).N + 1))) = false → 0 ≤ i ∧ i < x.1.length)
      (.asrt ((!((rd .live x.1 i).At == x.2.2.2.1) == ((rd .live x.2.1 i).N == IntKind.i64.wrap ((rd .live x.1 i).N + 1))) = false → ((rd .live x.1 i).At != x.2.2.2.1) = true → 0 ≤ i ∧ i < x.2.1.length)
      (.asrt ((!((rd .live x.1 i).At == x.2.2.2.1) == ((rd .live x.2.1 i).N == IntKind.i64.wrap ((rd .live x.1 i).N + 1))) = false → ((rd .live x.1 i).At != x.2.2.2.1) = true → 0 ≤ i ∧ i < x.1.length)
      (.asrt ((!((rd .live x.1 i).At == x.2.2.2.1) == ((rd .live x.2.1 i).N == IntKind.i64.wrap ((rd .live x.1 i).N + 1))) = false → ((rd .live x.1 i).At != x.2.2.2.1) = true → (!eqLive (rd .live x.2.1 i) (rd .live x.1 i)) = false → 0 ≤ i ∧ i < x.2.1.length)
      (.asrt ((!((rd .live x.1 i).At == x.2.2.2.1) == ((rd .live x.2.1 i).N == IntKind.i64.wrap ((rd .live x.1 i).N + 1))) = false → ((rd .live x.1 i).At != x.2.2.2.1) = false → 0 ≤ i ∧ i < x.2.1.length)
      (.ite ((!((rd .live x.1 i).At == x.2.2.2.1) == ((rd .live x.2.1 i).N == IntKind.i64.wrap ((rd .live x.1 i).N + 1))) || bif (rd .live x.1 i).At != x.2.2.2.1 then !eqLive (rd .live x.2.1 i) (rd .live x.1 i) || decide ((rd .live x.2.1 i).At ≤ x.2.2.2.1) else decide ((rd .live x.2.1 i).At ≤ x.2.2.2.1)) (.ret (RN false x.2.2.2.2))
      (.asrt (0 ≤ i ∧ i < x.2.1.length) (.asrt (smallC (rd .live x.2.1 i).J) (.asrt (0 ≤ i ∧ i < x.2.2.1.length)
      (.asrt ((rd .live x.2.2.1 i).J.On = true → 0 ≤ i ∧ i < x.2.2.1.length) (.asrt ((rd .live x.2.2.1 i).J.On = true → smallC (rd .live x.2.2.1 i).J)
      (.asrt ((rd .live x.2.2.1 i).J.On = false → 0 ≤ i ∧ i < x.2.1.length) (.asrt ((rd .live x.2.2.1 i).J.On = false → (rd .live x.2.1 i).J.On = true → 0 ≤ i ∧ i < x.2.1.length)
      (.asrt ((rd .live x.2.2.1 i).J.On = false → (rd .live x.2.1 i).J.On = true → decide ((rd .live x.2.1 i).J.Due ≤ IntKind.i64.wrap (x.2.2.2.1 + 1)) = false → 0 ≤ i ∧ i < x.2.1.length)
      (.asrt ((rd .live x.2.2.1 i).J.On = false → (rd .live x.2.1 i).J.On = false → 0 ≤ i ∧ i < x.2.1.length)
      (.asrt ((rd .live x.2.2.1 i).J.On = false → overN (rd .live x.2.1 i) (IntKind.i64.wrap (x.2.2.2.1 + 1)) = true → 0 ≤ i ∧ i < x.2.1.length)
      (.asrt ((rd .live x.2.2.1 i).J.On = false → overN (rd .live x.2.1 i) (IntKind.i64.wrap (x.2.2.2.1 + 1)) = true → smallC (rd .live x.2.1 i).J)
      (.asrt ((rd .live x.2.2.1 i).J.On = false → overN (rd .live x.2.1 i) (IntKind.i64.wrap (x.2.2.2.1 + 1)) = false → 0 ≤ i ∧ i < x.2.1.length)
      (.asrt ((rd .live x.2.2.1 i).J.On = false → overN (rd .live x.2.1 i) (IntKind.i64.wrap (x.2.2.2.1 + 1)) = false → smallC (rd .live x.2.1 i).J)
      (.ret (.normal, TN ((x.1, x.2.1, x.2.2.1, x.2.2.2.1, bif (rd .live x.2.2.1 i).J.On then IntKind.i64.wrap (IntKind.i64.wrap (x.2.2.2.2 + worst (rd .live x.2.1 i).J) - worst (rd .live x.2.2.1 i).J)
        else bif overN (rd .live x.2.1 i) (IntKind.i64.wrap (x.2.2.2.1 + 1)) then IntKind.i64.wrap (IntKind.i64.wrap (x.2.2.2.2 + worst (rd .live x.2.1 i).J) - worst (rd .live x.2.1 i).J)
        else IntKind.i64.wrap (IntKind.i64.wrap (IntKind.i64.wrap (x.2.2.2.2 + worst (rd .live x.2.1 i).J) - worst (rd .live x.2.1 i).J) + 1)), IntKind.i64.wrap (i + 1)))))))))))))))))))))))))))) (.ret (EN x)) := by kernel_rfl
def gN (σ : St) : Option XN :=
  match nth σ.tmps 0, nth σ.tmps 6, nth σ.tmps 7, nth σ.tmps 1, nth σ.tmps 9, nth σ.tmps 10 with
  | .view .live l, .view .live b, .view .live k, .int .i64 n, .int .i64 r, .int .i64 i => some ((l, b, k, n, r), i)
  | _, _, _, _, _, _ => none
/-- How much more of it has run. -/
def dR (y z : Fu.Live) (n : Int) : Int := bif z.J.On then worst y.J - worst z.J else bif overN y n then 0 else 1
def begun1 (x y : Fu.Live) (now : Int) : Prop := ((x.At = now ∧ y.N = x.N + 1) ∨ (x.At ≠ now ∧ y = x)) ∧ now < y.At ∧ (0 ≤ x.N ∧ x.N ≤ 549755813888)
def okLN (x : AN) (i : Int) : Prop := (i < x.2.1.length ∧ i < x.2.2.1.length ∧ nowOK x.2.2.2.1) ∧ begun1 (rd .live x.1 i) (rd .live x.2.1 i) x.2.2.2.1 ∧ smallC (rd .live x.2.1 i).J ∧ smallC (rd .live x.2.2.1 i).J ∧ (0 ≤ x.2.2.2.2 ∧ x.2.2.2.2 ≤ 1)
def nxtN (x : AN) (i : Int) : AN := (x.1, x.2.1, x.2.2.1, x.2.2.2.1, x.2.2.2.2 + dR (rd .live x.2.1 i) (rd .live x.2.2.1 i) (x.2.2.2.1 + 1))
def brkN (x : AN) (i : Int) : Option Int := bif decide ((rd .live x.1 i).N > 274877906944) then some x.2.2.2.2 else none
theorem worst_small {j : Fu.Job} (h : smallC j) : 0 ≤ worst j ∧ worst j ≤ 2000000 := by
  unfold smallC at h
  unfold worst
  cases j.On with
  | true => simp only [cond_true]; omega
  | false => simp
theorem begun_not {x y : Fu.Live} {now : Int} (h : begun1 x y now) : (!(x.At == now) == (y.N == x.N + 1)) = false ∧ (!eqLive y x || decide (y.At ≤ now)) = (x.At == now && !eqLive y x) ∧ decide (y.At ≤ now) = false := by
  obtain ⟨h1, h2, h3⟩ := h
  have h4 : decide (y.At ≤ now) = false := decide_eq_false (by omega)
  rw [h4]
  rcases h1 with ⟨h1, h5⟩ | ⟨h1, rfl⟩
  · simp [h1, h5]
  · have e1 : (y.At == now) = false := by simpa using h1
    have e2 : (y.N == y.N + 1) = false := by simp; omega
    rw [e1, e2, eqLive_self]
    exact ⟨rfl, rfl, rfl⟩
def LN : LoopCon := boundB 0 (norm2 0 [] [] sN) TN gN (fun x => x.1.length) okLN nxtN brkN 0 (RN true) EN
theorem lN (hs : SubOf c48.P 7 (.loop (loopAt c48.P 7 10))) : SoundLoop c48 (loopAt c48.P 7 10) LN :=
  bound_loop (C := c48) (g := 7) (l := 10) c48_good 60 0 _ _ (Weak.norm2 0 [] [] sN) (Weak.norm2 0 [] [] eN) hs TN gN (fun x => x.1.length) okLN nxtN brkN 0 (RN true) EN
    (fun _ => by intro h; cases h) (fun _ => by intro h; cases h) (fun _ _ => rfl)
    (fun x i h0 hi hm hok => .of_eq (bN x i) (by
      unfold maxI64 at hm
      obtain ⟨⟨h1, h2, h3, h3'⟩, h4, h5, h6, h7, h8⟩ := hok
      have a : 0 ≤ i ∧ i < (x.1.length : Int) := ⟨h0, hi⟩
      have b : 0 ≤ i ∧ i < (x.2.1.length : Int) := ⟨h0, h1⟩
      have c : 0 ≤ i ∧ i < (x.2.2.1.length : Int) := ⟨h0, h2⟩
      obtain ⟨k1, k2, k3⟩ := begun_not h4
      have k4 := h4.2.2
      have w1 := worst_small h5
      have w2 := worst_small h6
      rw [wrap_fits (n := i + 1) (by omega) (by omega), wrap_fits (n := x.2.2.2.1 + 1) (by omega) (by omega), wrap_fits (n := (rd .live x.1 i).N + 1) (by omega) (by omega), k1,
        wrap_fits (n := x.2.2.2.2 + worst (rd .live x.2.1 i).J) (by omega) (by omega), wrap_fits (n := x.2.2.2.2 + worst (rd .live x.2.1 i).J - worst (rd .live x.2.2.1 i).J) (by omega) (by omega),
        wrap_fits (n := x.2.2.2.2 + worst (rd .live x.2.1 i).J - worst (rd .live x.2.1 i).J) (by omega) (by omega), wrap_fits (n := x.2.2.2.2 + worst (rd .live x.2.1 i).J - worst (rd .live x.2.1 i).J + 1) (by omega) (by omega)]
      refine (Tree.out_ite_true (decide_eq_true hi)).2 ⟨a, ?_⟩
      unfold brkN
      cases hn : decide ((rd .live x.1 i).N > 274877906944) with
      | true => exact (Tree.out_ite_true rfl).2 rfl
      | false =>
        refine (Tree.out_ite_false rfl).2 ⟨a, b, a, fun _ => a, fun _ _ => b, fun _ _ => a, fun _ _ _ => b, fun _ _ => b, ?_⟩
        refine (Tree.out_ite_false ?_).2 ⟨b, h5, c, fun _ => c, fun _ => h6, fun _ => b, fun _ _ => b, fun _ _ _ => b, fun _ _ => b, fun _ _ => b, fun _ _ => h5, fun _ _ => b, fun _ _ => h5, ?_⟩
        · rw [k2, k3]
          cases hc : ((rd .live x.1 i).At == x.2.2.2.1) <;> simp [bne, hc]
        · simp only [cond_false, nxtN, dR]
          cases (rd .live x.2.2.1 i).J.On with
          | true =>
            simp only [cond_true]
            rw [show x.2.2.2.2 + (worst (rd .live x.2.1 i).J - worst (rd .live x.2.2.1 i).J) = x.2.2.2.2 + worst (rd .live x.2.1 i).J - worst (rd .live x.2.2.1 i).J by omega]
            rfl
          | false =>
            cases overN (rd .live x.2.1 i) (x.2.2.2.1 + 1) with
            | true =>
              simp only [cond_true, cond_false]
              rw [show x.2.2.2.2 + worst (rd .live x.2.1 i).J - worst (rd .live x.2.1 i).J = x.2.2.2.2 + 0 by omega]
              rfl
            | false =>
              simp only [cond_false]
              rw [show x.2.2.2.2 + worst (rd .live x.2.1 i).J - worst (rd .live x.2.1 i).J + 1 = x.2.2.2.2 + 1 by omega]
              rfl))
    (fun x i hi => .of_eq (bN x i) ((Tree.out_ite_false (decide_eq_false (by omega))).2 rfl))
noncomputable def c49 : Cfg := c48.addLoop 7 10 LN
theorem c49_good : GoodCfg c49 := c48_good.addLoop (by unfold OneLoop; kernel_rfl) lN

def onePart (l : List Fu.Live) (now : Int) : Tree (AV × List Blk) :=
  .asrt (0 = 0 ∧ TN ((l, beginAll l now, stepL l now, now, 0), 0) = TN ((l, beginAll l now, stepL l now, now, 0), 0)) (.asrt (0 ≤ (0 : Int) ∧ (l.length : Int) ≤ maxI64 ∧ okI nxtN brkN okLN ((l.length : Int) - 0).toNat (l, beginAll l now, stepL l now, now, 0) 0)
    (optT 0 (brkI nxtN brkN ((l.length : Int) - 0).toNat (l, beginAll l now, stepL l now, now, 0) 0) (fun _ => .ret (.blit true, []))
      (.ret (.bool (decide ((foldI nxtN ((l.length : Int) - 0).toNat (l, beginAll l now, stepL l now, now, 0) 0).2.2.2.2 ≥ 0) && decide ((foldI nxtN ((l.length : Int) - 0).toNat (l, beginAll l now, stepL l now, now, 0) 0).2.2.2.2 ≤ 1)), []))))
def oneT (l : List Fu.Live) (now : Int) : Tree (AV × List Blk) :=
  .asrt (smallL l) (.ite (!mayL l now || decide (now > 274877906944)) (.ret (.blit true, [])) (.asrt (okBs (l, now)) (.asrt (okSt (l, now)) (.ite ((((beginAll l now).length : Int)) != (l.length : Int) || (((stepL l now).length : Int)) != (l.length : Int)) (.ret (.blit false, []))
    (onePart l now)))))
theorem fOne (l : List Fu.Live) (now : Int) : callC c49 60 7 [.view .live l, .int .i64 now] = oneT l now := by kernel_rfl

/-! ### the law -/
theorem begun1_begin {b : Int} {x : Fu.Live} {t : Int} (h : LiveI b x t) (hb : b ≤ 549755813888) : begun1 x (beginL t x) t := by
  obtain ⟨h2, h3, h4, h5⟩ := h
  have h6 := perOK_P h2
  unfold begun1 beginL
  cases hd : decide (x.At ≤ t) with
  | true =>
    have hd := of_decide_eq_true hd
    simp only [cond_true]
    exact ⟨.inl ⟨by omega, trivial⟩, by omega, by omega⟩
  | false =>
    have hd := of_decide_eq_false hd
    simp only [cond_false]
    exact ⟨.inr ⟨by omega, trivial⟩, by omega, by omega⟩
theorem rd_upd {l : List Fu.Live} {i j : Int} {z : Fu.Live} (h0 : 0 ≤ i) (h1 : i < l.length) (h2 : 0 ≤ j) : rd .live (upd .live l i z) j = if j = i then z else rd .live l j := by
  have hlt : i.toNat < l.length := by omega
  simp only [rd, upd]
  split
  · rename_i h
    subst h
    simp [hlt]
  · rename_i h
    rw [List.getD_eq_getElem?_getD, List.getD_eq_getElem?_getD, List.getElem?_set_ne (by omega)]
theorem dR_end {y z : Fu.Live} {n : Int} (h : z.J = y.J) : dR y (endL n z) n = 0 := by
  unfold dR endL atJ
  simp only
  rw [h]
  cases ho : overJ y.J n with
  | true =>
    simp only [cond_true]
    unfold overJ at ho
    simp only [Bool.and_eq_true] at ho
    unfold overN
    rw [ho.1, ho.2]
    rfl
  | false =>
    simp only [cond_false]
    unfold overN
    cases y.J.On with
    | true => simp only [cond_true]; omega
    | false => rfl
theorem dR_run {y : Fu.Live} {n : Int} (hm : mustJ y.J = true) : 0 ≤ dR y (endL n { y with J := stepJ y.J }) n ∧ dR y (endL n { y with J := stepJ y.J }) n ≤ 1 := by
  have ho : y.J.On = true := by unfold mustJ at hm; simp at hm; exact hm.1
  have hw : y.J.Ran < y.J.C := by
    unfold mustJ worst at hm; rw [ho] at hm; simp at hm; omega
  have hoff : ∀ z : Fu.Live, z.J.On = false → 0 ≤ dR y z n ∧ dR y z n ≤ 1 := by
    intro z hz
    unfold dR
    rw [hz]
    simp only [cond_false]
    cases overN y n <;> simp
  unfold endL atJ stepJ
  rw [ho]
  simp only [cond_true]
  cases hd : (decide (y.J.Ran + 1 ≥ y.J.D) || decide (y.J.Ran + 1 ≥ y.J.C)) with
  | true => exact hoff _ rfl
  | false =>
    simp only [cond_false]
    cases hv : overJ (ran1 y.J) n with
    | true => exact hoff _ rfl
    | false =>
      simp only [cond_false]
      unfold dR
      have e : (ran1 y.J).On = true := ho
      simp only
      rw [e]
      simp only [cond_true]
      unfold worst
      rw [e, ho]
      simp only [cond_true, ran1]
      omega
/-- Who ran. -/
theorem dR_at {B : List Fu.Live} {n i : Int} (h0 : 0 ≤ i) (h1 : i < B.length) :
    dR (rd .live B i) (rd .live ((runFirst B).map (endL n)) i) n = 0 ∨ (i = firstL B ∧ 0 ≤ dR (rd .live B i) (rd .live ((runFirst B).map (endL n)) i) n ∧ dR (rd .live B i) (rd .live ((runFirst B).map (endL n)) i) n ≤ 1) := by
  rw [rd_map h0 (by rw [runFirst_len]; exact h1)]
  unfold runFirst
  rcases firstL_spec B with ⟨hf, hn⟩ | ⟨k0, k1, k2, k3⟩
  · rw [hf]
    exact .inl (dR_end rfl)
  · rw [show (firstL B == -1) = false by simp; omega]
    simp only [cond_false]
    rw [rd_upd k0 k1 h0]
    split
    · rename_i h
      subst h
      exact .inr ⟨rfl, dR_run k2⟩
    · exact .inl (dR_end rfl)
theorem nxtN_1 (x : AN) (i : Int) : (nxtN x i).1 = x.1 ∧ (nxtN x i).2.1 = x.2.1 ∧ (nxtN x i).2.2.1 = x.2.2.1 ∧ (nxtN x i).2.2.2.1 = x.2.2.2.1 := ⟨rfl, rfl, rfl, rfl⟩
theorem one_fold {l B k : List Fu.Live} {now f : Int} (hok : ∀ i : Int, 0 ≤ i → i < l.length → (i < B.length ∧ i < k.length ∧ nowOK now) ∧ begun1 (rd .live l i) (rd .live B i) now ∧ smallC (rd .live B i).J ∧ smallC (rd .live k i).J)
    (hd : ∀ i : Int, 0 ≤ i → i < l.length → dR (rd .live B i) (rd .live k i) (now + 1) = 0 ∨ (i = f ∧ 0 ≤ dR (rd .live B i) (rd .live k i) (now + 1) ∧ dR (rd .live B i) (rd .live k i) (now + 1) ≤ 1)) :
    ∀ (n : Nat) (r i : Int), 0 ≤ i → i + n = l.length → 0 ≤ r → r ≤ 1 → (i ≤ f → r = 0) →
      okI nxtN brkN okLN n (l, B, k, now, r) i ∧ 0 ≤ (foldI nxtN n (l, B, k, now, r) i).2.2.2.2 ∧ (foldI nxtN n (l, B, k, now, r) i).2.2.2.2 ≤ 1
  | 0, _, _, _, _, h3, h4, _ => ⟨trivial, h3, h4⟩
  | n + 1, r, i, h1, h2, h3, h4, h5 => by
    have hr : 0 ≤ r + dR (rd .live B i) (rd .live k i) (now + 1) ∧ r + dR (rd .live B i) (rd .live k i) (now + 1) ≤ 1 ∧ (i + 1 ≤ f → r + dR (rd .live B i) (rd .live k i) (now + 1) = 0) := by
      rcases hd i h1 (by omega) with h6 | ⟨h6, h7, h8⟩
      · refine ⟨by omega, by omega, fun h => ?_⟩
        have := h5 (by omega); omega
      · have := h5 (by omega)
        exact ⟨by omega, by omega, fun h => by omega⟩
    obtain ⟨k1, k2⟩ := one_fold hok hd n (r + dR (rd .live B i) (rd .live k i) (now + 1)) (i + 1) (by omega) (by omega) hr.1 hr.2.1 hr.2.2
    obtain ⟨m1, m2, m3, m4⟩ := hok i h1 (by omega)
    exact ⟨⟨⟨m1, m2, m3, m4, h3, h4⟩, fun _ => k1⟩, k2⟩
theorem onePart_tru {l : List Fu.Live} {now : Int} (hm : mayL l now = true) : Tru (onePart l now) := by
  obtain ⟨h1, h2, h3⟩ := mayL_all hm
  have hB := begin_all h1 h2 (by omega) (by omega)
  have hS := step_all h1 h2 (by omega) (by omega)
  have lb : (beginAll l now).length = l.length := List.length_map _
  have ls : (stepL l now).length = l.length := by unfold stepL; rw [List.length_map, runFirst_len, lb]
  have hlen := h1.1
  obtain ⟨k1, k2, k3⟩ := one_fold (l := l) (B := beginAll l now) (k := stepL l now) (now := now) (f := firstL (beginAll l now)) (fun i k0 k1 =>
      ⟨⟨by omega, by omega, ⟨by omega, by omega⟩⟩, by
        show begun1 (rd .live l i) (rd .live (l.map (beginL now)) i) now
        rw [rd_map k0 k1]; exact begun1_begin (h1.2 _ (rd_memL k0 k1)) (Int.le_refl _), (hB.2 _ (rd_memL k0 (by omega))).small, (hS.2 _ (rd_memL k0 (by omega))).small⟩)
    (fun i k0 k1 => dR_at k0 (by omega)) ((l.length : Int) - 0).toNat 0 0 (Int.le_refl _) (by omega) (Int.le_refl _) (by omega) (fun _ => rfl)
  refine .asrt ⟨rfl, rfl⟩ (.asrt ⟨Int.le_refl _, by unfold maxI64; omega, k1⟩ ?_)
  cases hb : brkI nxtN brkN ((l.length : Int) - 0).toNat (l, beginAll l now, stepL l now, now, 0) 0 with
  | some b => exact Rez.itet rfl Tru.yes
  | none => exact Rez.itee rfl (Tru.of (by rw [decide_eq_true k2, decide_eq_true k3]; rfl))
theorem oneT_tru {l : List Fu.Live} {now : Int} (h : smallL l) : Tru (oneT l now) := by
  refine .asrt h (.ite (fun _ => .yes) fun hm => ?_)
  rw [Bool.or_eq_false_iff] at hm
  have hmay : mayL l now = true := by simpa using hm.1
  obtain ⟨h1, h2, h3⟩ := mayL_all hmay
  have hs := okSt_of h1 h2 (by omega) (by omega)
  have lb : (beginAll l now).length = l.length := List.length_map _
  have ls : (stepL l now).length = l.length := by unfold stepL; rw [List.length_map, runFirst_len, lb]
  refine .asrt hs.1 (.asrt hs (.ite (fun hc => ?_) fun _ => onePart_tru hmay))
  rw [lb, ls] at hc
  simp at hc
theorem conOne_valid : ValidCon c49.P 7 (lawCon good2L) := lawCon_of (n := 60) c49_good (by kernel_rfl) fun args ⟨l, now, h1, h2, _⟩ => by
  subst h1
  exact ⟨_, fOne l now, oneT_tru (smallL_of h2)⟩

end Go.Fx
