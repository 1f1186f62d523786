import Derived.Test.YtccfojgceohciaaB22
/- Contracts: the last end of a job; how much all must have done; the horizon. -/
namespace Go.Fx
open Go Go.Proofs

abbrev AL := List Fu.Fix × Int × Int
def TL (x : AL × Int) : St := ⟨puts (J 35) [(1, .int .i64 x.1.2.1), (5, .int .i64 x.1.2.2), (9, .view .fix x.1.1), (10, .int .i64 x.1.1.length), (11, .int .i64 x.2)], [], 0⟩
def sL : List Sh := sets (Js 35) [(1, .keep), (5, .int), (9, .keep), (10, .int), (11, .int)]
def eL : List Sh := sets (Js 35) [(5, .int)]
def EL (x : AL) : Ex × St := (.exit 0, ⟨puts (J 35) [(5, .int .i64 x.2.2)], [], 0⟩)
def lastW (x : Fu.Fix) (n : Int) : List Int := endsV x.S x.P 0 (IntKind.i64.wrap (n - 1))
def endN (l : List Int) : Int := IntKind.i64.wrap ((l.length : Int) - 1)
theorem bL (x : AL) (i : Int) : roundN c80 60 52 (loopAt c80.P 52 3) (norm2 0 [] [] sL) (norm2 0 [] [] eL) (TL (x, i)) =
    .ite (decide (i < x.1.length)) (.asrt (0 ≤ i ∧ i < x.1.length) (.asrt (decide (((lastW (rd .fix x.1 i) x.2.1).length : Int) > 0) = true → 0 ≤ endN (lastW (rd .fix x.1 i) x.2.1) ∧ endN (lastW (rd .fix x.1 i) x.2.1) < (lastW (rd .fix x.1 i) x.2.1).length)
      (.ret (.normal, TL ((x.1, x.2.1, bif decide (((lastW (rd .fix x.1 i) x.2.1).length : Int) > 0) then maxI x.2.2 (rd (.int .i64) (lastW (rd .fix x.1 i) x.2.1) (endN (lastW (rd .fix x.1 i) x.2.1))) else x.2.2), IntKind.i64.wrap (i + 1)))))) (.ret (EL x)) := by kernel_rfl
def gL (σ : St) : Option (AL × Int) :=
  match nth σ.tmps 1, nth σ.tmps 5, nth σ.tmps 9, nth σ.tmps 11 with
  | .int .i64 n, .int .i64 o, .view .fix l, .int .i64 i => some ((l, n, o), i)
  | _, _, _, _ => none
/-- The last end of a task's jobs ahead of a time. -/
def lastE (n : Int) (x : Fu.Fix) : Int := bif mayF x && (decide (1 ≤ n) && decide (n ≤ 5001)) then x.P * ((n - 1) / x.P) else 0
def nxtL (x : AL) (i : Int) : AL := (x.1, x.2.1, max x.2.2 (lastE x.2.1 (rd .fix x.1 i)))
def okL (x : AL) (_ : Int) : Prop := (-1099511627776 ≤ x.2.1 ∧ x.2.1 ≤ 1099511627776) ∧ 0 ≤ x.2.2
theorem stepsN_get (f b : Int) : ∀ (k i : Nat), i < k → (stepsN f b k)[i]? = some (f + b * i)
  | 0, i, h => by omega
  | k + 1, i, h => by
    unfold stepsN
    rcases Nat.lt_or_ge i k with h1 | h1
    · rw [List.getElem?_append_left (by rw [stepsN_len]; exact h1)]; exact stepsN_get f b k i h1
    · rw [List.getElem?_append_right (by rw [stepsN_len]; exact h1), stepsN_len, show i - k = 0 by omega, show i = k by omega]; rfl
theorem stepsL_len (f b u : Int) : (stepsL f b u).length = stepsK f b u := stepsN_len _ _ _
theorem last_eq {x : Fu.Fix} {n o : Int} (hn : -1099511627776 ≤ n ∧ n ≤ 1099511627776) (ho : 0 ≤ o) :
    ((lastW x n).length : Int) < 1099511627776 ∧ (bif decide (((lastW x n).length : Int) > 0) then maxI o (rd (.int .i64) (lastW x n) (endN (lastW x n))) else o) = max o (lastE n x) := by
  unfold lastW
  rw [wrap_fits (n := n - 1) (by omega) (by omega)]
  unfold endsV lastE
  cases hm : mayF x with
  | false =>
    have : unitsV x.S x.P = 0 := unitsV_zero.2 (by
      cases hp : perOK x.S x.P with
      | false => rfl
      | true => rw [mayF_iff.2 hp] at hm; cases hm)
    rw [this]
    simp
    omega
  | true =>
    have hp := mayF_per hm
    obtain ⟨⟨a1, a2, a3, _⟩, a4, a5⟩ := perOK_iff.1 hp
    have hu := unitsV_pos hp
    rw [show (unitsV x.S x.P == 0) = false by rw [beq_eq_false_iff_ne]; omega]
    by_cases h1 : 1 ≤ n ∧ n ≤ 5001
    · rw [show (false || (decide ((0 : Int) < 0) || (decide (0 > n - 1) || (decide (n - 1 > 1099511627776) || decide (n - 1 - 0 > 5000))))) = false by
        simp only [Bool.false_or, Bool.or_eq_false_iff, decide_eq_false_iff_not]; omega]
      simp only [cond_false, h1.1, h1.2, decide_true, Bool.and_self, cond_true]
      have hP : 1 ≤ x.P := by omega
      have hd := Int.ediv_nonneg (show 0 ≤ n - 1 by omega) (show 0 ≤ x.P by omega)
      have hmod := Int.mul_ediv_add_emod (n - 1) x.P
      have hm0 := Int.emod_nonneg (n - 1) (show x.P ≠ 0 by omega)
      have hm1 := Int.emod_lt_of_pos (n - 1) (show 0 < x.P by omega)
      have hself := Int.ediv_le_self x.P (show 0 ≤ n - 1 by omega)
      have hk : stepsK (0 + x.P) x.P (n - 1) = ((n - 1) / x.P).toNat := by
        have e1 : stepsK (0 + x.P) x.P (n - 1) ≤ ((n - 1) / x.P).toNat := by
          rcases Nat.lt_or_ge ((n - 1) / x.P).toNat (stepsK (0 + x.P) x.P (n - 1)) with h | h
          · have h2 := (stepsK_lt hP).2 h
            rw [show (((n - 1) / x.P).toNat : Int) = (n - 1) / x.P by omega] at h2
            omega
          · exact h
        rcases Nat.eq_zero_or_pos ((n - 1) / x.P).toNat with h | h
        · omega
        · have h2 : ((n - 1) / x.P).toNat - 1 < stepsK (0 + x.P) x.P (n - 1) := (stepsK_lt hP).1 (by
            rw [show ((((n - 1) / x.P).toNat - 1 : Nat) : Int) = (n - 1) / x.P - 1 by omega, Int.mul_sub, Int.mul_one]
            omega)
          omega
      simp only [stepsL_len, hk]
      refine ⟨by omega, ?_⟩
      have hge : 0 ≤ x.P * ((n - 1) / x.P) := Int.mul_nonneg (by omega) hd
      rcases Nat.eq_zero_or_pos ((n - 1) / x.P).toNat with h | h
      · rw [h, show (n - 1) / x.P = 0 by omega]
        simp
        omega
      · rw [decide_eq_true (show ((((n - 1) / x.P).toNat : Nat) : Int) > 0 by omega)]
        simp only [cond_true]
        have e : endN (stepsL (0 + x.P) x.P (n - 1)) = (n - 1) / x.P - 1 := by
          unfold endN
          rw [stepsL_len, hk, wrap_fits (by omega) (by omega)]
          omega
        rw [e, maxI_eq]
        congr 1
        unfold rd
        rw [List.getD_eq_getElem?_getD]
        unfold stepsL
        rw [hk, stepsN_get _ _ _ _ (by omega)]
        rw [show ((((n - 1) / x.P - 1).toNat : Nat) : Int) = (n - 1) / x.P - 1 by omega]
        show 0 + x.P + x.P * ((n - 1) / x.P - 1) = _
        rw [Int.mul_sub, Int.mul_one]
        omega
    · rw [show (false || (decide ((0 : Int) < 0) || (decide (0 > n - 1) || (decide (n - 1 > 1099511627776) || decide (n - 1 - 0 > 5000))))) = true by
        simp only [Bool.false_or, Bool.or_eq_true, decide_eq_true_eq]; omega]
      have : (decide (1 ≤ n) && decide (n ≤ 5001)) = false := by simp only [Bool.and_eq_false_iff, decide_eq_false_iff_not]; omega
      rw [this]
      simp
      omega
def LL : LoopCon := boundF 0 (norm2 0 [] [] sL) TL gL (fun x => x.1.length) okL nxtL EL
theorem lL (hs : SubOf c80.P 52 (.loop (loopAt c80.P 52 3))) : SoundLoop c80 (loopAt c80.P 52 3) LL :=
  bound_fold (C := c80) (g := 52) (l := 3) c80_good 60 0 _ _ (Weak.norm2 0 [] [] sL) (Weak.norm2 0 [] [] eL) hs TL gL (fun x => x.1.length) okL nxtL EL
    (fun _ => by intro h; cases h) (fun _ _ => rfl)
    (fun x i h0 hi hm hok => .of_eq (bL x i) (by
      unfold maxI64 at hm
      obtain ⟨k1, k2⟩ := last_eq (x := rd .fix x.1 i) hok.1 hok.2
      rw [wrap_fits (n := i + 1) (by omega) (by omega), k2]
      refine (Tree.out_ite_true (decide_eq_true hi)).2 ⟨⟨h0, hi⟩, fun hl => ?_, rfl⟩
      have hl := of_decide_eq_true hl
      unfold endN
      rw [wrap_fits (by omega) (by omega)]
      omega))
    (fun x i hi => .of_eq (bL x i) ((Tree.out_ite_false (decide_eq_false (by omega))).2 rfl))
noncomputable def c81 : Cfg := c80.addLoop 52 3 LL
theorem c81_good : GoodCfg c81 := c80_good.addLoop (by unfold OneLoop; kernel_rfl) lL
def lastV (l : List Fu.Fix) (n : Int) : Int := l.foldl (fun o x => max o (lastE n x)) 0
def lastT (l : List Fu.Fix) (n : Int) : Tree (AV × List Blk) :=
  .asrt (0 = 0 ∧ TL ((l, n, 0), 0) = TL ((l, n, 0), 0)) (.asrt (0 ≤ (0 : Int) ∧ (l.length : Int) ≤ maxI64 ∧ okI nxtL (fun _ _ => (none : Option Unit)) okL ((l.length : Int) - 0).toNat (l, n, 0) 0)
    (.ret (.int .i64 (foldI nxtL ((l.length : Int) - 0).toNat (l, n, 0) 0).2.2, [])))
theorem fLast (l : List Fu.Fix) (n : Int) : callC c81 60 52 [.view .fix l, .int .i64 n] = lastT l n := by kernel_rfl
theorem foldL {l : List Fu.Fix} {n : Int} (hn : -1099511627776 ≤ n ∧ n ≤ 1099511627776) (k : Nat) : ∀ (o i : Int), 0 ≤ i → i + k = l.length → 0 ≤ o →
    okI nxtL (fun _ _ => (none : Option Unit)) okL k (l, n, o) i ∧ foldI nxtL k (l, n, o) i = (l, n, (l.drop i.toNat).foldl (fun o x => max o (lastE n x)) o) := by
  induction k with
  | zero => intro o i h0 h1 h2; rw [drop_end (by omega)]; exact ⟨trivial, rfl⟩
  | succ k ih =>
    intro o i h0 h1 h2
    have hd := drop_rd (r := .fix) (xs := l) h0 (by omega)
    obtain ⟨k1, k2⟩ := ih (max o (lastE n (rd .fix l i))) (i + 1) (by omega) (by omega) (by omega)
    refine ⟨⟨⟨hn, h2⟩, fun _ => k1⟩, ?_⟩
    unfold foldI
    refine k2.trans ?_
    rw [hd]
    rfl
theorem lastT_rez {l : List Fu.Fix} {n : Int} (h : (l.length : Int) < 17592186044416 ∧ -1099511627776 ≤ n ∧ n ≤ 1099511627776) : Rez (lastT l n) (.int .i64 (lastV l n), []) := by
  obtain ⟨k1, k2⟩ := foldL (l := l) h.2 ((l.length : Int) - 0).toNat 0 0 (Int.le_refl _) (by omega) (Int.le_refl _)
  exact .asrt ⟨rfl, rfl⟩ (.asrt ⟨Int.le_refl _, by unfold maxI64; omega, k1⟩ (.ret (.eq (by rw [k2]; rfl)) rfl))
def conLast : Con := flatCon (d2 (dView .fix) dInt) (fun x => (x.1.length : Int) < 17592186044416 ∧ -1099511627776 ≤ x.2 ∧ x.2 ≤ 1099511627776) fun x => .int .i64 (lastV x.1 x.2)
theorem conLast_valid : ValidCon c81.P 52 conLast := flatCon_valid c81_good 60 (by kernel_rfl) fun x h => ⟨_, fLast x.1 x.2, lastT_rez h⟩
noncomputable def c82 : Cfg := c81.addQuiet 52 conLast
theorem c82_good : GoodCfg c82 := c81_good.addQuiet conLast_valid flatCon_quiet

def TAl (x : AL × Int) : St := ⟨puts (J 25) [(1, .int .i64 x.1.2.1), (5, .int .i64 x.1.2.2), (12, .view .fix x.1.1), (13, .int .i64 x.1.1.length), (14, .int .i64 x.2)], [], 0⟩
def sAl : List Sh := sets (Js 25) [(1, .keep), (5, .int), (12, .keep), (13, .int), (14, .int)]
def eAl : List Sh := sets (Js 25) [(5, .int)]
def EAl (x : AL) : Ex × St := (.exit 0, ⟨puts (J 25) [(5, .int .i64 x.2.2)], [], 0⟩)
theorem bAl (x : AL) (i : Int) : roundN c82 60 54 (loopAt c82.P 54 5) (norm2 0 [] [] sAl) (norm2 0 [] [] eAl) (TAl (x, i)) =
    .ite (decide (i < x.1.length)) (.asrt (0 ≤ i ∧ i < x.1.length) (.ret (.normal, TAl ((x.1, x.2.1, IntKind.i64.wrap (x.2.2 + ofV (rd .fix x.1 i) x.2.1)), IntKind.i64.wrap (i + 1))))) (.ret (EAl x)) := by kernel_rfl
def gAl (σ : St) : Option (AL × Int) :=
  match nth σ.tmps 1, nth σ.tmps 5, nth σ.tmps 12, nth σ.tmps 14 with
  | .int .i64 n, .int .i64 o, .view .fix l, .int .i64 i => some ((l, n, o), i)
  | _, _, _, _ => none
def nxtAl (x : AL) (i : Int) : AL := (x.1, x.2.1, x.2.2 + ofV (rd .fix x.1 i) x.2.1)
def okAl (x : AL) (_ : Int) : Prop := 0 ≤ x.2.2 ∧ x.2.2 ≤ 1152921504606846976
theorem ofV_range (x : Fu.Fix) (n : Int) : 0 ≤ ofV x n ∧ ofV x n ≤ 6597069766656 := by
  cases h : (mayF x && (decide (0 ≤ n) && decide (n ≤ 1099511627776))) with
  | false => unfold ofV; rw [h]; simp
  | true =>
    simp only [Bool.and_eq_true, decide_eq_true_eq] at h
    obtain ⟨_, _, _, _, _, _, k1, k2, _⟩ := of_val h.1 h.2.1 h.2.2
    omega
def LAl : LoopCon := boundF 0 (norm2 0 [] [] sAl) TAl gAl (fun x => x.1.length) okAl nxtAl EAl
theorem lAl (hs : SubOf c82.P 54 (.loop (loopAt c82.P 54 5))) : SoundLoop c82 (loopAt c82.P 54 5) LAl :=
  bound_fold (C := c82) (g := 54) (l := 5) c82_good 60 0 _ _ (Weak.norm2 0 [] [] sAl) (Weak.norm2 0 [] [] eAl) hs TAl gAl (fun x => x.1.length) okAl nxtAl EAl
    (fun _ => by intro h; cases h) (fun _ _ => rfl)
    (fun x i h0 hi hm hok => .of_eq (bAl x i) (by
      unfold maxI64 at hm
      unfold okAl at hok
      have hr := ofV_range (rd .fix x.1 i) x.2.1
      rw [wrap_fits (n := i + 1) (by omega) (by omega), wrap_fits (by omega) (by omega)]
      exact (Tree.out_ite_true (decide_eq_true hi)).2 ⟨⟨h0, hi⟩, rfl⟩))
    (fun x i hi => .of_eq (bAl x i) ((Tree.out_ite_false (decide_eq_false (by omega))).2 rfl))
noncomputable def c83 : Cfg := c82.addLoop 54 5 LAl
theorem c83_good : GoodCfg c83 := c82_good.addLoop (by unfold OneLoop; kernel_rfl) lAl
/-- How much all must. -/
def sumOf (l : List Fu.Fix) (n : Int) : Int := (l.map fun x => ofV x n).sum
def allV (l : List Fu.Fix) (n : Int) : Int := bif decide ((l.length : Int) > 1000) then 0 else sumOf l n
def allT (l : List Fu.Fix) (n : Int) : Tree (AV × List Blk) :=
  .ite (decide ((l.length : Int) > 1000)) (.ret (.lit .i64 0, [])) (.asrt (0 = 0 ∧ TAl ((l, n, 0), 0) = TAl ((l, n, 0), 0)) (.asrt (0 ≤ (0 : Int) ∧ (l.length : Int) ≤ maxI64 ∧ okI nxtAl (fun _ _ => (none : Option Unit)) okAl ((l.length : Int) - 0).toNat (l, n, 0) 0)
    (.ret (.int .i64 (foldI nxtAl ((l.length : Int) - 0).toNat (l, n, 0) 0).2.2, []))))
theorem fAll (l : List Fu.Fix) (n : Int) : callC c83 60 54 [.view .fix l, .int .i64 n] = allT l n := by kernel_rfl
theorem foldAl {l : List Fu.Fix} {n : Int} (k : Nat) : ∀ (o i : Int), 0 ≤ i → i + k = l.length → 0 ≤ o → o + k * 6597069766656 ≤ 1152921504606846976 →
    okI nxtAl (fun _ _ => (none : Option Unit)) okAl k (l, n, o) i ∧ foldI nxtAl k (l, n, o) i = (l, n, o + sumOf (l.drop i.toNat) n) := by
  induction k with
  | zero => intro o i h0 h1 h2 h3; rw [drop_end (by omega)]; exact ⟨trivial, by simp [foldI, sumOf]⟩
  | succ k ih =>
    intro o i h0 h1 h2 h3
    have hd := drop_rd (r := .fix) (xs := l) h0 (by omega)
    have hr := ofV_range (rd .fix l i) n
    obtain ⟨k1, k2⟩ := ih (o + ofV (rd .fix l i) n) (i + 1) (by omega) (by omega) (by omega) (by omega)
    refine ⟨⟨⟨h2, by show o ≤ 1152921504606846976; omega⟩, fun _ => k1⟩, ?_⟩
    unfold foldI
    refine k2.trans ?_
    rw [hd]
    simp only [sumOf, List.map_cons, List.sum_cons, Int.add_assoc]
theorem allT_rez (l : List Fu.Fix) (n : Int) : Rez (allT l n) (.int .i64 (allV l n), []) := by
  unfold allT allV
  cases h : decide ((l.length : Int) > 1000) with
  | true => exact .itet rfl (.ret (.lit rfl) rfl)
  | false =>
    have h := of_decide_eq_false h
    obtain ⟨k1, k2⟩ := foldAl (l := l) (n := n) ((l.length : Int) - 0).toNat 0 0 (Int.le_refl _) (by omega) (Int.le_refl _) (by omega)
    exact .itee rfl (.asrt ⟨rfl, rfl⟩ (.asrt ⟨Int.le_refl _, by unfold maxI64; omega, k1⟩ (.ret (.eq (by rw [k2, Int.zero_add]; rfl)) rfl)))
def conAll : Con := plainCon (d2 (dView .fix) dInt) fun x => .int .i64 (allV x.1 x.2)
theorem conAll_valid : ValidCon c83.P 54 conAll := plainCon_valid c83_good 60 (by kernel_rfl) fun x => ⟨_, fAll x.1 x.2, allT_rez x.1 x.2⟩
noncomputable def c84 : Cfg := c83.addQuiet 54 conAll
theorem c84_good : GoodCfg c84 := c83_good.addQuiet conAll_valid plainCon_quiet

abbrev AHz := List Fu.Fix × Int
def THz (x : AHz × Int) : St := ⟨puts (J 30) [(3, .int .i64 x.1.2), (11, .view .fix x.1.1), (12, .int .i64 x.1.1.length), (13, .int .i64 x.2)], [], 0⟩
def sHz : List Sh := sets (Js 30) [(3, .int), (11, .keep), (12, .int), (13, .int)]
def eHz : List Sh := sets (Js 30) [(3, .int)]
def EHz (x : AHz) : Ex × St := (.exit 0, ⟨puts (J 30) [(3, .int .i64 x.2)], [], 0⟩)
theorem bHz (x : AHz) (i : Int) : roundN c84 60 53 (loopAt c84.P 53 5) (norm2 0 [] [] sHz) (norm2 0 [] [] eHz) (THz (x, i)) =
    .ite (decide (i < x.1.length)) (.asrt (0 ≤ i ∧ i < x.1.length) (.ret (.normal, THz ((x.1, IntKind.i64.wrap (x.2 + (rd .fix x.1 i).S.C)), IntKind.i64.wrap (i + 1))))) (.ret (EHz x)) := by kernel_rfl
def gHz (σ : St) : Option (AHz × Int) :=
  match nth σ.tmps 3, nth σ.tmps 11, nth σ.tmps 13 with
  | .int .i64 o, .view .fix l, .int .i64 i => some ((l, o), i)
  | _, _, _ => none
def nxtHz (x : AHz) (i : Int) : AHz := (x.1, x.2 + (rd .fix x.1 i).S.C)
def okHz (x : AHz) (i : Int) : Prop := (0 ≤ x.2 ∧ x.2 ≤ 1099511627776) ∧ (0 ≤ (rd .fix x.1 i).S.C ∧ (rd .fix x.1 i).S.C ≤ 6)
def LHz : LoopCon := boundF 0 (norm2 0 [] [] sHz) THz gHz (fun x => x.1.length) okHz nxtHz EHz
theorem lHz (hs : SubOf c84.P 53 (.loop (loopAt c84.P 53 5))) : SoundLoop c84 (loopAt c84.P 53 5) LHz :=
  bound_fold (C := c84) (g := 53) (l := 5) c84_good 60 0 _ _ (Weak.norm2 0 [] [] sHz) (Weak.norm2 0 [] [] eHz) hs THz gHz (fun x => x.1.length) okHz nxtHz EHz
    (fun _ => by intro h; cases h) (fun _ _ => rfl)
    (fun x i h0 hi hm hok => .of_eq (bHz x i) (by
      unfold maxI64 at hm
      obtain ⟨⟨h1, h2⟩, h3, h4⟩ := hok
      rw [wrap_fits (n := i + 1) (by omega) (by omega), wrap_fits (by omega) (by omega)]
      exact (Tree.out_ite_true (decide_eq_true hi)).2 ⟨⟨h0, hi⟩, rfl⟩))
    (fun x i hi => .of_eq (bHz x i) ((Tree.out_ite_false (decide_eq_false (by omega))).2 rfl))
noncomputable def c85 : Cfg := c84.addLoop 53 5 LHz
theorem c85_good : GoodCfg c85 := c84_good.addLoop (by unfold OneLoop; kernel_rfl) lHz
def hzV (l : List Fu.Fix) : Int := bif mayFs l then 16 * (l.map fun x => x.S.C).sum else 0
def hzT (l : List Fu.Fix) : Tree (AV × List Blk) :=
  .asrt ((l.length : Int) < 17592186044416) (.ite (!mayFs l) (.ret (.lit .i64 0, [])) (.asrt (0 = 0 ∧ THz ((l, 0), 0) = THz ((l, 0), 0)) (.asrt (0 ≤ (0 : Int) ∧ (l.length : Int) ≤ maxI64 ∧ okI nxtHz (fun _ _ => (none : Option Unit)) okHz ((l.length : Int) - 0).toNat (l, 0) 0)
    (.ret (.int .i64 (ceilV (IntKind.i64.wrap ((foldI nxtHz ((l.length : Int) - 0).toNat (l, 0) 0).2 * 1048576)) 65536), [])))))
theorem fHz (l : List Fu.Fix) : callC c85 60 53 [.view .fix l] = hzT l := by kernel_rfl
theorem foldHz {l : List Fu.Fix} (h : ∀ x ∈ l, 0 ≤ x.S.C ∧ x.S.C ≤ 6) (k : Nat) : ∀ (r i : Int), 0 ≤ i → i + k = l.length → 0 ≤ r → r + k * 6 ≤ 1099511627776 →
    okI nxtHz (fun _ _ => (none : Option Unit)) okHz k (l, r) i ∧ (foldI nxtHz k (l, r) i).2 = r + ((l.drop i.toNat).map fun x => x.S.C).sum ∧ 0 ≤ ((l.drop i.toNat).map fun x => x.S.C).sum ∧ ((l.drop i.toNat).map fun x => x.S.C).sum ≤ 6 * k := by
  induction k with
  | zero =>
    intro r i h0 h1 h2 h3
    rw [drop_end (by omega)]
    exact ⟨trivial, by simp [foldI], by simp, by simp⟩
  | succ k ih =>
    intro r i h0 h1 h2 h3
    have hd := drop_rd (r := .fix) (xs := l) h0 (by omega)
    have hx := h (rd .fix l i) (by
      have : rd .fix l i ∈ l.drop i.toNat := by rw [hd]; simp
      exact List.mem_of_mem_drop this)
    have hok : okHz (l, r) i := ⟨⟨h2, by show r ≤ 1099511627776; omega⟩, hx⟩
    obtain ⟨k1, k2, k3, k4⟩ := ih (r + (rd .fix l i).S.C) (i + 1) (by omega) (by omega) (by omega) (by omega)
    have e : ((l.drop i.toNat).map fun x => x.S.C).sum = (rd .fix l i).S.C + ((l.drop (i + 1).toNat).map fun x => x.S.C).sum := by rw [hd]; simp
    refine ⟨⟨hok, fun _ => k1⟩, ?_, by omega, by omega⟩
    unfold foldI
    refine k2.trans ?_
    omega
theorem mayFs_mem {l : List Fu.Fix} (h : mayFs l = true) : l.length ≤ 4 ∧ ∀ x ∈ l, mayF x = true := by
  unfold mayFs at h
  simp only [Bool.and_eq_true, decide_eq_true_eq, List.all_eq_true] at h
  exact ⟨by omega, h.1⟩
theorem hzT_rez {l : List Fu.Fix} (hl : (l.length : Int) < 17592186044416) : Rez (hzT l) (.int .i64 (hzV l), []) := by
  refine .asrt hl ?_
  unfold hzV
  cases hc : mayFs l with
  | false => exact .itet rfl (.ret (.lit rfl) rfl)
  | true =>
    refine .itee rfl ?_
    obtain ⟨h5, h4⟩ := mayFs_mem hc
    obtain ⟨k1, k2, k3, k4⟩ := foldHz (l := l) (fun x hx => (mayF_C (h4 x hx)).2) ((l.length : Int) - 0).toNat 0 0 (Int.le_refl _) (by omega) (by omega) (by omega)
    rw [show (0 : Int).toNat = 0 from rfl, List.drop_zero] at k2 k3 k4
    refine .asrt ⟨rfl, rfl⟩ (.asrt ⟨Int.le_refl _, by unfold maxI64; omega, k1⟩ (.ret (.eq ?_) rfl))
    rw [k2, wrap_fits (by omega) (by omega), ceilV_of (by omega) (by omega) (by omega) (by omega)]
    rw [show cdiv ((0 + (l.map fun x => x.S.C).sum) * 1048576) 65536 = 16 * (l.map fun x => x.S.C).sum from cdiv_unique (by omega) (by omega) (by omega)]
    rfl
def conHz : Con := flatCon (d1 (dView .fix)) (fun l => (l.length : Int) < 17592186044416) fun l => .int .i64 (hzV l)
theorem conHz_valid : ValidCon c85.P 53 conHz := flatCon_valid c85_good 60 (by kernel_rfl) fun l h => ⟨_, fHz l, hzT_rez h⟩
noncomputable def c86 : Cfg := c85.addQuiet 53 conHz
theorem c86_good : GoodCfg c86 := c85_good.addQuiet conHz_valid flatCon_quiet

end Go.Fx
