import Derived.Test.YtccfojgceohciaaB19
/- Contracts: how long it takes till tasks may be. -/
namespace Go.Fx
open Go Go.Proofs

abbrev AQ := List Fu.Fix × Int
def TQ (x : AQ × Int) : St := ⟨puts (J 41) [(1, .int .i64 x.1.2), (20, .view .fix x.1.1), (21, .int .i64 x.1.1.length), (22, .int .i64 x.2)], [], 0⟩
def sQ : List Sh := sets (Js 41) [(1, .int), (20, .keep), (21, .int), (22, .int)]
def eQ : List Sh := sets (Js 41) [(1, .int)]
def EQ (x : AQ) : Ex × St := (.exit 0, ⟨puts (J 41) [(1, .int .i64 x.2)], [], 0⟩)
theorem bQ (x : AQ) (i : Int) : roundN c74 60 31 (loopAt c74.P 31 4) (norm2 0 [] [] sQ) (norm2 0 [] [] eQ) (TQ (x, i)) =
    .ite (decide (i < x.1.length)) (.asrt (0 ≤ i ∧ i < x.1.length) (.ret (.normal, TQ ((x.1, IntKind.i64.wrap (x.2 + IntKind.i64.wrap (2 * (rd .fix x.1 i).S.C))), IntKind.i64.wrap (i + 1))))) (.ret (EQ x)) := by kernel_rfl
def gQ (σ : St) : Option (AQ × Int) :=
  match nth σ.tmps 1, nth σ.tmps 20, nth σ.tmps 22 with
  | .int .i64 r, .view .fix l, .int .i64 i => some ((l, r), i)
  | _, _, _ => none
def nxtQ (x : AQ) (i : Int) : AQ := (x.1, x.2 + 2 * (rd .fix x.1 i).S.C)
def okQ (x : AQ) (i : Int) : Prop := (0 ≤ x.2 ∧ x.2 ≤ 1099511627776) ∧ (0 ≤ (rd .fix x.1 i).S.C ∧ (rd .fix x.1 i).S.C ≤ 6)
def LQ : LoopCon := boundF 0 (norm2 0 [] [] sQ) TQ gQ (fun x => x.1.length) okQ nxtQ EQ
theorem lQ (hs : SubOf c74.P 31 (.loop (loopAt c74.P 31 4))) : SoundLoop c74 (loopAt c74.P 31 4) LQ :=
  bound_fold (C := c74) (g := 31) (l := 4) c74_good 60 0 _ _ (Weak.norm2 0 [] [] sQ) (Weak.norm2 0 [] [] eQ) hs TQ gQ (fun x => x.1.length) okQ nxtQ EQ
    (fun _ => by intro h; cases h) (fun _ _ => rfl)
    (fun x i h0 hi hm hok => .of_eq (bQ x i) (by
      unfold maxI64 at hm
      obtain ⟨⟨h1, h2⟩, h3, h4⟩ := hok
      rw [wrap_fits (n := i + 1) (by omega) (by omega), wrap_fits (n := 2 * (rd .fix x.1 i).S.C) (by omega) (by omega), wrap_fits (by omega) (by omega)]
      exact (Tree.out_ite_true (decide_eq_true hi)).2 ⟨⟨h0, hi⟩, rfl⟩))
    (fun x i hi => .of_eq (bQ x i) ((Tree.out_ite_false (decide_eq_false (by omega))).2 rfl))
noncomputable def c75 : Cfg := c74.addLoop 31 4 LQ
theorem c75_good : GoodCfg c75 := c74_good.addLoop (by unfold OneLoop; kernel_rfl) lQ
def boundT (l : List Fu.Fix) (r : Int) : Tree (AV × List Blk) :=
  .asrt ((l.length : Int) < 17592186044416) (.ite (!mayFs l || (decide (r < 0) || decide (r > 1048576))) (.ret (.lit .i64 0, [])) (.asrt (0 = 0 ∧ TQ ((l, r), 0) = TQ ((l, r), 0)) (.asrt (0 ≤ (0 : Int) ∧ (l.length : Int) ≤ maxI64 ∧ okI nxtQ (fun _ _ => (none : Option Unit)) okQ ((l.length : Int) - 0).toNat (l, r) 0)
    (.ret (.int .i64 (IntKind.i64.wrap (ceilV (IntKind.i64.wrap ((foldI nxtQ ((l.length : Int) - 0).toNat (l, r) 0).2 * 1048576)) 65536 + 1)), [])))))
theorem fBound (l : List Fu.Fix) (r : Int) : callC c75 60 31 [.view .fix l, .int .i64 r] = boundT l r := by kernel_rfl
def sumC (l : List Fu.Fix) : Int := (l.map fun x => x.S.C).sum
def planB (l : List Fu.Fix) (r : Int) : Int := bif !mayFs l || (decide (r < 0) || decide (r > 1048576)) then 0 else 16 * (r + 2 * sumC l) + 1
theorem mayF_C {x : Fu.Fix} (h : mayF x = true) : perOK x.S x.P = true ∧ 0 ≤ x.S.C ∧ x.S.C ≤ 6 := by
  have h1 := of_decide_eq_true h
  cases hp : perOK x.S x.P with
  | false => rw [unitsV_zero.2 hp] at h1; omega
  | true =>
    have := (perOK_iff.1 hp).1.1
    exact ⟨rfl, by omega, by omega⟩
theorem foldQ {l : List Fu.Fix} (h : ∀ x ∈ l, 0 ≤ x.S.C ∧ x.S.C ≤ 6) (k : Nat) : ∀ (r i : Int), 0 ≤ i → i + k = l.length → 0 ≤ r → r + k * 12 ≤ 1099511627776 →
    okI nxtQ (fun _ _ => (none : Option Unit)) okQ k (l, r) i ∧ (foldI nxtQ k (l, r) i).2 = r + 2 * sumC (l.drop i.toNat) ∧ 0 ≤ sumC (l.drop i.toNat) ∧ sumC (l.drop i.toNat) ≤ 6 * k := by
  induction k with
  | zero =>
    intro r i h0 h1 h2 h3
    rw [drop_end (by omega)]
    exact ⟨trivial, by simp [foldI, sumC], by simp [sumC], by simp [sumC]⟩
  | succ k ih =>
    intro r i h0 h1 h2 h3
    have hd := drop_rd (r := .fix) (xs := l) h0 (by omega)
    have hx := h (rd .fix l i) (by
      have : rd .fix l i ∈ l.drop i.toNat := by rw [hd]; simp
      exact List.mem_of_mem_drop this)
    have hok : okQ (l, r) i := ⟨⟨h2, by show r ≤ 1099511627776; omega⟩, hx⟩
    obtain ⟨k1, k2, k3, k4⟩ := ih (r + 2 * (rd .fix l i).S.C) (i + 1) (by omega) (by omega) (by omega) (by omega)
    have e : sumC (l.drop i.toNat) = (rd .fix l i).S.C + sumC (l.drop (i + 1).toNat) := by rw [hd]; simp [sumC]
    refine ⟨⟨hok, fun _ => k1⟩, ?_, by omega, by omega⟩
    unfold foldI
    refine k2.trans ?_
    omega
theorem boundT_rez {l : List Fu.Fix} {r : Int} (hl : (l.length : Int) < 17592186044416) : Rez (boundT l r) (.int .i64 (planB l r), []) := by
  refine .asrt hl ?_
  unfold planB
  cases hc : (!mayFs l || (decide (r < 0) || decide (r > 1048576))) with
  | true => exact .itet rfl (.ret (.lit rfl) rfl)
  | false =>
    refine .itee rfl ?_
    simp only [Bool.or_eq_false_iff, decide_eq_false_iff_not, Bool.not_eq_false'] at hc
    obtain ⟨h1, h2, h3⟩ := hc
    unfold mayFs at h1
    simp only [Bool.and_eq_true, decide_eq_true_eq, List.all_eq_true] at h1
    obtain ⟨h4, h5, _⟩ := h1
    obtain ⟨k1, k2, k3, k4⟩ := foldQ (l := l) (fun x hx => (mayF_C (h4 x hx)).2) ((l.length : Int) - 0).toNat r 0 (Int.le_refl _) (by omega) (by omega) (by omega)
    rw [show (0 : Int).toNat = 0 from rfl, List.drop_zero] at k2 k3 k4
    refine .asrt ⟨rfl, rfl⟩ (.asrt ⟨Int.le_refl _, by unfold maxI64; omega, k1⟩ (.ret (.eq ?_) rfl))
    rw [k2, wrap_fits (n := (r + 2 * sumC l) * 1048576) (by omega) (by omega), ceilV_of (by omega) (by omega) (by omega) (by omega)]
    have e : cdiv ((r + 2 * sumC l) * 1048576) 65536 = 16 * (r + 2 * sumC l) := cdiv_unique (by omega) (by omega) (by omega)
    rw [e, wrap_fits (by omega) (by omega)]
    rfl
def conBound : Con := flatCon (d2 (dView .fix) dInt) (fun x => (x.1.length : Int) < 17592186044416) fun x => .int .i64 (planB x.1 x.2)
theorem conBound_valid : ValidCon c75.P 31 conBound := flatCon_valid c75_good 60 (by kernel_rfl) fun x h => ⟨_, fBound x.1 x.2, boundT_rez h⟩
noncomputable def c76 : Cfg := c75.addQuiet 31 conBound
theorem c76_good : GoodCfg c76 := c75_good.addQuiet conBound_valid flatCon_quiet

end Go.Fx
