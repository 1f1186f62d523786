/- Contracts: tasks as they are looked on: which may be. -/
import Derived.Test.YtccfojgceohciaaB6
import Derived.Test.YtccfojgceohciaaPlC
namespace Go.Fx
open Go Go.Proofs

theorem fMust (j : Fu.Job) : callC c25 100 34 [.agg (encJob j)] = .asrt (j.On = true → j.Mand = true → smallC j) (.ret (.bool (mustJ j), [])) := by kernel_rfl
def conMust : Con := flatCon (d1 dJob) smallC fun j => .bool (mustJ j)
theorem conMust_valid : ValidCon c25.P 34 conMust := flatCon_valid c25_good 100 (by kernel_rfl) fun j h => ⟨_, fMust j, .asrt (fun _ _ => h) (.ret (.refl _) rfl)⟩
noncomputable def c26 : Cfg := c25.addQuiet 34 conMust
theorem c26_good : GoodCfg c26 := c25_good.addQuiet conMust_valid flatCon_quiet
theorem fRMust (j : Fu.Job) : callC c26 100 36 [.agg (encJob j)] = .asrt (j.On = true → j.Mand = true → smallC j) (.ret (.bool (mustJ j), [])) := by kernel_rfl
theorem conRMust_valid : ValidCon c26.P 36 conMust := flatCon_valid c26_good 100 (by kernel_rfl) fun j h => ⟨_, fRMust j, .asrt (fun _ _ => h) (.ret (.refl _) rfl)⟩
noncomputable def c27 : Cfg := c26.addQuiet 36 conMust
theorem c27_good : GoodCfg c27 := c26_good.addQuiet conRMust_valid flatCon_quiet

def dLive : Dc Fu.Live := dRow .live
def lastM (x : Fu.Live) (n : Int) : Bool := !x.J.On || decide (x.J.Rel < n) && (x.J.Due == x.At && x.N == IntKind.i64.wrap (x.J.J + 1))
theorem lastM_iff {x : Fu.Live} {n : Int} (h : JobOK x.S x.J) : lastM x n = true ↔ (x.J.On = false ∨ (x.J.Rel < n ∧ x.J.Due = x.At ∧ x.N = x.J.J + 1)) := by
  unfold lastM
  rcases h.2 with h1 | ⟨h1, h2, _⟩
  · simp [h1.1]
  · rw [wrap_fits (by omega) (by omega)]
    simp [h1]
theorem jobOK_spec {s : Fu.Spec} {j : Fu.Job} (h : JobOK s j) : SpecOK s := h.1
def conMay1 : Con := flatCon (d2 dLive dInt) (fun x => nowOK x.2) fun x => .bool (mayL1 x.1 x.2)
def may1T (x : Fu.Live) (n : Int) : Tree (AV × List Blk) :=
  .ite (!mayS x.S) noB (.ite (unitsV x.S x.P == 0) noB (.ite (!(decide (x.At ≥ n) && decide (x.At ≤ IntKind.i64.wrap (n + 48)))) noB (.ite (!(decide (x.N ≥ 0) && decide (x.N ≤ 549755813888))) noB
    (.ite (!mayJ x.S x.J) noB (.ret (.bool (lastM x n), []))))))
theorem fMay1 (x : Fu.Live) (n : Int) : callC c27 100 44 [.agg (encLive x), .int .i64 n] = may1T x n := by kernel_rfl
theorem may1T_rez {x : Fu.Live} {n : Int} (hn : nowOK n) : Rez (may1T x n) (.bool (mayL1 x n), []) := by
  obtain ⟨hn1, hn2⟩ := hn
  unfold may1T
  rw [wrap_fits (by omega) (by omega)]
  refine ite_rez (fun h => noB_rez (decide_eq_false fun hl => ?_)) fun h1 => ite_rez (fun h => noB_rez (decide_eq_false fun hl => ?_)) fun h2 => ite_rez (fun h => noB_rez (decide_eq_false fun hl => ?_)) fun h3 =>
    ite_rez (fun h => noB_rez (decide_eq_false fun hl => ?_)) fun h4 => ite_rez (fun h => noB_rez (decide_eq_false fun hl => ?_)) fun h5 => retB ?_
  · rw [mayS_iff.2 (perOK_iff.1 hl.1).1] at h; cases h
  · have := unitsV_pos hl.1; simp at h; omega
  · obtain ⟨_, h6, _⟩ := hl; simp at h; omega
  · obtain ⟨_, _, h6, _⟩ := hl; simp at h; omega
  · obtain ⟨_, _, _, h6, _⟩ := hl
    unfold mayJ at h; rw [decide_eq_true h6] at h; cases h
  · have h6 : JobOK x.S x.J := by unfold mayJ at h5; simpa using h5
    have h7 : perOK x.S x.P = true := by
      cases hp : perOK x.S x.P with
      | true => rfl
      | false => rw [unitsV_zero.2 hp] at h2; cases h2
    simp at h3 h4
    unfold mayL1
    rw [Bool.eq_iff_iff, decide_eq_true_eq, lastM_iff h6]
    constructor
    · intro h; exact ⟨h7, by omega, by omega, h6, h⟩
    · intro h; exact h.2.2.2.2
theorem conMay1_valid : ValidCon c27.P 44 conMay1 := flatCon_valid c27_good 100 (by kernel_rfl) fun x h => ⟨_, fMay1 x.1 x.2, may1T_rez h⟩
noncomputable def c28 : Cfg := c27.addQuiet 44 conMay1
theorem c28_good : GoodCfg c28 := c27_good.addQuiet conMay1_valid flatCon_quiet
def may1R (x : Fu.Live) (n : Int) : Tree (AV × List Blk) :=
  .ite (!mayS x.S || (!mayJ x.S x.J || (decide (x.P < x.S.T) || (decide (x.P > x.S.Max) || (decide (x.At < n) || (decide (x.At > IntKind.i64.wrap (n + 48)) || (decide (x.N < 0) || decide (x.N > 549755813888)))))))) noB (.ret (.bool (lastM x n), []))
theorem fRMay1 (x : Fu.Live) (n : Int) : callC c28 100 45 [.agg (encLive x), .int .i64 n] = may1R x n := by kernel_rfl
theorem may1R_rez {x : Fu.Live} {n : Int} (hn : nowOK n) : Rez (may1R x n) (.bool (mayL1 x n), []) := by
  obtain ⟨hn1, hn2⟩ := hn
  unfold may1R
  rw [wrap_fits (by omega) (by omega)]
  refine ite_rez (fun h => noB_rez (decide_eq_false fun hl => ?_)) fun h => retB ?_
  · obtain ⟨h1, h2, h3, h4, _⟩ := hl
    obtain ⟨h5, h6, h7⟩ := perOK_iff.1 h1
    have e1 : mayJ x.S x.J = true := decide_eq_true h4
    rw [mayS_iff.2 h5, e1] at h
    simp at h
    omega
  · simp only [Bool.or_eq_false_iff, decide_eq_false_iff_not, Bool.not_eq_false'] at h
    obtain ⟨h1, h2, h3, h4, h5, h6, h7, h8⟩ := h
    have h9 : JobOK x.S x.J := by unfold mayJ at h2; simpa using h2
    unfold mayL1
    rw [Bool.eq_iff_iff, decide_eq_true_eq, lastM_iff h9]
    constructor
    · intro h; exact ⟨perOK_iff.2 ⟨h9.1, by omega, by omega⟩, by omega, by omega, h9, h⟩
    · intro h; exact h.2.2.2.2
theorem conRMay1_valid : ValidCon c28.P 45 conMay1 := flatCon_valid c28_good 100 (by kernel_rfl) fun x h => ⟨_, fRMay1 x.1 x.2, may1R_rez h⟩
noncomputable def c29 : Cfg := c28.addQuiet 45 conMay1
theorem c29_good : GoodCfg c29 := c28_good.addQuiet conRMay1_valid flatCon_quiet

/-! ### live.May -/
def decPv1 : AV → Option Int
  | .pv [c] => c.i
  | _ => none
theorem AsArg.pv1 {v : AV} {n : Int} (h : decPv1 v = some n) : AsArg v (.pv [.int .i64 n]) := by
  unfold decPv1 at h
  split at h
  · refine ⟨fun hr => ?_⟩
    cases hr with
    | pv hs hc hr =>
      obtain ⟨u, rfl, hu⟩ := hr.one_inv
      exact .pv hs hc ((AsArg.i h).reps hu) .nil
  · cases h
def dPv1 : Dc Int := ⟨decPv1, fun n => .pv [.int .i64 n], fun _ _ h => .pv1 h⟩
theorem fMayC (x : Fu.Live) (n : Int) : callC c29 100 43 [.agg (encLive x), .pv [.int .i64 n]] = .asrt (nowOK n) (.ret (.bool (!mayL1 x n), [])) := by kernel_rfl
def conMayC : Con := flatCon (d2 dLive dPv1) (fun x => nowOK x.2) fun x => .bool (!mayL1 x.1 x.2)
theorem conMayC_valid : ValidCon c29.P 43 conMayC := flatCon_valid c29_good 100 (by kernel_rfl) fun x h => ⟨_, fMayC x.1 x.2, .asrt h (.ret (.refl _) rfl)⟩
noncomputable def c30 : Cfg := c29.addQuiet 43 conMayC
theorem c30_good : GoodCfg c30 := c29_good.addQuiet conMayC_valid flatCon_quiet
/-! the search for one that may not be -/
def fnMay (n : Int) : AV := .fn (.func 43) [] [.pv [.int .i64 n]]
abbrev XI := Int × (List Fu.Live × Int) × Int
def TI (x : XI) : St := ⟨puts (J 19) [(0, .view .live x.2.1.1), (1, fnMay x.2.1.2), (7, .int .i64 x.1), (8, .int .i64 x.2.2)], [], 0⟩
def sI : List Sh := sets (Js 19) [(0, .keep), (1, .keep), (7, .keep), (8, .int)]
def eI : List Sh := sets (Js 19) [(4, .keep)]
def badAt (x : List Fu.Live × Int) (i : Int) : Bool := !mayL1 (rd .live x.1 i) x.2
def RI (i : Int) : Ex × St := (.ret, ⟨puts (J 19) [(4, .int .i64 i)], [], 0⟩)
def EI (_ : List Fu.Live × Int) : Ex × St := (.exit 0, ⟨J 19, [], 0⟩)
theorem bI (N : Int) (x : List Fu.Live × Int) (i : Int) : roundN c30 60 60 (loopAt c30.P 60 2) (norm2 0 [] [] sI) (norm2 0 [] [] eI) (TI (N, x, i)) =
    .ite (decide (i < N)) (.asrt (0 ≤ i ∧ i < x.1.length) (.asrt (nowOK x.2) (.ite (badAt x i) (.ret (RI i)) (.ret (.normal, TI (N, x, IntKind.i64.wrap (i + 1))))))) (.ret (EI x)) := by kernel_rfl
def gI (σ : St) : Option XI :=
  match nth σ.tmps 0, nth σ.tmps 1, nth σ.tmps 7, nth σ.tmps 8 with
  | .view .live xs, .fn (.func 43) [] [.pv [.int .i64 n]], .int .i64 N, .int .i64 i => some (N, (xs, n), i)
  | _, _, _, _ => none
def okIx (x : List Fu.Live × Int) (i : Int) : Prop := i < x.1.length ∧ nowOK x.2
def brkIx (x : List Fu.Live × Int) (i : Int) : Option Int := bif badAt x i then some i else none
def LI : LoopCon := countB 0 (norm2 0 [] [] sI) TI gI okIx (fun x _ => x) brkIx 0 RI EI
theorem lI (hs : SubOf c30.P 60 (.loop (loopAt c30.P 60 2))) : SoundLoop c30 (loopAt c30.P 60 2) LI :=
  count_loop (C := c30) (g := 60) (l := 2) c30_good 60 0 _ _ (Weak.norm2 0 [] [] sI) (Weak.norm2 0 [] [] eI) hs TI gI okIx (fun x _ => x) brkIx 0 RI EI (fun _ => by intro h; cases h) (fun _ => by intro h; cases h)
    (fun N x i h0 hi hm hok => .of_eq (bI N x i) (by
      refine (Tree.out_ite_true (decide_eq_true hi)).2 ⟨⟨h0, hok.1⟩, hok.2, ?_⟩
      unfold brkIx
      cases badAt x i with
      | true => exact (Tree.out_ite_true rfl).2 rfl
      | false =>
        unfold maxI64 at hm
        rw [wrap_fits (by omega) (by omega)]
        exact (Tree.out_ite_false rfl).2 rfl))
    (fun N x i hi => .of_eq (bI N x i) ((Tree.out_ite_false (decide_eq_false (by omega))).2 rfl))
noncomputable def c31 : Cfg := c30.addLoop 60 2 LI
theorem c31_good : GoodCfg c31 := c30_good.addLoop (by unfold OneLoop; kernel_rfl) lI
def containsT (xs : List Fu.Live) (n : Int) : Tree (AV × List Blk) :=
  .asrt (0 = 0 ∧ TI ((xs.length : Int), (xs, n), 0) = TI ((xs.length : Int), (xs, n), 0)) (.asrt (0 ≤ (0 : Int) ∧ (xs.length : Int) ≤ maxI64 ∧ okI (fun x _ => x) brkIx okIx ((xs.length : Int) - 0).toNat (xs, n) 0)
    (optT 0 (brkI (fun x _ => x) brkIx ((xs.length : Int) - 0).toNat (xs, n) 0) (fun i => .ret (.bool (decide (i ≥ 0)), [])) (.ret (.blit false, []))))
theorem fContains (xs : List Fu.Live) (n : Int) : callC c31 60 42 [.view .live xs, fnMay n] = containsT xs n := by kernel_rfl
theorem brkIx_any (xs : List Fu.Live) (n : Int) : ∀ (k : Nat) (i : Int), 0 ≤ i → i + k = xs.length → match brkI (fun x _ => x) brkIx k (xs, n) i with | some j => 0 ≤ j ∧ (xs.drop i.toNat).any (fun x => !mayL1 x n) = true | none => (xs.drop i.toNat).any (fun x => !mayL1 x n) = false
  | 0, i, h0, hk => by
    rw [drop_end (by omega)]; rfl
  | k + 1, i, h0, hk => by
    rw [drop_rd (r := .live) h0 (by omega), List.any_cons]
    unfold brkI
    have e : brkIx (xs, n) i = bif !mayL1 (rd .live xs i) n then some i else none := rfl
    rw [e]
    cases hb : !mayL1 (rd .live xs i) n with
    | true => exact ⟨h0, rfl⟩
    | false => exact brkIx_any xs n k (i + 1) (by omega) (by omega)
theorem okIx_all (xs : List Fu.Live) (n : Int) (hn : nowOK n) : ∀ (k : Nat) (i : Int), i + k = xs.length → okI (fun x _ => x) brkIx okIx k (xs, n) i
  | 0, _, _ => trivial
  | k + 1, i, h => ⟨⟨(show i < (xs.length : Int) by omega), hn⟩, fun _ => okIx_all xs n hn k (i + 1) (by omega)⟩
def decFnMay : AV → Option Int
  | .fn (.func 43) [] [p] => decPv1 p
  | _ => none
def dFnMay : Dc Int := ⟨decFnMay, fnMay, fun v n h => by
  unfold decFnMay at h
  split at h
  · refine ⟨fun hr => ?_⟩
    cases hr with
    | fn f h1 h2 => cases h1; obtain ⟨u, rfl, hu⟩ := h2.one_inv; exact .fn _ .nil ((AsArg.pv1 h).reps hu) .nil
  · cases h⟩
def okN (x : List Fu.Live × Int) : Prop := (x.1.length : Int) < 17592186044416 ∧ nowOK x.2
def conContains : Con := flatCon (d2 (dView .live) dFnMay) okN fun x => .bool (x.1.any fun y => !mayL1 y x.2)
theorem containsT_rez {xs : List Fu.Live} {n : Int} (h1 : (xs.length : Int) < 17592186044416) (h2 : nowOK n) : Rez (containsT xs n) (.bool (xs.any fun y => !mayL1 y n), []) := by
  refine .asrt ⟨rfl, rfl⟩ (.asrt ⟨by omega, by unfold maxI64; omega, okIx_all xs n h2 _ 0 (by omega)⟩ ?_)
  have hx := brkIx_any xs n ((xs.length : Int) - 0).toNat 0 (by omega) (by omega)
  simp only [Int.toNat_zero, List.drop_zero] at hx
  cases hb : brkI (fun x _ => x) brkIx ((xs.length : Int) - 0).toNat (xs, n) 0 with
  | some j =>
    rw [hb] at hx
    exact .itet rfl (retB (by rw [hx.2]; exact decide_eq_true hx.1))
  | none =>
    rw [hb] at hx
    exact .itee rfl (.ret (.blit hx.symm) rfl)
theorem conContains_valid : ValidCon c31.P 42 conContains := flatCon_valid c31_good 60 (by kernel_rfl) fun x h => ⟨_, fContains x.1 x.2, containsT_rez h.1 h.2⟩
noncomputable def c32 : Cfg := c31.addQuiet 42 conContains
theorem c32_good : GoodCfg c32 := c31_good.addQuiet conContains_valid flatCon_quiet
def smallL (l : List Fu.Live) : Prop := (l.length : Int) < 17592186044416
def conMayL : Con := flatCon (d2 (dView .live) dInt) (fun x => smallL x.1) fun x => .bool (mayL x.1 x.2)
def mayLT (l : List Fu.Live) (n : Int) : Tree (AV × List Blk) := .ite (decide ((l.length : Int) > 4)) noB (.ite (!(decide (n ≥ 0) && decide (n ≤ 549755813888))) noB (.asrt (okN (l, n)) (.ret (.bool (!l.any fun y => !mayL1 y n), []))))
theorem fMayL (l : List Fu.Live) (n : Int) : callC c32 60 20 [.view .live l, .int .i64 n] = mayLT l n := by kernel_rfl
theorem any_not_all {α : Type} (l : List α) (p : α → Bool) : (!l.any fun y => !p y) = l.all p := by
  induction l with
  | nil => rfl
  | cons x l ih => rw [List.any_cons, List.all_cons, Bool.not_or, ih, Bool.not_not]
theorem mayLT_rez {l : List Fu.Live} {n : Int} (h : smallL l) : Rez (mayLT l n) (.bool (mayL l n), []) := by
  refine ite_rez (fun h1 => noB_rez ?_) fun h0 => ite_rez (fun h1 => noB_rez ?_) fun h1 => .asrt ⟨h, ?_⟩ (retB ?_)
  · have := of_decide_eq_true h1
    unfold mayL
    rw [decide_eq_false (by omega), Bool.false_and]
  · have : (decide (0 ≤ n) && decide (n ≤ 549755813888)) = false := by simpa only [Bool.not_eq_true'] using h1
    unfold mayL
    rw [this, Bool.false_and, Bool.and_false]
  · simp at h1; unfold nowOK; simp only; omega
  · have h0' := of_decide_eq_false h0
    rw [any_not_all]
    unfold mayL
    rw [decide_eq_true (show l.length ≤ 4 by omega), show (decide (0 ≤ n) && decide (n ≤ 549755813888)) = true by simpa only [Bool.not_eq_false'] using h1]
    rfl
theorem conMayL_valid : ValidCon c32.P 20 conMayL := flatCon_valid c32_good 60 (by kernel_rfl) fun x h => ⟨_, fMayL x.1 x.2, mayLT_rez h⟩
noncomputable def c33 : Cfg := c32.addQuiet 20 conMayL
theorem c33_good : GoodCfg c33 := c32_good.addQuiet conMayL_valid flatCon_quiet

end Go.Fx
