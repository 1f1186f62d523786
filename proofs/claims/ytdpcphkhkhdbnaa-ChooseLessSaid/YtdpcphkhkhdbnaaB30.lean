import Derived.Test.YtdpcphkhkhdbnaaB29
/- Contracts: worlds that are the same, and safe ones. -/
namespace Go.Fx
open Go Go.Proofs

/-! ### what is the same -/
def eqSpecB (a b : Fu.Spec) : Bool := a.C == b.C && (a.T == b.T && (a.Max == b.Max && (a.M == b.M && (a.K == b.K && a.E == b.E))))
def eqJobB (a b : Fu.Job) : Bool := a.On == b.On && (a.J == b.J && (a.Rel == b.Rel && (a.Due == b.Due && (a.Mand == b.Mand && (a.C == b.C && (a.D == b.D && a.Ran == b.Ran))))))
def eqRingB (a b : Fu.Ring) : Bool := a.N == b.N && a.B == b.B
def eqTaskB (a b : Fu.Task) : Bool := a.ID == b.ID && (eqSpecB a.S b.S && (a.P == b.P && (a.Next == b.Next && (a.At == b.At && (a.N == b.N && (eqJobB a.J b.J && (eqRingB a.H b.H && a.Kept == b.Kept)))))))
def eqApeB (a b : Fu.Ape) : Bool := a.ID == b.ID && (a.Due == b.Due && (a.C == b.C && (a.V == b.V && a.Ran == b.Ran)))
theorem eqSpecB_eq (a b : Fu.Spec) : eqSpecB a b = decide (a = b) := by
  obtain ⟨a1, a2, a3, a4, a5, a6⟩ := a
  obtain ⟨b1, b2, b3, b4, b5, b6⟩ := b
  rw [Bool.eq_iff_iff]
  simp only [eqSpecB, Bool.and_eq_true, beq_iff_eq, decide_eq_true_eq, Fu.Spec.mk.injEq]
theorem eqJobB_eq (a b : Fu.Job) : eqJobB a b = decide (a = b) := by
  obtain ⟨a1, a2, a3, a4, a5, a6, a7, a8⟩ := a
  obtain ⟨b1, b2, b3, b4, b5, b6, b7, b8⟩ := b
  rw [Bool.eq_iff_iff]
  simp only [eqJobB, Bool.and_eq_true, beq_iff_eq, decide_eq_true_eq, Fu.Job.mk.injEq]
theorem eqRingB_eq (a b : Fu.Ring) : eqRingB a b = decide (a = b) := by
  obtain ⟨a1, a2⟩ := a
  obtain ⟨b1, b2⟩ := b
  rw [Bool.eq_iff_iff]
  simp only [eqRingB, Bool.and_eq_true, beq_iff_eq, decide_eq_true_eq, Fu.Ring.mk.injEq]
theorem eqTaskB_eq (a b : Fu.Task) : eqTaskB a b = decide (a = b) := by
  unfold eqTaskB
  rw [eqSpecB_eq, eqJobB_eq, eqRingB_eq]
  obtain ⟨a1, a2, a3, a4, a5, a6, a7, a8, a9⟩ := a
  obtain ⟨b1, b2, b3, b4, b5, b6, b7, b8, b9⟩ := b
  rw [Bool.eq_iff_iff]
  simp only [Bool.and_eq_true, beq_iff_eq, decide_eq_true_eq, Fu.Task.mk.injEq]
theorem eqApeB_eq (a b : Fu.Ape) : eqApeB a b = decide (a = b) := by
  obtain ⟨a1, a2, a3, a4, a5⟩ := a
  obtain ⟨b1, b2, b3, b4, b5⟩ := b
  rw [Bool.eq_iff_iff]
  simp only [eqApeB, Bool.and_eq_true, beq_iff_eq, decide_eq_true_eq, Fu.Ape.mk.injEq]
theorem cons_eq_dec {α : Type} [DecidableEq α] (a b : α) (l m : List α) : decide (a :: l = b :: m) = (decide (a = b) && decide (l = m)) := by
  rw [Bool.eq_iff_iff]; simp
abbrev AEq := List Fu.Ape × List Fu.Ape
def TEq (x : AEq × Int) : St := ⟨puts (J 26) [(0, .view .ape x.1.1), (1, .view .ape x.1.2), (11, .view .ape x.1.1), (12, .int .i64 x.1.1.length), (13, .int .i64 x.2)], [], 0⟩
def sEq : List Sh := sets (Js 26) [(0, .keep), (1, .keep), (11, .keep), (12, .int), (13, .int)]
def eEq : List Sh := sets (Js 26) [(4, .keep)]
def REq : Ex × St := (.ret, ⟨puts (J 26) [(4, .blit false)], [], 0⟩)
def EEq : Ex × St := (.exit 0, ⟨J 26, [], 0⟩)
theorem bEq (x : AEq) (i : Int) : roundN c73 60 53 (loopAt c73.P 53 4) (norm2 0 [] [] sEq) (norm2 0 [] [] eEq) (TEq (x, i)) =
    .ite (decide (i < x.1.length)) (.asrt (0 ≤ i ∧ i < x.1.length) (.asrt (0 ≤ i ∧ i < x.2.length) (.ite (!eqApeB (rd .ape x.1 i) (rd .ape x.2 i)) (.ret REq) (.ret (.normal, TEq (x, IntKind.i64.wrap (i + 1))))))) (.ret EEq) := by kernel_rfl
def gEq (σ : St) : Option (AEq × Int) :=
  match nth σ.tmps 0, nth σ.tmps 1, nth σ.tmps 13 with
  | .view .ape a, .view .ape b, .int .i64 i => some ((a, b), i)
  | _, _, _ => none
def LxEq (x : AEq × Int) : Tree (Ex × St) := .asrt (0 ≤ x.2 ∧ x.2 ≤ x.1.1.length ∧ x.1.1.length = x.1.2.length ∧ (x.1.1.length : Int) ≤ 17592186044415) (.ite (decide (x.1.1.drop x.2.toNat = x.1.2.drop x.2.toNat)) (.ret EEq) (.ret REq))
def LEq : LoopCon := entry 0 (norm2 0 [] [] sEq) TEq gEq LxEq
theorem lEq (hs : SubOf c73.P 53 (.loop (loopAt c73.P 53 4))) : SoundLoop c73 (loopAt c73.P 53 4) LEq := by
  refine loop_rule3 (C := c73) (g := 53) (l := 4) c73_good 60 0 _ _ (Weak.norm2 0 [] [] sEq) (Weak.norm2 0 [] [] eEq) hs TEq LxEq (fun x => (x.1.1.length - x.2).toNat) (fun x q h => ?_) entry_out
  obtain ⟨⟨a, b⟩, i⟩ := x
  obtain ⟨⟨h0, h1, h2, h3⟩, h⟩ := Tree.out_asrt.1 h
  simp only at h0 h1 h2 h3 h
  refine .of_eq (bEq (a, b) i) ?_
  rw [wrap_fits (n := i + 1) (by omega) (by omega)]
  refine Tree.wp_ite.2 ⟨fun hi => ?_, fun hi => ?_⟩
  · have hi : i < (a.length : Int) := of_decide_eq_true hi
    rw [drop_rd (r := .ape) h0 hi, drop_rd (r := .ape) (xs := b) h0 (by omega), cons_eq_dec, ← eqApeB_eq] at h
    refine ⟨⟨h0, hi⟩, ⟨h0, by show i < (b.length : Int); omega⟩, Tree.wp_ite.2 ⟨fun hb => ?_, fun hb => ?_⟩⟩
    · have hb : eqApeB (rd .ape a i) (rd .ape b i) = false := by simpa using hb
      rw [hb] at h
      exact Rnd.ret h
    · have hb : eqApeB (rd .ape a i) (rd .ape b i) = true := by simpa using hb
      rw [hb, Bool.true_and] at h
      exact Rnd.go (m := fun x : AEq × Int => (x.1.1.length - x.2).toNat) (x := ((a, b), i)) ((a, b), i + 1) (by simp only; omega) (Tree.out_asrt.2 ⟨⟨by simp only; omega, by simp only; omega, h2, h3⟩, h⟩)
  · have hi : ¬ i < (a.length : Int) := of_decide_eq_false hi
    rw [drop_end (by omega), drop_end (xs := b) (by omega)] at h
    exact Rnd.out h
noncomputable def c74 : Cfg := c73.addLoop 53 4 LEq
theorem c74_good : GoodCfg c74 := c73_good.addLoop (by unfold OneLoop; kernel_rfl) lEq
def eqT (a b : List Fu.Ape) : Tree (AV × List Blk) := .ite ((a.length : Int) != b.length) noB (.asrt (0 = 0 ∧ TEq ((a, b), 0) = TEq ((a, b), 0)) (.asrt (0 ≤ (0 : Int) ∧ (0 : Int) ≤ a.length ∧ a.length = b.length ∧ (a.length : Int) ≤ 17592186044415) (.ite (decide (a.drop (0 : Int).toNat = b.drop (0 : Int).toNat)) (.ret (.blit true, [])) noB)))
theorem fEqA (a b : List Fu.Ape) : callC c74 60 53 [.view .ape a, .view .ape b] = eqT a b := by kernel_rfl
def conEqA : Con := flatCon (d2 (dView .ape) (dView .ape)) (fun x => (x.1.length : Int) ≤ 17592186044415) fun x => .bool (decide (x.1 = x.2))
theorem eqT_rez {a b : List Fu.Ape} (h : (a.length : Int) ≤ 17592186044415) : Rez (eqT a b) (.bool (decide (a = b)), []) := by
  refine ite_rez (fun hl => noB_rez ?_) fun hl => .asrt ⟨rfl, rfl⟩ (.asrt ⟨Int.le_refl _, by omega, ?_, h⟩ ?_)
  · refine decide_eq_false fun e => ?_
    subst e
    simp at hl
  · have : ((a.length : Int) = b.length) := by simpa using hl
    omega
  · rw [show (0 : Int).toNat = 0 from rfl, List.drop_zero, List.drop_zero]
    cases hd : decide (a = b) with
    | true => exact .itet rfl (.ret (.blit rfl) rfl)
    | false => exact .itee rfl (noB_rez rfl)
theorem conEqA_valid : ValidCon c74.P 53 conEqA := flatCon_valid c74_good 60 (by kernel_rfl) fun x h => ⟨_, fEqA x.1 x.2, eqT_rez h⟩
noncomputable def c75 : Cfg := c74.addQuiet 53 conEqA
theorem c75_good : GoodCfg c75 := c74_good.addQuiet conEqA_valid flatCon_quiet

abbrev ASm := Fu.World × Fu.World
def TSm (x : ASm × Int) : St := ⟨puts (J 49) [(2, .ptr 0 0), (3, .ptr 1 0), (29, .view .task x.1.1.T), (30, .int .i64 x.1.1.T.length), (31, .int .i64 x.2)], [(0, .cells (encW x.1.1)), (1, .cells (encW x.1.2))], 2⟩
def sSm : List Sh := sets (Js 49) [(2, .keep), (3, .keep), (29, .keep), (30, .int), (31, .int)]
def eSm : List Sh := sets (Js 49) [(2, .keep), (3, .keep), (4, .keep)]
def RSm (x : ASm) : Ex × St := (.ret, ⟨puts (J 49) [(2, .ptr 0 0), (3, .ptr 1 0), (4, .blit false)], [(0, .cells (encW x.1)), (1, .cells (encW x.2))], 2⟩)
def ESm (x : ASm) : Ex × St := (.exit 0, ⟨puts (J 49) [(2, .ptr 0 0), (3, .ptr 1 0)], [(0, .cells (encW x.1)), (1, .cells (encW x.2))], 2⟩)
theorem bSm (x : ASm) (i : Int) : roundN c75 90 24 (loopAt c75.P 24 4) (norm2 2 [] [0, 1] sSm) (norm2 2 [] [0, 1] eSm) (TSm (x, i)) =
    .ite (decide (i < x.1.T.length)) (.asrt (0 ≤ i ∧ i < x.1.T.length) (.asrt (0 ≤ i ∧ i < x.2.T.length) (.ite (!eqTaskB (rd .task x.1.T i) (rd .task x.2.T i)) (.ret (RSm x)) (.ret (.normal, TSm (x, IntKind.i64.wrap (i + 1))))))) (.ret (ESm x)) := by kernel_rfl
def gSm (σ : St) : Option (ASm × Int) :=
  match nth σ.tmps 31, σ.heap with
  | .int .i64 i, [(_, .cells [.int .i64 a, .view .task t, .view .ape p, .int .i64 c]), (_, .cells [.int .i64 a2, .view .task t2, .view .ape p2, .int .i64 c2])] => some ((⟨a, t, p, c⟩, ⟨a2, t2, p2, c2⟩), i)
  | _, _ => none
def LxSm (x : ASm × Int) : Tree (Ex × St) := .asrt (0 ≤ x.2 ∧ x.2 ≤ x.1.1.T.length ∧ x.1.1.T.length = x.1.2.T.length ∧ (x.1.1.T.length : Int) ≤ 17592186044415) (.ite (decide (x.1.1.T.drop x.2.toNat = x.1.2.T.drop x.2.toNat)) (.ret (ESm x.1)) (.ret (RSm x.1)))
def LSm : LoopCon := entry 2 (norm2 2 [] [0, 1] sSm) TSm gSm LxSm
theorem lSm (hs : SubOf c75.P 24 (.loop (loopAt c75.P 24 4))) : SoundLoop c75 (loopAt c75.P 24 4) LSm := by
  refine loop_rule3 (C := c75) (g := 24) (l := 4) c75_good 90 2 _ _ (Weak.norm2 2 [] [0, 1] sSm) (Weak.norm2 2 [] [0, 1] eSm) hs TSm LxSm (fun x => (x.1.1.T.length - x.2).toNat) (fun x q h => ?_) entry_out
  obtain ⟨⟨a, b⟩, i⟩ := x
  obtain ⟨⟨h0, h1, h2, h3⟩, h⟩ := Tree.out_asrt.1 h
  simp only at h0 h1 h2 h3 h
  refine .of_eq (bSm (a, b) i) ?_
  rw [wrap_fits (n := i + 1) (by omega) (by omega)]
  refine Tree.wp_ite.2 ⟨fun hi => ?_, fun hi => ?_⟩
  · have hi : i < (a.T.length : Int) := of_decide_eq_true hi
    rw [drop_rd (r := .task) h0 hi, drop_rd (r := .task) (xs := b.T) h0 (by omega), cons_eq_dec, ← eqTaskB_eq] at h
    refine ⟨⟨h0, hi⟩, ⟨h0, by show i < (b.T.length : Int); omega⟩, Tree.wp_ite.2 ⟨fun hb => ?_, fun hb => ?_⟩⟩
    · have hb : eqTaskB (rd .task a.T i) (rd .task b.T i) = false := by simpa using hb
      rw [hb] at h
      exact Rnd.ret h
    · have hb : eqTaskB (rd .task a.T i) (rd .task b.T i) = true := by simpa using hb
      rw [hb, Bool.true_and] at h
      exact Rnd.go (m := fun x : ASm × Int => (x.1.1.T.length - x.2).toNat) (x := ((a, b), i)) ((a, b), i + 1) (by simp only; omega) (Tree.out_asrt.2 ⟨⟨by simp only; omega, by simp only; omega, h2, h3⟩, h⟩)
  · have hi : ¬ i < (a.T.length : Int) := of_decide_eq_false hi
    rw [drop_end (by omega), drop_end (xs := b.T) (by omega)] at h
    exact Rnd.out h
noncomputable def c76 : Cfg := c75.addLoop 24 4 LSm
theorem c76_good : GoodCfg c76 := c75_good.addLoop (by unfold OneLoop; kernel_rfl) lSm
def sameT (a b : Fu.World) : Tree (AV × List Blk) := .ite ((a.T.length : Int) != b.T.length || (a.Now != b.Now || a.Cur != b.Cur)) noB (.asrt (2 = 2 ∧ TSm ((a, b), 0) = TSm ((a, b), 0)) (.asrt (0 ≤ (0 : Int) ∧ (0 : Int) ≤ a.T.length ∧ a.T.length = b.T.length ∧ (a.T.length : Int) ≤ 17592186044415)
  (.ite (decide (a.T.drop (0 : Int).toNat = b.T.drop (0 : Int).toNat)) (.asrt ((a.A.length : Int) ≤ 17592186044415) (.ret (.bool (decide (a.A = b.A)), []))) noB)))
theorem fRelSame (a b : Fu.World) : callC c76 90 24 [.agg (encW a), .agg (encW b)] = sameT a b := by kernel_rfl
def conSameW : Con := flatCon (d2 dWorld dWorld) (fun x => smallW x.1) fun x => .bool (decide (x.1 = x.2))
theorem sameT_rez {a b : Fu.World} (h : smallW a) : Rez (sameT a b) (.bool (decide (a = b)), []) := by
  refine ite_rez (fun hl => noB_rez ?_) fun hl => ?_
  · refine decide_eq_false fun e => ?_
    subst e
    simp at hl
  · simp only [Bool.or_eq_false_iff, bne_eq_false_iff_eq] at hl
    obtain ⟨h1, h2, h3⟩ := hl
    refine .asrt ⟨rfl, rfl⟩ (.asrt ⟨Int.le_refl _, by omega, by omega, by have := h.1; omega⟩ ?_)
    rw [show (0 : Int).toNat = 0 from rfl, List.drop_zero, List.drop_zero]
    cases hd : decide (a.T = b.T) with
    | true =>
      refine .itet rfl (.asrt (by have := h.2; omega) (retB ?_))
      have hd := of_decide_eq_true hd
      rw [decide_eq_decide]
      obtain ⟨a1, a2, a3, a4⟩ := a
      obtain ⟨b1, b2, b3, b4⟩ := b
      simp only at h2 h3 hd
      simp [h2, h3, hd]
    | false =>
      refine .itee rfl (noB_rez (decide_eq_false fun e => ?_))
      subst e
      simp at hd
theorem conSameW_valid : ValidCon c76.P 24 conSameW := flatCon_valid c76_good 90 (by kernel_rfl) fun x h => ⟨_, fRelSame x.1 x.2, sameT_rez h⟩
noncomputable def c77 : Cfg := c76.addQuiet 24 conSameW
theorem c77_good : GoodCfg c77 := c76_good.addQuiet conSameW_valid flatCon_quiet

/-! ### release.Lives, Safe -/
abbrev ALv := List Fu.Task × List Fu.Live
def TLv (x : ALv × Int) : St := ⟨puts (J 20) [(3, .own 1), (7, .view .task x.1.1), (8, .int .i64 x.1.1.length), (9, .int .i64 x.2)], [(1, .rows .live 82 x.1.2)], 2⟩
def sLv : List Sh := sets (Js 20) [(3, .keep), (7, .keep), (8, .int), (9, .int)]
def eLv : List Sh := sets (Js 20) [(3, .keep)]
def fLv (ss : List Sh) (σ : St) : St := norm2 1 [.tmp 3] [1] ss (ownSlot 3 .live 82 σ)
theorem weak_fLv (ss : List Sh) (σ : St) : Weak 1 σ (fLv ss σ) := (Weak.ownSlot 1 3 .live 82 σ).trans (Weak.norm2 1 [.tmp 3] [1] ss _)
def ELv (x : ALv) : Ex × St := (.exit 0, ⟨puts (J 20) [(3, .own 1)], [(1, .rows .live 82 x.2)], 2⟩)
theorem bLv (x : ALv) (i : Int) : roundN c77 60 18 (loopAt c77.P 18 3) (fLv sLv) (fLv eLv) (TLv (x, i)) =
    .ite (decide (i < x.1.length)) (.asrt (0 ≤ i ∧ i < x.1.length) (.asrt ((x.2 ++ [liveK (rd .task x.1 i)]).length * 136 ≤ 140737488355328) (.ret (.normal, TLv ((x.1, x.2 ++ [liveK (rd .task x.1 i)]), IntKind.i64.wrap (i + 1)))))) (.ret (ELv x)) := by kernel_rfl
def gLv (σ : St) : Option (ALv × Int) :=
  match nth σ.tmps 7, nth σ.tmps 9, σ.heap with
  | .view .task l, .int .i64 i, [(_, .rows .live _ o)] => some ((l, o), i)
  | _, _, _ => none
def nxtLv (x : ALv) (i : Int) : ALv := (x.1, x.2 ++ [liveK (rd .task x.1 i)])
def okLv (x : ALv) (_ : Int) : Prop := (x.2.length + 1) * 136 ≤ 140737488355328
def LLv : LoopCon := boundF 1 (fLv sLv) TLv gLv (fun x => x.1.length) okLv nxtLv ELv
theorem lLv (hs : SubOf c77.P 18 (.loop (loopAt c77.P 18 3))) : SoundLoop c77 (loopAt c77.P 18 3) LLv :=
  bound_fold (C := c77) (g := 18) (l := 3) c77_good 60 1 _ _ (weak_fLv sLv) (weak_fLv eLv) hs TLv gLv (fun x => x.1.length) okLv nxtLv ELv
    (fun _ => by intro h; cases h) (fun _ _ => rfl)
    (fun x i h0 hi hm hok => .of_eq (bLv x i) (by
      unfold maxI64 at hm
      rw [wrap_fits (n := i + 1) (by omega) (by omega)]
      exact (Tree.out_ite_true (decide_eq_true hi)).2 ⟨⟨h0, hi⟩, by rw [List.length_append]; exact hok, rfl⟩))
    (fun x i hi => .of_eq (bLv x i) ((Tree.out_ite_false (decide_eq_false (by omega))).2 rfl))
noncomputable def c78 : Cfg := c77.addLoop 18 3 LLv
theorem c78_good : GoodCfg c78 := c77_good.addLoop (by unfold OneLoop; kernel_rfl) lLv
def livesT (w : Fu.World) : Tree (AV × List Blk) :=
  .asrt (1 = 1 ∧ TLv ((w.T, []), 0) = TLv ((w.T, []), 0)) (.asrt (0 ≤ (0 : Int) ∧ (w.T.length : Int) ≤ maxI64 ∧ okI nxtLv (fun _ _ => (none : Option Unit)) okLv ((w.T.length : Int) - 0).toNat (w.T, []) 0)
    (.ret (.own 0, [.rows .live 82 (foldI nxtLv ((w.T.length : Int) - 0).toNat (w.T, []) 0).2])))
theorem fLives (w : Fu.World) : callC c78 60 18 [.agg (encW w)] = livesT w := by kernel_rfl
theorem foldLv {l : List Fu.Task} (hl : (l.length : Int) * 136 ≤ 140737488355328) (k : Nat) : ∀ (out : List Fu.Live) (i : Int), 0 ≤ i → i + k = l.length → out.length + k = l.length →
    foldI nxtLv k (l, out) i = (l, out ++ (l.drop i.toNat).map liveK) ∧ okI nxtLv (fun _ _ => (none : Option Unit)) okLv k (l, out) i := by
  induction k with
  | zero =>
    intro out i h0 h1 h2
    rw [drop_end (by omega)]
    exact ⟨by simp [foldI], trivial⟩
  | succ k ih =>
    intro out i h0 h1 h2
    have hd := drop_rd (r := .task) (xs := l) h0 (by omega)
    have hok : okLv (l, out) i := by show (out.length + 1) * 136 ≤ 140737488355328; omega
    obtain ⟨k1, k2⟩ := ih (out ++ [liveK (rd .task l i)]) (i + 1) (by omega) (by omega) (by rw [List.length_append]; simp only [List.length_cons, List.length_nil]; omega)
    refine ⟨?_, hok, fun _ => k2⟩
    unfold foldI
    refine k1.trans ?_
    rw [hd, List.map_cons, List.append_assoc]
    rfl
theorem livesT_rez {w : Fu.World} (h : smallW w) : Rez (livesT w) (.own 0, [.rows .live 82 (w.T.map liveK)]) := by
  have h := h.1
  obtain ⟨k1, k2⟩ := foldLv (l := w.T) (by omega) ((w.T.length : Int) - 0).toNat [] 0 (Int.le_refl _) (by omega) (by simp)
  rw [show (0 : Int).toNat = 0 from rfl, List.drop_zero] at k1
  refine .asrt ⟨rfl, rfl⟩ (.asrt ⟨Int.le_refl _, by unfold maxI64; omega, k2⟩ (.ret (.refl _) ?_))
  rw [k1]
  rfl
def conLives : Con := resCon (d1 dWorld) smallW fun w => (.own 0, [.rows .live 82 (w.T.map liveK)])
theorem conLives_valid : ValidCon c78.P 18 conLives := resCon_valid c78_good 60 (by kernel_rfl) fun w h => ⟨_, fLives w, livesT_rez h⟩
def conLivesF : Con := flatCon (d1 dWorld) smallW fun w => .view .live (w.T.map liveK)
theorem conLivesF_valid : ValidCon c78.P 18 conLivesF := resCon_frozen conLives_valid fun _ => ⟨_, rfl, .refl _⟩
noncomputable def c79 : Cfg := c78.addQuiet 18 conLivesF
theorem c79_good : GoodCfg c79 := c78_good.addQuiet conLivesF_valid flatCon_quiet
def fixK (t : Fu.Task) : Fu.Fix := ⟨t.S, t.Next⟩
abbrev ASf := Fu.World × List Fu.Fix
def TSf (x : ASf × Int) : St := ⟨puts (J 40) [(1, .ptr 0 0), (3, .own 1), (12, .view .task x.1.1.T), (13, .int .i64 x.1.1.T.length), (14, .int .i64 x.2)], [(0, .cells (encW x.1.1)), (1, .rows .fix 43 x.1.2)], 2⟩
def sSf : List Sh := sets (Js 40) [(1, .keep), (3, .keep), (12, .keep), (13, .int), (14, .int)]
def eSf : List Sh := sets (Js 40) [(1, .keep), (3, .keep)]
def fSf (ss : List Sh) (σ : St) : St := norm2 1 [.tmp 3] [0, 1] ss (ownSlot 3 .fix 43 σ)
theorem weak_fSf (ss : List Sh) (σ : St) : Weak 1 σ (fSf ss σ) := (Weak.ownSlot 1 3 .fix 43 σ).trans (Weak.norm2 1 [.tmp 3] [0, 1] ss _)
def ESf (x : ASf) : Ex × St := (.exit 0, ⟨puts (J 40) [(1, .ptr 0 0), (3, .own 1)], [(0, .cells (encW x.1)), (1, .rows .fix 43 x.2)], 2⟩)
theorem bSf (x : ASf) (i : Int) : roundN c79 60 16 (loopAt c79.P 16 5) (fSf sSf) (fSf eSf) (TSf (x, i)) =
    .ite (decide (i < x.1.T.length)) (.asrt (0 ≤ i ∧ i < x.1.T.length) (.asrt ((x.2 ++ [fixK (rd .task x.1.T i)]).length * 56 ≤ 140737488355328) (.ret (.normal, TSf ((x.1, x.2 ++ [fixK (rd .task x.1.T i)]), IntKind.i64.wrap (i + 1)))))) (.ret (ESf x)) := by kernel_rfl
def gSf (σ : St) : Option (ASf × Int) :=
  match nth σ.tmps 14, σ.heap with
  | .int .i64 i, [(_, .cells [.int .i64 a, .view .task t, .view .ape p, .int .i64 c]), (_, .rows .fix _ o)] => some ((⟨a, t, p, c⟩, o), i)
  | _, _ => none
def nxtSf (x : ASf) (i : Int) : ASf := (x.1, x.2 ++ [fixK (rd .task x.1.T i)])
def okSf (x : ASf) (_ : Int) : Prop := (x.2.length + 1) * 56 ≤ 140737488355328
def LSf : LoopCon := boundF 1 (fSf sSf) TSf gSf (fun x => x.1.T.length) okSf nxtSf ESf
theorem lSf (hs : SubOf c79.P 16 (.loop (loopAt c79.P 16 5))) : SoundLoop c79 (loopAt c79.P 16 5) LSf :=
  bound_fold (C := c79) (g := 16) (l := 5) c79_good 60 1 _ _ (weak_fSf sSf) (weak_fSf eSf) hs TSf gSf (fun x => x.1.T.length) okSf nxtSf ESf
    (fun _ => by intro h; cases h) (fun _ _ => rfl)
    (fun x i h0 hi hm hok => .of_eq (bSf x i) (by
      unfold maxI64 at hm
      rw [wrap_fits (n := i + 1) (by omega) (by omega)]
      exact (Tree.out_ite_true (decide_eq_true hi)).2 ⟨⟨h0, hi⟩, by rw [List.length_append]; exact hok, rfl⟩))
    (fun x i hi => .of_eq (bSf x i) ((Tree.out_ite_false (decide_eq_false (by omega))).2 rfl))
noncomputable def c80 : Cfg := c79.addLoop 16 5 LSf
theorem c80_good : GoodCfg c80 := c79_good.addLoop (by unfold OneLoop; kernel_rfl) lSf
/-- Can no mandatory job be missed? -/
def safeW (w : Fu.World) : Bool := mayW w && ((lookL (w.T.map liveK) w.Now).2 && testV (w.T.map fixK))
def sfF (w : Fu.World) : ASf := foldI nxtSf ((w.T.length : Int) - 0).toNat (w, []) 0
def safeE (w : Fu.World) (l : List Fu.Fix) : Tree (AV × List Blk) := .asrt (smallW w) (.asrt (smallL (w.T.map liveK)) (.asrt ((lookL (w.T.map liveK) w.Now).2 = true → (l.length : Int) < 17592186044416) (.ret (.bool ((lookL (w.T.map liveK) w.Now).2 && testV l), []))))
def safeT (w : Fu.World) : Tree (AV × List Blk) := .asrt (smallW w) (.ite (!mayW w) noB (.asrt (1 = 1 ∧ TSf ((w, []), 0) = TSf ((w, []), 0)) (.asrt (0 ≤ (0 : Int) ∧ (w.T.length : Int) ≤ maxI64 ∧ okI nxtSf (fun _ _ => (none : Option Unit)) okSf ((w.T.length : Int) - 0).toNat (w, []) 0)
    (safeE (sfF w).1 (sfF w).2))))
theorem fSafe (w : Fu.World) : callC c80 60 16 [.agg (encW w)] = safeT w := by kernel_rfl
theorem foldSf {w : Fu.World} (hl : (w.T.length : Int) * 136 ≤ 140737488355328) (k : Nat) : ∀ (out : List Fu.Fix) (i : Int), 0 ≤ i → i + k = w.T.length → out.length + k = w.T.length →
    foldI nxtSf k (w, out) i = (w, out ++ (w.T.drop i.toNat).map fixK) ∧ okI nxtSf (fun _ _ => (none : Option Unit)) okSf k (w, out) i := by
  induction k with
  | zero =>
    intro out i h0 h1 h2
    rw [drop_end (by omega)]
    exact ⟨by simp [foldI], trivial⟩
  | succ k ih =>
    intro out i h0 h1 h2
    have hd := drop_rd (r := .task) (xs := w.T) h0 (by omega)
    have hok : okSf (w, out) i := by show (out.length + 1) * 56 ≤ 140737488355328; omega
    obtain ⟨k1, k2⟩ := ih (out ++ [fixK (rd .task w.T i)]) (i + 1) (by omega) (by omega) (by rw [List.length_append]; simp only [List.length_cons, List.length_nil]; omega)
    refine ⟨?_, hok, fun _ => k2⟩
    unfold foldI
    refine k1.trans ?_
    rw [hd, List.map_cons, List.append_assoc]
    rfl
theorem safeT_rez {w : Fu.World} (h : smallW w) : Rez (safeT w) (.bool (safeW w), []) := by
  have hT := h.1
  refine .asrt h (ite_rez (fun hm => noB_rez (by unfold safeW; rw [show mayW w = false by simpa using hm]; rfl)) fun hm => ?_)
  obtain ⟨k1, k2⟩ := foldSf (w := w) (by omega) ((w.T.length : Int) - 0).toNat [] 0 (Int.le_refl _) (by omega) (by simp)
  rw [show (0 : Int).toNat = 0 from rfl, List.drop_zero] at k1
  refine .asrt ⟨rfl, rfl⟩ (.asrt ⟨Int.le_refl _, by unfold maxI64; omega, k2⟩ ?_)
  have e : sfF w = (w, w.T.map fixK) := k1
  rw [e]
  show Rez (safeE w (w.T.map fixK)) _
  refine .asrt h (.asrt (by unfold smallL; rw [List.length_map]; omega) (.asrt (fun _ => by rw [List.length_map]; omega) (retB ?_)))
  unfold safeW
  rw [show mayW w = true by simpa using hm]
  rfl
def conSafe : Con := flatCon (d1 dWorld) smallW fun w => .bool (safeW w)
theorem conSafe_valid : ValidCon c80.P 16 conSafe := flatCon_valid c80_good 60 (by kernel_rfl) fun w h => ⟨_, fSafe w, safeT_rez h⟩
noncomputable def c81 : Cfg := c80.addQuiet 16 conSafe
theorem c81_good : GoodCfg c81 := c80_good.addQuiet conSafe_valid flatCon_quiet
end Go.Fx
