import Derived.Test.YtneflbpekennkaaGreatN1
/- Contracts: times that came to the same. -/
namespace Go.Fx
open Go Go.Proofs

abbrev AEi := List Int × List Int
def TEi (x : AEi × Int) : St := ⟨puts (J 26) [(0, .view (.int .i64) x.1.1), (1, .view (.int .i64) x.1.2), (11, .view (.int .i64) x.1.1), (12, .int .i64 x.1.1.length), (13, .int .i64 x.2)], [], 0⟩
def sEi : List Sh := sets (Js 26) [(0, .keep), (1, .keep), (11, .keep), (12, .int), (13, .int)]
def eEi : List Sh := sets (Js 26) [(4, .keep)]
def REi : Ex × St := (.ret, ⟨puts (J 26) [(4, .blit false)], [], 0⟩)
def EEi : Ex × St := (.exit 0, ⟨J 26, [], 0⟩)
def neI (x : AEi) (i : Int) : Bool := (rd (.int .i64) x.1 i : Int) != (rd (.int .i64) x.2 i : Int)
theorem bEi (x : AEi) (i : Int) : roundN c134 60 39 (loopAt c134.P 39 4) (norm2 0 [] [] sEi) (norm2 0 [] [] eEi) (TEi (x, i)) =
    .ite (decide (i < x.1.length)) (.asrt (0 ≤ i ∧ i < x.1.length) (.asrt (0 ≤ i ∧ i < x.2.length) (.ite (neI x i) (.ret REi) (.ret (.normal, TEi (x, IntKind.i64.wrap (i + 1))))))) (.ret EEi) := by kernel_rfl
def gEi (σ : St) : Option (AEi × Int) :=
  match nth σ.tmps 0, nth σ.tmps 1, nth σ.tmps 13 with
  | .view (.int .i64) a, .view (.int .i64) b, .int .i64 i => some ((a, b), i)
  | _, _, _ => none
def LxEi (x : AEi × Int) : Tree (Ex × St) := .asrt (0 ≤ x.2 ∧ x.2 ≤ x.1.1.length ∧ x.1.1.length = x.1.2.length ∧ (x.1.1.length : Int) ≤ 17592186044415) (.ite (decide (x.1.1.drop x.2.toNat = x.1.2.drop x.2.toNat)) (.ret EEi) (.ret REi))
def LEi : LoopCon := entry 0 (norm2 0 [] [] sEi) TEi gEi LxEi
theorem lEi (hs : SubOf c134.P 39 (.loop (loopAt c134.P 39 4))) : SoundLoop c134 (loopAt c134.P 39 4) LEi := by
  refine loop_rule3 (C := c134) (g := 39) (l := 4) c134_good 60 0 _ _ (Weak.norm2 0 [] [] sEi) (Weak.norm2 0 [] [] eEi) hs TEi LxEi (fun x => (x.1.1.length - x.2).toNat) (fun x q h => ?_) entry_out
  obtain ⟨⟨a, b⟩, i⟩ := x
  obtain ⟨⟨h0, h1, h2, h3⟩, h⟩ := Tree.out_asrt.1 h
  simp only at h0 h1 h2 h3 h
  refine .of_eq (bEi (a, b) i) ?_
  rw [wrap_fits (n := i + 1) (by omega) (by omega)]
  refine Tree.wp_ite.2 ⟨fun hi => ?_, fun hi => ?_⟩
  · have hi : i < (a.length : Int) := of_decide_eq_true hi
    have e : decide (a.drop i.toNat = b.drop i.toNat) = (!neI (a, b) i && decide (a.drop (i + 1).toNat = b.drop (i + 1).toNat)) := by
      rw [drop_rd (r := .int .i64) (xs := a) h0 hi, drop_rd (r := .int .i64) (xs := b) h0 (by omega)]
      unfold neI
      rw [Bool.eq_iff_iff]
      simp
    rw [e] at h
    refine ⟨⟨h0, hi⟩, ⟨h0, by show i < (b.length : Int); omega⟩, Tree.wp_ite.2 ⟨fun hb => ?_, fun hb => ?_⟩⟩
    · rw [hb] at h
      exact Rnd.ret h
    · rw [hb, Bool.not_false, Bool.true_and] at h
      exact Rnd.go (m := fun x : AEi × Int => (x.1.1.length - x.2).toNat) (x := ((a, b), i)) ((a, b), i + 1) (by simp only; omega) (Tree.out_asrt.2 ⟨⟨by simp only; omega, by simp only; omega, h2, h3⟩, h⟩)
  · have hi : ¬ i < (a.length : Int) := of_decide_eq_false hi
    rw [drop_end (xs := a) (by omega), drop_end (xs := b) (by omega)] at h
    exact Rnd.out h
noncomputable def c135 : Cfg := c134.addLoop 39 4 LEi
theorem c135_good : GoodCfg c135 := c134_good.addLoop (by unfold OneLoop; kernel_rfl) lEi
def eiT (a b : List Int) : Tree (AV × List Blk) := .ite ((a.length : Int) != b.length) noB (.asrt (0 = 0 ∧ TEi ((a, b), 0) = TEi ((a, b), 0)) (.asrt (0 ≤ (0 : Int) ∧ (0 : Int) ≤ a.length ∧ a.length = b.length ∧ (a.length : Int) ≤ 17592186044415) (.ite (decide (a.drop (0 : Int).toNat = b.drop (0 : Int).toNat)) (.ret (.blit true, [])) noB)))
theorem fEqI (a b : List Int) : callC c135 60 39 [.view (.int .i64) a, .view (.int .i64) b] = eiT a b := by kernel_rfl
def conEqI : Con := flatCon (d2 (dView (.int .i64)) (dView (.int .i64))) (fun x => (x.1.length : Int) ≤ 17592186044415) fun x => .bool (decide ((x.1 : List Int) = x.2))
theorem eiT_rez {a b : List Int} (h : (a.length : Int) ≤ 17592186044415) : Rez (eiT a b) (.bool (decide (a = b)), []) := by
  refine ite_rez (fun hl => noB_rez ?_) fun hl => .asrt ⟨rfl, rfl⟩ (.asrt ⟨Int.le_refl _, by omega, ?_, h⟩ ?_)
  · refine decide_eq_false fun e => ?_
    subst e
    simp at hl
  · have : ((a.length : Int) = b.length) := by simpa using hl
    omega
  · rw [show (0 : Int).toNat = 0 from rfl, List.drop_zero, List.drop_zero]
    cases hd : decide (a = b) with
    | true => exact .itet rfl (.ret (.blit rfl) rfl)
    | false => exact .itee rfl (noB_rez rfl)
theorem conEqI_valid : ValidCon c135.P 39 conEqI := flatCon_valid c135_good 60 (by kernel_rfl) fun x h => ⟨_, fEqI x.1 x.2, eiT_rez h⟩
noncomputable def c136 : Cfg := c135.addQuiet 39 conEqI
theorem c136_good : GoodCfg c136 := c135_good.addQuiet conEqI_valid flatCon_quiet
/-- A contract in two ways, told in one. -/
theorem flat_of_tree {P : Program} {g : Nat} {α : Type} {D : Ds α} {tr : α → Tree (AV × List Blk)} {ok : α → Prop} {res : α → AV} (V : ValidCon P g (treeCon D tr))
    (h : ∀ a, ok a → ∃ v bs v', (tr a).Out (v, bs) ∧ lowerV (blkAt bs) 64 v = some v' ∧ AsArg v' (res a)) : ValidCon P g (flatCon D ok res) := V.frozen.weaken fun args r hr => by
  unfold flatCon resCon at hr
  split at hr
  · rename_i a ha
    obtain ⟨h1, h2⟩ := hr
    cases h2
    obtain ⟨v, bs, v', k1, k2, k3⟩ := h a h1
    refine ⟨v', k3, ?_⟩
    unfold frozen treeCon
    rw [ha]
    rw [Tree.out_bind]
    refine ⟨(v, bs), k1, ?_⟩
    simp only
    rw [k2]
    rfl
  · exact hr.elim
/-- What a time came to. -/
abbrev Trc := Int × Int × Int × Int × List Int × List Int × List Int
def encTrc (t : Trc) : List AV := [.int .i64 t.1, .int .i64 t.2.1, .int .i64 t.2.2.1, .int .i64 t.2.2.2.1, .view (.int .i64) t.2.2.2.2.1, .view (.int .i64) t.2.2.2.2.2.1, .view (.int .i64) t.2.2.2.2.2.2]
def decTrc : AV → Option Trc
  | .agg [a, b, c, d, e, f, g] =>
    match a.i, b.i, c.i, d.i, e.asView (.int .i64), f.asView (.int .i64), g.asView (.int .i64) with
    | some a, some b, some c, some d, some e, some f, some g => some (a, b, c, d, e, f, g)
    | _, _, _, _, _, _, _ => none
  | _ => none
def dTrc : Dc Trc := ⟨decTrc, fun t => .agg (encTrc t), fun v w h => by
  unfold decTrc at h
  split at h
  · split at h
    · rename_i h1 h2 h3 h4 h5 h6 h7; cases h; exact .agg (.cons (.i h1) (.cons (.i h2) (.cons (.i h3) (.cons (.i h4) (.cons (.view h5) (.cons (.view h6) (.cons (.view h7) .nil)))))))
    · cases h
  · cases h⟩
def sameTrc (a b : Trc) : Bool := decide (a.2.2.2.2.1 = b.2.2.2.2.1) && (decide (a.2.2.2.2.2.1 = b.2.2.2.2.2.1) && decide (a.2.2.2.2.2.2 = b.2.2.2.2.2.2)) && (a.1 == b.1 && (a.2.1 == b.2.1 && a.2.2.1 == b.2.2.1 && a.2.2.2.1 == b.2.2.2.1))
def shortTrc (a : Trc) : Prop := (a.2.2.2.2.1.length : Int) ≤ 17592186044415 ∧ (a.2.2.2.2.2.1.length : Int) ≤ 17592186044415 ∧ (a.2.2.2.2.2.2.length : Int) ≤ 17592186044415
theorem fRunSame (a b : Trc) : callC c136 60 17 [.agg (encTrc a), .agg (encTrc b)] = .asrt ((a.2.2.2.2.1.length : Int) ≤ 17592186044415) (.asrt (decide (a.2.2.2.2.1 = b.2.2.2.2.1) = true → (a.2.2.2.2.2.1.length : Int) ≤ 17592186044415)
  (.asrt (decide (a.2.2.2.2.1 = b.2.2.2.2.1) = true → decide (a.2.2.2.2.2.1 = b.2.2.2.2.2.1) = true → (a.2.2.2.2.2.2.length : Int) ≤ 17592186044415) (.ret (.bool (sameTrc a b), [])))) := by kernel_rfl
def conRunSame : Con := flatCon (d2 dTrc dTrc) (fun x => shortTrc x.1) fun x => .bool (sameTrc x.1 x.2)
theorem conRunSame_valid : ValidCon c136.P 17 conRunSame := flatCon_valid c136_good 60 (by kernel_rfl) fun x h => ⟨_, fRunSame x.1 x.2, .asrt h.1 (.asrt (fun _ => h.2.1) (.asrt (fun _ _ => h.2.2) (.ret (.refl _) rfl)))⟩
noncomputable def c137 : Cfg := c136.addQuiet 17 conRunSame
theorem c137_good : GoodCfg c137 := c136_good.addQuiet conRunSame_valid flatCon_quiet
def TSr4 (x : (Fu.World × Fu.World) × Int) : St := ⟨puts (J 73) [(2, .ptr 0 0), (3, .ptr 1 0), (5, .int .i64 x.2)], [(0, .cells (encW x.1.1)), (1, .cells (encW x.1.2))], 2⟩
def sSr4 : List Sh := sets (Js 73) [(2, .keep), (3, .keep), (5, .int)]
def eSr4 : List Sh := sets (Js 73) [(2, .keep), (3, .keep), (4, .keep)]
def RSr4 (x : Fu.World × Fu.World) : Ex × St := (.ret, ⟨puts (J 73) [(2, .ptr 0 0), (3, .ptr 1 0), (4, .blit false)], [(0, .cells (encW x.1)), (1, .cells (encW x.2))], 2⟩)
def ESr4 (x : Fu.World × Fu.World) : Ex × St := (.exit 0, ⟨puts (J 73) [(2, .ptr 0 0), (3, .ptr 1 0)], [(0, .cells (encW x.1)), (1, .cells (encW x.2))], 2⟩)
theorem bSr4 (x : Fu.World × Fu.World) (i : Int) : roundN c137 60 16 (loopAt c137.P 16 4) (norm2 2 [] [0, 1] sSr4) (norm2 2 [] [0, 1] eSr4) (TSr4 (x, i)) =
    .ite (decide (i < x.1.T.length)) (.asrt (0 ≤ i ∧ i < x.1.T.length) (.asrt (0 ≤ i ∧ i < x.2.T.length) (.ite (!eqTaskB (rd .task x.1.T i) (rd .task x.2.T i)) (.ret (RSr4 x)) (.ret (.normal, TSr4 (x, IntKind.i64.wrap (i + 1))))))) (.ret (ESr4 x)) := by kernel_rfl
def gSr4 (σ : St) : Option ((Fu.World × Fu.World) × Int) :=
  match nth σ.tmps 5, σ.heap with
  | .int .i64 i, [(_, .cells [.int .i64 a, .view .task t, .view .ape p, .int .i64 c]), (_, .cells [.int .i64 a2, .view .task t2, .view .ape p2, .int .i64 c2])] => some ((⟨a, t, p, c⟩, ⟨a2, t2, p2, c2⟩), i)
  | _, _ => none
def LxSr4 (x : (Fu.World × Fu.World) × Int) : Tree (Ex × St) := .asrt (0 ≤ x.2 ∧ x.2 ≤ x.1.1.T.length ∧ x.1.1.T.length = x.1.2.T.length ∧ (x.1.1.T.length : Int) ≤ 17592186044415) (.ite (decide (x.1.1.T.drop x.2.toNat = x.1.2.T.drop x.2.toNat)) (.ret (ESr4 x.1)) (.ret (RSr4 x.1)))
def LSr4 : LoopCon := entry 2 (norm2 2 [] [0, 1] sSr4) TSr4 gSr4 LxSr4
theorem lSr4 (hs : SubOf c137.P 16 (.loop (loopAt c137.P 16 4))) : SoundLoop c137 (loopAt c137.P 16 4) LSr4 := by
  refine loop_rule3 (C := c137) (g := 16) (l := 4) c137_good 60 2 _ _ (Weak.norm2 2 [] [0, 1] sSr4) (Weak.norm2 2 [] [0, 1] eSr4) hs TSr4 LxSr4 (fun x => (x.1.1.T.length - x.2).toNat) (fun x q h => ?_) entry_out
  obtain ⟨⟨a, b⟩, i⟩ := x
  obtain ⟨⟨h0, h1, h2, h3⟩, h⟩ := Tree.out_asrt.1 h
  simp only at h0 h1 h2 h3 h
  refine .of_eq (bSr4 (a, b) i) ?_
  rw [wrap_fits (n := i + 1) (by omega) (by omega)]
  refine Tree.wp_ite.2 ⟨fun hi => ?_, fun hi => ?_⟩
  · have hi : i < (a.T.length : Int) := of_decide_eq_true hi
    rw [drop_rd (r := .task) h0 hi, drop_rd (r := .task) (xs := b.T) h0 (by omega), cons_eq_dec, ← eqTaskB_eq] at h
    refine ⟨⟨h0, hi⟩, ⟨h0, by show i < (b.T.length : Int); omega⟩, Tree.wp_ite.2 ⟨fun hb => ?_, fun hb => ?_⟩⟩
    · have hb : eqTaskB (rd .task a.T i) (rd .task b.T i) = false := by simpa using hb
      rw [hb] at h
      exact Rnd.ret h
    · have hb : eqTaskB (rd .task a.T i) (rd .task b.T i) = true := by simpa using hb
      rw [hb, Bool.true_and] at h
      exact Rnd.go (m := fun x : (Fu.World × Fu.World) × Int => (x.1.1.T.length - x.2).toNat) (x := ((a, b), i)) ((a, b), i + 1) (by simp only; omega) (Tree.out_asrt.2 ⟨⟨by simp only; omega, by simp only; omega, h2, h3⟩, h⟩)
  · have hi : ¬ i < (a.T.length : Int) := of_decide_eq_false hi
    rw [drop_end (by omega), drop_end (xs := b.T) (by omega)] at h
    exact Rnd.out h
noncomputable def c138 : Cfg := c137.addLoop 16 4 LSr4
theorem c138_good : GoodCfg c138 := c137_good.addLoop (by unfold OneLoop; kernel_rfl) lSr4
def TSr9 (x : (Fu.World × Fu.World) × Int) : St := ⟨puts (J 73) [(2, .ptr 0 0), (3, .ptr 1 0), (6, .int .i64 x.2)], [(0, .cells (encW x.1.1)), (1, .cells (encW x.1.2))], 2⟩
def sSr9 : List Sh := sets (Js 73) [(2, .keep), (3, .keep), (6, .int)]
def eSr9 : List Sh := sets (Js 73) [(2, .keep), (3, .keep), (4, .keep)]
def RSr9 (x : Fu.World × Fu.World) : Ex × St := (.ret, ⟨puts (J 73) [(2, .ptr 0 0), (3, .ptr 1 0), (4, .blit false)], [(0, .cells (encW x.1)), (1, .cells (encW x.2))], 2⟩)
def ESr9 (x : Fu.World × Fu.World) : Ex × St := (.exit 2, ⟨puts (J 73) [(2, .ptr 0 0), (3, .ptr 1 0)], [(0, .cells (encW x.1)), (1, .cells (encW x.2))], 2⟩)
theorem bSr9 (x : Fu.World × Fu.World) (i : Int) : roundN c138 60 16 (loopAt c138.P 16 9) (norm2 2 [] [0, 1] sSr9) (norm2 2 [] [0, 1] eSr9) (TSr9 (x, i)) =
    .ite (decide (i < x.1.A.length)) (.asrt (0 ≤ i ∧ i < x.1.A.length) (.asrt (0 ≤ i ∧ i < x.2.A.length) (.ite (!eqApeB (rd .ape x.1.A i) (rd .ape x.2.A i)) (.ret (RSr9 x)) (.ret (.normal, TSr9 (x, IntKind.i64.wrap (i + 1))))))) (.ret (ESr9 x)) := by kernel_rfl
def gSr9 (σ : St) : Option ((Fu.World × Fu.World) × Int) :=
  match nth σ.tmps 6, σ.heap with
  | .int .i64 i, [(_, .cells [.int .i64 a, .view .task t, .view .ape p, .int .i64 c]), (_, .cells [.int .i64 a2, .view .task t2, .view .ape p2, .int .i64 c2])] => some ((⟨a, t, p, c⟩, ⟨a2, t2, p2, c2⟩), i)
  | _, _ => none
def LxSr9 (x : (Fu.World × Fu.World) × Int) : Tree (Ex × St) := .asrt (0 ≤ x.2 ∧ x.2 ≤ x.1.1.A.length ∧ x.1.1.A.length = x.1.2.A.length ∧ (x.1.1.A.length : Int) ≤ 17592186044415) (.ite (decide (x.1.1.A.drop x.2.toNat = x.1.2.A.drop x.2.toNat)) (.ret (ESr9 x.1)) (.ret (RSr9 x.1)))
def LSr9 : LoopCon := entry 2 (norm2 2 [] [0, 1] sSr9) TSr9 gSr9 LxSr9
theorem lSr9 (hs : SubOf c138.P 16 (.loop (loopAt c138.P 16 9))) : SoundLoop c138 (loopAt c138.P 16 9) LSr9 := by
  refine loop_rule3 (C := c138) (g := 16) (l := 9) c138_good 60 2 _ _ (Weak.norm2 2 [] [0, 1] sSr9) (Weak.norm2 2 [] [0, 1] eSr9) hs TSr9 LxSr9 (fun x => (x.1.1.A.length - x.2).toNat) (fun x q h => ?_) entry_out
  obtain ⟨⟨a, b⟩, i⟩ := x
  obtain ⟨⟨h0, h1, h2, h3⟩, h⟩ := Tree.out_asrt.1 h
  simp only at h0 h1 h2 h3 h
  refine .of_eq (bSr9 (a, b) i) ?_
  rw [wrap_fits (n := i + 1) (by omega) (by omega)]
  refine Tree.wp_ite.2 ⟨fun hi => ?_, fun hi => ?_⟩
  · have hi : i < (a.A.length : Int) := of_decide_eq_true hi
    rw [drop_rd (r := .ape) h0 hi, drop_rd (r := .ape) (xs := b.A) h0 (by omega), cons_eq_dec, ← eqApeB_eq] at h
    refine ⟨⟨h0, hi⟩, ⟨h0, by show i < (b.A.length : Int); omega⟩, Tree.wp_ite.2 ⟨fun hb => ?_, fun hb => ?_⟩⟩
    · have hb : eqApeB (rd .ape a.A i) (rd .ape b.A i) = false := by simpa using hb
      rw [hb] at h
      exact Rnd.ret h
    · have hb : eqApeB (rd .ape a.A i) (rd .ape b.A i) = true := by simpa using hb
      rw [hb, Bool.true_and] at h
      exact Rnd.go (m := fun x : (Fu.World × Fu.World) × Int => (x.1.1.A.length - x.2).toNat) (x := ((a, b), i)) ((a, b), i + 1) (by simp only; omega) (Tree.out_asrt.2 ⟨⟨by simp only; omega, by simp only; omega, h2, h3⟩, h⟩)
  · have hi : ¬ i < (a.A.length : Int) := of_decide_eq_false hi
    rw [drop_end (by omega), drop_end (xs := b.A) (by omega)] at h
    exact Rnd.out h
noncomputable def c139 : Cfg := c138.addLoop 16 9 LSr9
theorem c139_good : GoodCfg c139 := c138_good.addLoop (by unfold OneLoop; kernel_rfl) lSr9
def same17T (a b : Fu.World) : Tree (AV × List Blk) := .ite (a.Now != b.Now || (a.Cur != b.Cur || ((a.T.length : Int) != b.T.length || (a.A.length : Int) != b.A.length))) noB
  (.asrt (2 = 2 ∧ TSr4 ((a, b), 0) = TSr4 ((a, b), 0)) (.asrt (0 ≤ (0 : Int) ∧ (0 : Int) ≤ a.T.length ∧ a.T.length = b.T.length ∧ (a.T.length : Int) ≤ 17592186044415) (.ite (decide (a.T.drop (0 : Int).toNat = b.T.drop (0 : Int).toNat))
  (.asrt (2 = 2 ∧ TSr9 ((a, b), 0) = TSr9 ((a, b), 0)) (.asrt (0 ≤ (0 : Int) ∧ (0 : Int) ≤ a.A.length ∧ a.A.length = b.A.length ∧ (a.A.length : Int) ≤ 17592186044415) (.ite (decide (a.A.drop (0 : Int).toNat = b.A.drop (0 : Int).toNat)) (.ret (.blit true, [])) noB))) noB)))
theorem fSame17 (a b : Fu.World) : callC c139 60 16 [.agg (encW a), .agg (encW b)] = same17T a b := by kernel_rfl
def conSame17 : Con := flatCon (d2 dWorld dWorld) (fun x => smallW x.1) fun x => .bool (decide (x.1 = x.2))
theorem same17T_rez {a b : Fu.World} (h : smallW a) : Rez (same17T a b) (.bool (decide (a = b)), []) := by
  refine ite_rez (fun hl => noB_rez ?_) fun hl => ?_
  · refine decide_eq_false fun e => ?_
    subst e
    simp at hl
  · simp only [Bool.or_eq_false_iff, bne_eq_false_iff_eq] at hl
    obtain ⟨h1, h2, h3, h4⟩ := hl
    refine .asrt ⟨rfl, rfl⟩ (.asrt ⟨Int.le_refl _, by omega, by omega, by have := h.1; omega⟩ ?_)
    rw [show (0 : Int).toNat = 0 from rfl, List.drop_zero, List.drop_zero, List.drop_zero, List.drop_zero]
    obtain ⟨a1, a2, a3, a4⟩ := a
    obtain ⟨b1, b2, b3, b4⟩ := b
    simp only at h1 h2 h3 h4 ⊢
    refine ite_rez (fun hd => .asrt ⟨trivial, trivial⟩ (.asrt ⟨Int.le_refl _, by omega, by omega, by have := h.2; simp only at this; omega⟩ (ite_rez (fun he => .ret (.blit ?_) rfl) fun he => noB_rez ?_))) fun hd => noB_rez ?_
    · have := of_decide_eq_true hd
      have := of_decide_eq_true he
      simp_all
    · have := of_decide_eq_false he
      simp_all
    · have := of_decide_eq_false hd
      simp_all
theorem conSame17_valid : ValidCon c139.P 16 conSame17 := flatCon_valid c139_good 60 (by kernel_rfl) fun x h => ⟨_, fSame17 x.1 x.2, same17T_rez h⟩
noncomputable def c140 : Cfg := c139.addQuiet 16 conSame17
theorem c140_good : GoodCfg c140 := c139_good.addQuiet conSame17_valid flatCon_quiet
end Go.Fx
