import Derived.Test.YtccfojgceohciaaB18
/- Contracts: tasks at their periods. -/
namespace Go.Fx
open Go Go.Proofs

def dFix : Dc Fu.Fix := dRow .fix
def mayF (x : Fu.Fix) : Bool := decide (unitsV x.S x.P > 0)
theorem fMayF (x : Fu.Fix) : callC c71 60 48 [.agg (RTy.fix.enc x)] = .ret (.bool (mayF x), []) := by kernel_rfl
def conMayF : Con := plainCon (d1 dFix) fun x => .bool (mayF x)
theorem conMayF_valid : ValidCon c71.P 48 conMayF := plainCon_valid c71_good 60 (by kernel_rfl) fun x => ⟨_, fMayF x, .ret (.refl _) rfl⟩
noncomputable def c72 : Cfg := c71.addQuiet 48 conMayF
theorem c72_good : GoodCfg c72 := c71_good.addQuiet conMayF_valid plainCon_quiet

abbrev AM := List Fu.Fix × List Int
def TM (x : AM × Int) : St := ⟨puts (J 31) [(0, .view .fix x.1.1), (3, .own 0), (6, .view .fix x.1.1), (7, .int .i64 x.1.1.length), (8, .int .i64 x.2)], [(0, .rows (.int .i64) 3 x.1.2)], 1⟩
def sM : List Sh := sets (Js 31) [(0, .keep), (3, .keep), (6, .keep), (7, .int), (8, .int)]
def xM : List Sh := sets (Js 31) [(0, .keep), (3, .keep)]
def rM : List Sh := sets (Js 31) [(2, .keep)]
def fM1 (σ : St) : St := norm2 0 [.tmp 3] [0] sM (ownSlot 3 (.int .i64) 3 σ)
def eM1 (σ : St) : St := bif litAt 2 σ then norm2 0 [] [] rM σ else norm2 0 [.tmp 3] [0] xM (ownSlot 3 (.int .i64) 3 σ)
theorem weak_fM1 (σ : St) : Weak 0 σ (fM1 σ) := (Weak.ownSlot 0 3 (.int .i64) 3 σ).trans (Weak.norm2 0 [.tmp 3] [0] sM _)
theorem weak_eM1 (σ : St) : Weak 0 σ (eM1 σ) := by
  unfold eM1
  cases litAt 2 σ with
  | true => exact Weak.norm2 0 [] [] rM σ
  | false => exact (Weak.ownSlot 0 3 (.int .i64) 3 σ).trans (Weak.norm2 0 [.tmp 3] [0] xM _)
def RM : Ex × St := (.ret, (⟨puts (J 31) [(2, .blit false)], [], 0⟩ : St))
def EM (x : AM) : Ex × St := (.exit 0, ⟨puts (J 31) [(0, .view .fix x.1), (3, .own 0)], [(0, .rows (.int .i64) 3 x.2)], 1⟩)
theorem bM (x : AM) (i : Int) : roundN c72 60 29 (loopAt c72.P 29 3) fM1 eM1 (TM (x, i)) =
    .ite (decide (i < x.1.length)) (.asrt (0 ≤ i ∧ i < x.1.length) (.ite (!mayF (rd .fix x.1 i)) (.ret RM) (.asrt ((x.2 ++ [unitsV (rd .fix x.1 i).S (rd .fix x.1 i).P]).length * 8 ≤ 140737488355328) (.ret (.normal, TM ((x.1, x.2 ++ [unitsV (rd .fix x.1 i).S (rd .fix x.1 i).P]), IntKind.i64.wrap (i + 1))))))) (.ret (EM x)) := by kernel_rfl
def gM1 (σ : St) : Option (AM × Int) :=
  match nth σ.tmps 0, nth σ.tmps 8, σ.heap with
  | .view .fix l, .int .i64 i, [(_, .rows (.int .i64) _ o)] => some ((l, o), i)
  | _, _, _ => none
def nxtMa (x : AM) (i : Int) : AM := (x.1, x.2 ++ [unitsV (rd .fix x.1 i).S (rd .fix x.1 i).P])
def brkM1 (x : AM) (i : Int) : Option Unit := bif !mayF (rd .fix x.1 i) then some () else none
def okM1 (x : AM) (_ : Int) : Prop := (x.2.length + 1) * 8 ≤ 140737488355328
def LM : LoopCon := boundB 0 fM1 TM gM1 (fun x => x.1.length) okM1 nxtMa brkM1 () (fun _ => RM) EM
theorem lM (hs : SubOf c72.P 29 (.loop (loopAt c72.P 29 3))) : SoundLoop c72 (loopAt c72.P 29 3) LM :=
  bound_loop (C := c72) (g := 29) (l := 3) c72_good 60 0 _ _ weak_fM1 weak_eM1 hs TM gM1 (fun x => x.1.length) okM1 nxtMa brkM1 () (fun _ => RM) EM
    (fun _ => by intro h; cases h) (fun _ => by intro h; cases h) (fun _ _ => rfl)
    (fun x i h0 hi hm hok => .of_eq (bM x i) (by
      unfold maxI64 at hm
      rw [wrap_fits (n := i + 1) (by omega) (by omega)]
      refine (Tree.out_ite_true (decide_eq_true hi)).2 ⟨⟨h0, hi⟩, ?_⟩
      unfold brkM1
      cases h : (!mayF (rd .fix x.1 i)) with
      | true => exact (Tree.out_ite_true rfl).2 rfl
      | false => exact (Tree.out_ite_false rfl).2 ⟨by rw [List.length_append]; exact hok, rfl⟩))
    (fun x i hi => .of_eq (bM x i) ((Tree.out_ite_false (decide_eq_false (by omega))).2 rfl))
noncomputable def c73 : Cfg := c72.addLoop 29 3 LM
theorem c73_good : GoodCfg c73 := c72_good.addLoop (by unfold OneLoop; kernel_rfl) lM
def fixT (l : List Fu.Fix) : Tree (AV × List Blk) :=
  .asrt (0 = 0 ∧ TM ((l, []), 0) = TM ((l, []), 0)) (.asrt (0 ≤ (0 : Int) ∧ (l.length : Int) ≤ maxI64 ∧ okI nxtMa brkM1 okM1 ((l.length : Int) - 0).toNat (l, []) 0)
    (optT () (brkI nxtMa brkM1 ((l.length : Int) - 0).toNat (l, []) 0) (fun _ => .ret (.blit false, []))
      (.ret (.bool (decide (((foldI nxtMa ((l.length : Int) - 0).toNat (l, []) 0).1.length : Int) ≤ 4) && fitsV (foldI nxtMa ((l.length : Int) - 0).toNat (l, []) 0).2), []))))
theorem fMayFs (l : List Fu.Fix) : callC c73 60 29 [.view .fix l] = fixT l := by kernel_rfl
def unitF (x : Fu.Fix) : Int := unitsV x.S x.P
theorem foldMa {l : List Fu.Fix} (hl : (l.length : Int) < 17592186044416) (k : Nat) : ∀ (out : List Int) (i : Int), 0 ≤ i → i + k = l.length → out.length + k = l.length →
    okI nxtMa brkM1 okM1 k (l, out) i ∧ (brkI nxtMa brkM1 k (l, out) i).isSome = !((l.drop i.toNat).all mayF) ∧ ((l.drop i.toNat).all mayF = true → foldI nxtMa k (l, out) i = (l, out ++ (l.drop i.toNat).map unitF)) := by
  induction k with
  | zero =>
    intro out i h0 h1 h2
    rw [drop_end (by omega)]
    exact ⟨trivial, rfl, fun _ => by simp [foldI]⟩
  | succ k ih =>
    intro out i h0 h1 h2
    have hd := drop_rd (r := .fix) (xs := l) h0 (by omega)
    have hok : okM1 (l, out) i := by show (out.length + 1) * 8 ≤ 140737488355328; omega
    rw [hd, List.all_cons]
    cases ho : mayF (rd .fix l i) with
    | false =>
      have e : brkM1 (l, out) i = some () := by unfold brkM1; simp only; rw [ho]; rfl
      refine ⟨⟨hok, fun hn => by rw [e] at hn; cases hn⟩, ?_, fun h => by simp at h⟩
      unfold brkI
      rw [e]
      rfl
    | true =>
      have e : brkM1 (l, out) i = none := by unfold brkM1; simp only; rw [ho]; rfl
      obtain ⟨k1, k2, k3⟩ := ih (out ++ [unitF (rd .fix l i)]) (i + 1) (by omega) (by omega) (by rw [List.length_append]; simp only [List.length_cons, List.length_nil]; omega)
      refine ⟨⟨hok, fun _ => k1⟩, ?_, fun h => ?_⟩
      · unfold brkI
        rw [e]
        exact k2
      · rw [Bool.true_and] at h
        unfold foldI
        refine (k3 h).trans ?_
        rw [List.map_cons, List.append_assoc]
        rfl
/-- May these be together? -/
def mayFs (l : List Fu.Fix) : Bool := l.all mayF && (decide ((l.length : Int) ≤ 4) && fitsV (l.map unitF))
theorem fixT_rez {l : List Fu.Fix} (hl : (l.length : Int) < 17592186044416) : Rez (fixT l) (.bool (mayFs l), []) := by
  obtain ⟨k1, k2, k3⟩ := foldMa hl ((l.length : Int) - 0).toNat [] 0 (Int.le_refl _) (by omega) (by simp)
  rw [show (0 : Int).toNat = 0 from rfl, List.drop_zero] at k2 k3
  refine .asrt ⟨rfl, rfl⟩ (.asrt ⟨Int.le_refl _, by unfold maxI64; omega, k1⟩ ?_)
  unfold mayFs
  cases ha : l.all mayF with
  | true =>
    rw [ha] at k2
    have hn : brkI nxtMa brkM1 ((l.length : Int) - 0).toNat (l, []) 0 = none := by
      cases hb : brkI nxtMa brkM1 ((l.length : Int) - 0).toNat (l, []) 0 with
      | none => rfl
      | some b => rw [hb] at k2; cases k2
    rw [hn, k3 ha]
    exact .itee rfl (.ret (.refl _) rfl)
  | false =>
    rw [ha] at k2
    cases hb : brkI nxtMa brkM1 ((l.length : Int) - 0).toNat (l, []) 0 with
    | none => rw [hb] at k2; cases k2
    | some b => exact .itet rfl (.ret (.blit rfl) rfl)
def conMayFs : Con := flatCon (d1 (dView .fix)) (fun l => (l.length : Int) < 17592186044416) fun l => .bool (mayFs l)
theorem conMayFs_valid : ValidCon c73.P 29 conMayFs := flatCon_valid c73_good 60 (by kernel_rfl) fun l h => ⟨_, fMayFs l, fixT_rez h⟩
noncomputable def c74 : Cfg := c73.addQuiet 29 conMayFs
theorem c74_good : GoodCfg c74 := c73_good.addQuiet conMayFs_valid flatCon_quiet

end Go.Fx
