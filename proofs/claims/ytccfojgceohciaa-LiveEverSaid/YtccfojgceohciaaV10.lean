import Derived.Test.YtccfojgceohciaaB24
import Derived.Test.YtccfojgceohciaaPlI
/- The live seat: tasks at their periods. -/
namespace Go.Fx
open Go Go.Proofs

abbrev AZ := List Fu.Live × List Fu.Fix
def TZ (x : AZ × Int) : St := ⟨puts (J 26) [(0, .view .live x.1.1), (3, .own 0), (4, .int .i64 x.2)], [(0, .rows .fix 63 x.1.2)], 1⟩
def sZ : List Sh := sets (Js 26) [(0, .keep), (3, .keep), (4, .int)]
def eZ : List Sh := sets (Js 26) [(3, .keep)]
def fZ (ss : List Sh) (σ : St) : St := norm2 0 [.tmp 3] [0] ss (ownSlot 3 .fix 63 σ)
theorem weak_fZ (ss : List Sh) (σ : St) : Weak 0 σ (fZ ss σ) := (Weak.ownSlot 0 3 .fix 63 σ).trans (Weak.norm2 0 [.tmp 3] [0] ss _)
def EZ (x : AZ) : Ex × St := (.exit 0, ⟨puts (J 26) [(3, .own 0)], [(0, .rows .fix 63 x.2)], 1⟩)
theorem bZ (x : AZ) (i : Int) : roundN c88 60 30 (loopAt c88.P 30 3) (fZ sZ) (fZ eZ) (TZ (x, i)) =
    .ite (decide (i < x.1.length)) (.asrt (0 ≤ i ∧ i < x.1.length) (.asrt (0 ≤ i ∧ i < x.1.length) (.asrt ((x.2 ++ [fixOf (rd .live x.1 i)]).length * 56 ≤ 140737488355328) (.ret (.normal, TZ ((x.1, x.2 ++ [fixOf (rd .live x.1 i)]), IntKind.i64.wrap (i + 1))))))) (.ret (EZ x)) := by kernel_rfl

def gZ (σ : St) : Option (AZ × Int) :=
  match nth σ.tmps 0, nth σ.tmps 4, σ.heap with
  | .view .live l, .int .i64 i, [(_, .rows .fix _ o)] => some ((l, o), i)
  | _, _, _ => none
def nxtZ (x : AZ) (i : Int) : AZ := (x.1, x.2 ++ [fixOf (rd .live x.1 i)])
def okZ (x : AZ) (_ : Int) : Prop := (x.2.length + 1) * 56 ≤ 140737488355328
def LZ : LoopCon := boundF 0 (fZ sZ) TZ gZ (fun x => x.1.length) okZ nxtZ EZ
theorem lZ (hs : SubOf c88.P 30 (.loop (loopAt c88.P 30 3))) : SoundLoop c88 (loopAt c88.P 30 3) LZ :=
  bound_fold (C := c88) (g := 30) (l := 3) c88_good 60 0 _ _ (weak_fZ sZ) (weak_fZ eZ) hs TZ gZ (fun x => x.1.length) okZ nxtZ EZ
    (fun _ => by intro h; cases h) (fun _ _ => rfl)
    (fun x i h0 hi hm hok => .of_eq (bZ x i) (by
      unfold maxI64 at hm
      rw [wrap_fits (n := i + 1) (by omega) (by omega)]
      exact (Tree.out_ite_true (decide_eq_true hi)).2 ⟨⟨h0, hi⟩, ⟨h0, hi⟩, by rw [List.length_append]; exact hok, rfl⟩))
    (fun x i hi => .of_eq (bZ x i) ((Tree.out_ite_false (decide_eq_false (by omega))).2 rfl))
noncomputable def c89 : Cfg := c88.addLoop 30 3 LZ
theorem c89_good : GoodCfg c89 := c88_good.addLoop (by unfold OneLoop; kernel_rfl) lZ
def fixesT (l : List Fu.Live) : Tree (AV × List Blk) :=
  .asrt (0 = 0 ∧ TZ ((l, []), 0) = TZ ((l, []), 0)) (.asrt (0 ≤ (0 : Int) ∧ (l.length : Int) ≤ maxI64 ∧ okI nxtZ (fun _ _ => (none : Option Unit)) okZ ((l.length : Int) - 0).toNat (l, []) 0)
    (.ret (.own 0, [.rows .fix 63 (foldI nxtZ ((l.length : Int) - 0).toNat (l, []) 0).2])))
theorem fFixes (l : List Fu.Live) : callC c89 60 30 [.view .live l] = fixesT l := by kernel_rfl

theorem foldZ {l : List Fu.Live} (hl : (l.length : Int) * 136 ≤ 140737488355328) (k : Nat) : ∀ (out : List Fu.Fix) (i : Int), 0 ≤ i → i + k = l.length → out.length + k = l.length →
    foldI nxtZ k (l, out) i = (l, out ++ (l.drop i.toNat).map fixOf) ∧ okI nxtZ (fun _ _ => (none : Option Unit)) okZ k (l, out) i := by
  induction k with
  | zero =>
    intro out i h0 h1 h2
    rw [drop_end (by omega)]
    exact ⟨by simp [foldI], trivial⟩
  | succ k ih =>
    intro out i h0 h1 h2
    have hd := drop_rd (r := .live) (xs := l) h0 (by omega)
    have hok : okZ (l, out) i := by show (out.length + 1) * 56 ≤ 140737488355328; omega
    obtain ⟨k1, k2⟩ := ih (out ++ [fixOf (rd .live l i)]) (i + 1) (by omega) (by omega) (by rw [List.length_append]; simp only [List.length_cons, List.length_nil]; omega)
    refine ⟨?_, hok, fun _ => k2⟩
    unfold foldI
    refine k1.trans ?_
    rw [hd, List.map_cons, List.append_assoc]
    rfl
theorem fixesT_rez {l : List Fu.Live} (hl : boundL l) : Rez (fixesT l) (.own 0, [.rows .fix 63 (l.map fixOf)]) := by
  have hl' : (l.length : Int) * 136 ≤ 140737488355328 := hl
  have e : ((l.length : Int) - 0).toNat = l.length := by omega
  obtain ⟨k1, k2⟩ := foldZ hl' l.length [] 0 (Int.le_refl _) (by omega) (by simp)
  unfold fixesT
  rw [e]
  refine .asrt ⟨rfl, rfl⟩ (.asrt ⟨Int.le_refl _, by unfold maxI64; omega, k2⟩ (.ret (.refl _) ?_))
  rw [k1]
  rfl
def conFixes : Con := resCon (d1 (dView .live)) boundL fun l => (.own 0, [.rows .fix 63 (l.map fixOf)])
theorem conFixes_valid : ValidCon c89.P 30 conFixes := resCon_valid c89_good 60 (by kernel_rfl) fun l h => ⟨_, fFixes l, fixesT_rez h⟩
def conFixesF : Con := flatCon (d1 (dView .live)) boundL fun l => .view .fix (l.map fixOf)
theorem conFixesF_valid : ValidCon c89.P 30 conFixesF := resCon_frozen conFixes_valid fun _ => ⟨_, rfl, .refl _⟩
noncomputable def c90 : Cfg := c89.addQuiet 30 conFixesF
theorem c90_good : GoodCfg c90 := c89_good.addQuiet conFixesF_valid flatCon_quiet

end Go.Fx
