import Derived.Test.YtneflbpekennkaaGreatR1
import Derived.Test.YtneflbpekennkaaGreatPlU
/- One time: the example, and which numbers are low. -/
namespace Go.Fx
open Go Go.Proofs

def w17 : Fu.World := ⟨0, [newKR 1 ⟨2, 10, 20, 1, 2, 3⟩ 10 0], [], -1⟩
def w19 : Fu.World := tickW w17 []
def up19 : Tree (AV × List Blk) := .asrt (tickY (w17, [])) (.asrt (tickY (w19, [])) (.asrt (((beginW w17 []).2.length : Int) < 17592186044416) (.ite true (.ite true (.ite true (.ite true (.ite true (.ite true (.asrt (0 ≤ (0 : Int) ∧ (0 : Int) < (tickW w19 []).T.length) (.asrt (0 ≤ (0 : Int) ∧ (0 : Int) < (tickW w19 []).T.length) (.ret (.bool true, [])))) noB) noB) noB) noB) noB) noB)))
theorem fAwake19 : callC c131 90 9 [] = up19 := by kernel_rfl
theorem conAwake19_valid : ValidCon c131.P 9 conTrue := conTrue_valid c131_good 90 (by kernel_rfl) ⟨_, fAwake19, by
  have s1 : smallW w17 := ⟨by decide +kernel, by decide +kernel⟩
  have s2 : smallW w19 := ⟨by decide +kernel, by decide +kernel⟩
  have h1 : tickY (w17, []) := ⟨s1, by decide +kernel⟩
  have h2 : tickY (w19, []) := ⟨s2, by decide +kernel⟩
  have h3 : ((beginW w17 []).2.length : Int) < 17592186044416 := by decide +kernel
  have h4 : 0 ≤ (0 : Int) ∧ (0 : Int) < (tickW w19 []).T.length := by decide +kernel
  exact .asrt h1 (.asrt h2 (.asrt h3 (.itet rfl (.itet rfl (.itet rfl (.itet rfl (.itet rfl (.itet rfl (.asrt h4 (.asrt h4 (.ret (.boolLit rfl) rfl)))))))))))⟩
noncomputable def c132 : Cfg := c131.addQuiet 9 conTrue
theorem c132_good : GoodCfg c132 := c131_good.addQuiet conAwake19_valid conTrue_quiet
def TLw (x : (Fu.World × Bool) × Int) : St := ⟨puts (J 26) [(1, .ptr 0 0), (3, .bool x.1.2), (4, .int .i64 x.2)], [(0, .cells (encW x.1.1))], 1⟩
def sLw : List Sh := sets (Js 26) [(1, .keep), (3, .bool), (4, .int)]
def eLw : List Sh := sets (Js 26) [(3, .bool)]
def ELw (x : Fu.World × Bool) : Ex × St := (.exit 0, ⟨puts (J 26) [(3, .bool x.2)], [(0, .cells (encW x.1))], 1⟩)
def nxtLw (x : Fu.World × Bool) (i : Int) : Fu.World × Bool := (x.1, x.2 && decide ((rd .task x.1.T i).N ≤ 274877906944))
theorem bLw (x : Fu.World × Bool) (i : Int) : roundN c132 60 13 (loopAt c132.P 13 3) (norm2 1 [] [0] sLw) (norm2 1 [] [0] eLw) (TLw (x, i)) =
    .ite (decide (i < x.1.T.length)) (.asrt (x.2 = true → 0 ≤ i ∧ i < x.1.T.length) (.ret (.normal, TLw (nxtLw x i, IntKind.i64.wrap (i + 1))))) (.ret (ELw x)) := by kernel_rfl
def gLw (σ : St) : Option ((Fu.World × Bool) × Int) :=
  match nth σ.tmps 3, nth σ.tmps 4, σ.heap with
  | .bool b, .int .i64 i, [(_, .cells [.int .i64 a, .view .task t, .view .ape q, .int .i64 c])] => some ((⟨a, t, q, c⟩, b), i)
  | _, _, _ => none
def okLw (_ : Fu.World × Bool) (_ : Int) : Prop := True
def LLw : LoopCon := boundF 1 (norm2 1 [] [0] sLw) TLw gLw (fun x => x.1.T.length) okLw nxtLw ELw
theorem lLw (hs : SubOf c132.P 13 (.loop (loopAt c132.P 13 3))) : SoundLoop c132 (loopAt c132.P 13 3) LLw :=
  bound_fold (C := c132) (g := 13) (l := 3) c132_good 60 1 _ _ (Weak.norm2 1 [] [0] sLw) (Weak.norm2 1 [] [0] eLw) hs TLw gLw (fun x => x.1.T.length) okLw nxtLw ELw
    (fun _ => by intro h; cases h) (fun _ _ => rfl)
    (fun x i h0 hi hm _ => .of_eq (bLw x i) (by
      unfold maxI64 at hm
      rw [wrap_fits (n := i + 1) (by omega) (by omega)]
      exact (Tree.out_ite_true (decide_eq_true hi)).2 ⟨fun _ => ⟨h0, hi⟩, rfl⟩))
    (fun x i hi => .of_eq (bLw x i) ((Tree.out_ite_false (decide_eq_false (by omega))).2 rfl))
noncomputable def c133 : Cfg := c132.addLoop 13 3 LLw
theorem c133_good : GoodCfg c133 := c132_good.addLoop (by unfold OneLoop; kernel_rfl) lLw
/-- Numbers that are low. -/
def lowW (w : Fu.World) : Bool := decide (w.Now ≤ 137438953472) && w.T.all fun t => decide (t.N ≤ 274877906944)
def lowT (w : Fu.World) : Tree (AV × List Blk) := .asrt (1 = 1 ∧ TLw ((w, decide (w.Now ≤ 137438953472)), 0) = TLw ((w, decide (w.Now ≤ 137438953472)), 0)) (.asrt (0 ≤ (0 : Int) ∧ (w.T.length : Int) ≤ maxI64 ∧ okI nxtLw (fun _ _ => (none : Option Unit)) okLw ((w.T.length : Int) - 0).toNat (w, decide (w.Now ≤ 137438953472)) 0)
  (.ret (.bool (foldI nxtLw ((w.T.length : Int) - 0).toNat (w, decide (w.Now ≤ 137438953472)) 0).2, [])))
theorem fLow (w : Fu.World) : callC c133 60 13 [.agg (encW w)] = lowT w := by kernel_rfl
theorem foldLw {w : Fu.World} (k : Nat) : ∀ (b : Bool) (i : Int), 0 ≤ i → i + k = w.T.length → foldI nxtLw k (w, b) i = (w, b && (w.T.drop i.toNat).all fun t => decide (t.N ≤ 274877906944)) ∧ okI nxtLw (fun _ _ => (none : Option Unit)) okLw k (w, b) i := by
  induction k with
  | zero => intro b i h0 h1; rw [drop_end (by omega)]; exact ⟨by simp [foldI], trivial⟩
  | succ k ih =>
    intro b i h0 h1
    have hd := drop_rd (r := .task) (xs := w.T) h0 (by omega)
    obtain ⟨k1, k2⟩ := ih (b && decide ((rd .task w.T i).N ≤ 274877906944)) (i + 1) (by omega) (by omega)
    refine ⟨?_, trivial, fun _ => k2⟩
    unfold foldI
    refine k1.trans ?_
    rw [hd, List.all_cons, Bool.and_assoc]
def conLow : Con := flatCon (d1 dWorld) smallW fun w => .bool (lowW w)
theorem conLow_valid : ValidCon c133.P 13 conLow := flatCon_valid c133_good 60 (by kernel_rfl) fun w h => ⟨_, fLow w, by
  have hT := h.1
  obtain ⟨k1, k2⟩ := foldLw (w := w) ((w.T.length : Int) - 0).toNat (decide (w.Now ≤ 137438953472)) 0 (Int.le_refl _) (by omega)
  refine .asrt ⟨rfl, rfl⟩ (.asrt ⟨Int.le_refl _, by unfold maxI64; omega, k2⟩ (retB ?_))
  rw [k1, show (0 : Int).toNat = 0 from rfl, List.drop_zero]
  rfl⟩
noncomputable def c134 : Cfg := c133.addQuiet 13 conLow
theorem c134_good : GoodCfg c134 := c133_good.addQuiet conLow_valid flatCon_quiet
end Go.Fx
