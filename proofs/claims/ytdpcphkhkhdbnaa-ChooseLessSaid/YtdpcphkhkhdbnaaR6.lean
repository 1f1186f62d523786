import Derived.Test.YtdpcphkhkhdbnaaRN
/- The choose laws: the chapter's example, and the task of a number. -/
namespace Go.Fx
open Go Go.Proofs

def w18a : Fu.World := ⟨0, (beginW w17 []).1.T, [⟨7, 9, 2, 3, 0⟩], -1⟩
def w18b : Fu.World := ⟨0, [], [⟨7, 9, 2, 3, 0⟩], -1⟩
def up18 : Tree (AV × List Blk) := .asrt (smallW w17) (.asrt (okWho w18a) (.asrt (okWho w18b) (.ret (.bool true, []))))
theorem fAwake18 : callC c128 90 25 [] = up18 := by kernel_rfl
theorem okWho_may {w : Fu.World} (h : smallW w) (hm : mayL (livesW w) w.Now = true) : okWho w := ⟨h, okF_of (mayL_all hm).1⟩
instance (j : Fu.Job) : Decidable (smallC j) := by unfold smallC; infer_instance
theorem conAwake18_valid : ValidCon c128.P 25 conTrue := conTrue_valid c128_good 90 (by kernel_rfl) ⟨_, fAwake18, by
  have hl : w18a.T.length = 1 := by decide +kernel
  have h1 : okF (livesW w18a) := ⟨by unfold livesW; rw [List.length_map, hl]; decide, by
    have : (livesW w18a).all (fun x => decide (smallC x.J)) = true := by decide +kernel
    intro x hx
    exact of_decide_eq_true (List.all_eq_true.1 this x hx)⟩
  exact .asrt ⟨by decide, by decide⟩ (.asrt ⟨⟨by rw [hl]; decide, by decide⟩, h1⟩ (.asrt (okWho_may ⟨by decide, by decide⟩ (by decide +kernel)) (.ret (.boolLit rfl) rfl)))⟩
noncomputable def c129 : Cfg := c128.addQuiet 25 conTrue
theorem c129_good : GoodCfg c129 := c128_good.addQuiet conAwake18_valid conTrue_quiet
abbrev ATk := Fu.World × Int
def TTk (x : ATk × Int) : St := ⟨puts (J 28) [(1, .int .i64 x.1.2), (2, .ptr 0 0), (4, .ptr 1 0), (6, .int .i64 x.2)], [(0, .cells (encW x.1.1)), (1, .cells zeroKA.cells)], 2⟩
def sTk : List Sh := sets (Js 28) [(1, .int), (2, .keep), (4, .keep), (6, .int)]
def eTk : List Sh := sets (Js 28) [(4, .keep), (5, .keep)]
def RTk (t : Fu.Task) : Ex × St := (.ret, ⟨puts (J 28) [(4, .ptr 1 0), (5, .blit true)], [(1, .cells (encTask t))], 2⟩)
def ETk : Ex × St := (.exit 0, ⟨puts (J 28) [(4, .ptr 1 0)], [(1, .cells zeroKA.cells)], 2⟩)
theorem bTk (x : ATk) (i : Int) : roundN c129 60 28 (loopAt c129.P 28 2) (norm2 2 [] [0, 1] sTk) (norm2 2 [] [1] eTk) (TTk (x, i)) =
    .ite (decide (i < x.1.T.length)) (.asrt (0 ≤ i ∧ i < x.1.T.length) (.ite ((rd .task x.1.T i).ID == x.2) (.asrt (0 ≤ i ∧ i < x.1.T.length) (.ret (RTk (rd .task x.1.T i)))) (.ret (.normal, TTk (x, IntKind.i64.wrap (i + 1)))))) (.ret ETk) := by kernel_rfl
def gTk (σ : St) : Option (ATk × Int) :=
  match nth σ.tmps 1, nth σ.tmps 6, σ.heap with
  | .int .i64 id, .int .i64 i, [(_, .cells [.int .i64 a, .view .task t, .view .ape q, .int .i64 c]), _] => some ((⟨a, t, q, c⟩, id), i)
  | _, _, _ => none
/-- The task of a number. -/
def taskF (l : List Fu.Task) (id : Int) : Option Fu.Task := l.find? fun t => t.ID == id
def LxTk (x : ATk × Int) : Tree (Ex × St) := .asrt (0 ≤ x.2 ∧ x.2 ≤ x.1.1.T.length ∧ (x.1.1.T.length : Int) < 17592186044416) (optT zeroK (taskF (x.1.1.T.drop x.2.toNat) x.1.2) (fun t => .ret (RTk t)) (.ret ETk))
def LTk : LoopCon := entry 2 (norm2 2 [] [0, 1] sTk) TTk gTk LxTk
theorem lTk (hs : SubOf c129.P 28 (.loop (loopAt c129.P 28 2))) : SoundLoop c129 (loopAt c129.P 28 2) LTk := by
  refine loop_rule3 (C := c129) (g := 28) (l := 2) c129_good 60 2 _ _ (Weak.norm2 2 [] [0, 1] sTk) (Weak.norm2 2 [] [1] eTk) hs TTk LxTk (fun x => (x.1.1.T.length - x.2).toNat) (fun x q h => ?_) entry_out
  obtain ⟨⟨w, id⟩, i⟩ := x
  obtain ⟨⟨h0, h1, h2⟩, h⟩ := Tree.out_asrt.1 h
  simp only at h0 h1 h2 h
  refine .of_eq (bTk (w, id) i) ?_
  simp only
  rw [wrap_fits (n := i + 1) (by omega) (by omega)]
  refine Tree.wp_ite.2 ⟨fun hi => ?_, fun hi => ?_⟩
  · have hi := of_decide_eq_true hi
    rw [drop_rd (r := .task) (xs := w.T) h0 hi] at h
    unfold taskF at h
    rw [List.find?_cons] at h
    refine ⟨⟨h0, hi⟩, Tree.wp_ite.2 ⟨fun hb => ?_, fun hb => ?_⟩⟩
    · rw [hb] at h
      exact ⟨⟨h0, hi⟩, Rnd.ret (optT_out.1 h)⟩
    · rw [hb] at h
      exact Rnd.go (m := fun x : ATk × Int => (x.1.1.T.length - x.2).toNat) (x := ((w, id), i)) ((w, id), i + 1) (by simp only; omega) (Tree.out_asrt.2 ⟨⟨by simp only; omega, by simp only; omega, h2⟩, h⟩)
  · have hi := of_decide_eq_false hi
    rw [drop_end (xs := w.T) (by omega)] at h
    exact Rnd.out (optT_out.1 h)
noncomputable def c130 : Cfg := c129.addLoop 28 2 LTk
theorem c130_good : GoodCfg c130 := c129_good.addLoop (by unfold OneLoop; kernel_rfl) lTk
def taskT (w : Fu.World) (id : Int) : Tree (AV × List Blk) := .asrt (2 = 2 ∧ TTk ((w, id), 0) = TTk ((w, id), 0)) (.asrt (0 ≤ (0 : Int) ∧ (0 : Int) ≤ w.T.length ∧ (w.T.length : Int) < 17592186044416)
  (.ite (taskF (w.T.drop (0 : Int).toNat) id).isSome (.ret (.tup [.agg (encTask ((taskF (w.T.drop (0 : Int).toNat) id).getD zeroK)), .blit true], [])) (.ret (.tup [zeroKA, .blit false], []))))
theorem fTask18 (w : Fu.World) (id : Int) : callC c130 60 28 [.agg (encW w), .int .i64 id] = taskT w id := by kernel_rfl
def conTask18 : Con := flatCon (d2 dWorld dInt) (fun x => smallW x.1) fun x => .tup [.agg (encTask ((taskF x.1.T x.2).getD zeroK)), .bool (taskF x.1.T x.2).isSome]
theorem conTask18_valid : ValidCon c130.P 28 conTask18 := flatCon_valid c130_good 60 (by kernel_rfl) fun x h => ⟨_, fTask18 x.1 x.2, by
  have h1 := h.1
  refine .asrt ⟨rfl, rfl⟩ (.asrt ⟨Int.le_refl _, by omega, by omega⟩ ?_)
  rw [show (0 : Int).toNat = 0 from rfl, List.drop_zero]
  cases taskF x.1.T x.2 with
  | some t => exact .itet rfl (.ret (.tup (.cons (.refl _) (.cons (.blit rfl) .nil))) rfl)
  | none => exact .itee rfl (.ret (.tup (.cons zeroK_as (.cons (.blit rfl) .nil))) rfl)⟩
noncomputable def c131 : Cfg := c130.addQuiet 28 conTask18
theorem c131_good : GoodCfg c131 := c130_good.addQuiet conTask18_valid flatCon_quiet
/-- Arguments: a world. -/
def good1W (args : List AV) : Prop := ∃ w : Fu.World, args = [.agg (encW w)] ∧ smallW w
end Go.Fx
