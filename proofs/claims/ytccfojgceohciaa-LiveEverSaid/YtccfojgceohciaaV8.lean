import Derived.Test.YtccfojgceohciaaB16
/- The live seat: whose numbers are near 0. -/
namespace Go.Fx
open Go Go.Proofs

def farJ (j : Fu.Job) (b : Bool) : Bool := decide (j.C > 1000) || (decide (j.C < -1000) || (decide (j.D > 1000) || (decide (j.D < -1000) || (decide (j.Ran > 1000) || (decide (j.Ran < -1000) || b)))))
def farX (x : Fu.Live) : Bool := farJ x.J (decide (x.P > 1000000) || (decide (x.P < -1000000) || (decide (x.At > 2199023255552) || (decide (x.At < -1000) || (decide (x.N > 2199023255552) || decide (x.N < -1000))))))
def jokJ (j : Fu.Job) (p : Prop) : Prop := decide (j.C > 1000) = false → decide (j.C < -1000) = false → decide (j.D > 1000) = false → decide (j.D < -1000) = false → decide (j.Ran > 1000) = false → decide (j.Ran < -1000) = false → p
def TF (x : List Fu.Live × Int) : St := ⟨puts (J 95) [(0, .view .live x.1), (2, .blit false), (3, .int .i64 x.2)], [], 0⟩
def sF : List Sh := sets (Js 95) [(0, .keep), (2, .keep), (3, .int)]
def eF : List Sh := sets (Js 95) [(0, .keep), (2, .keep)]
def RF (l : List Fu.Live) : Ex × St := (.ret, ⟨puts (J 95) [(0, .view .live l), (2, .blit false)], [], 0⟩)
def EF (l : List Fu.Live) : Ex × St := (.exit 0, ⟨puts (J 95) [(0, .view .live l), (2, .blit false)], [], 0⟩)
theorem bF (l : List Fu.Live) (i : Int) : roundN c63 60 12 (loopAt c63.P 12 2) (norm2 0 [] [] sF) (norm2 0 [] [] eF) (TF (l, i)) =
    .ite (decide (i < l.length)) (.asrt (0 ≤ i ∧ i < l.length) (.asrt (jokJ (rd .live l i).J (0 ≤ i ∧ i < l.length)) (.asrt (jokJ (rd .live l i).J (decide ((rd .live l i).P > 1000000) = false → 0 ≤ i ∧ i < l.length))
      (.asrt (jokJ (rd .live l i).J (decide ((rd .live l i).P > 1000000) = false → decide ((rd .live l i).P < -1000000) = false → 0 ≤ i ∧ i < l.length))
      (.asrt (jokJ (rd .live l i).J (decide ((rd .live l i).P > 1000000) = false → decide ((rd .live l i).P < -1000000) = false → decide ((rd .live l i).At > 2199023255552) = false → 0 ≤ i ∧ i < l.length))
      (.asrt (jokJ (rd .live l i).J (decide ((rd .live l i).P > 1000000) = false → decide ((rd .live l i).P < -1000000) = false → decide ((rd .live l i).At > 2199023255552) = false → decide ((rd .live l i).At < -1000) = false → 0 ≤ i ∧ i < l.length))
      (.asrt (jokJ (rd .live l i).J (decide ((rd .live l i).P > 1000000) = false → decide ((rd .live l i).P < -1000000) = false → decide ((rd .live l i).At > 2199023255552) = false → decide ((rd .live l i).At < -1000) = false → decide ((rd .live l i).N > 2199023255552) = false → 0 ≤ i ∧ i < l.length))
      (.ite (farX (rd .live l i)) (.ret (RF l)) (.ret (.normal, TF (l, IntKind.i64.wrap (i + 1)))))))))))) (.ret (EF l)) := by kernel_rfl
def gF (σ : St) : Option (List Fu.Live × Int) :=
  match nth σ.tmps 0, nth σ.tmps 3 with
  | .view .live l, .int .i64 i => some (l, i)
  | _, _ => none
def brkF (l : List Fu.Live) (i : Int) : Option (List Fu.Live) := bif farX (rd .live l i) then some l else none
def LF : LoopCon := boundB 0 (norm2 0 [] [] sF) TF gF (fun l => l.length) (fun _ _ => True) (fun l _ => l) brkF [] RF EF
theorem lF (hs : SubOf c63.P 12 (.loop (loopAt c63.P 12 2))) : SoundLoop c63 (loopAt c63.P 12 2) LF :=
  bound_loop (C := c63) (g := 12) (l := 2) c63_good 60 0 _ _ (Weak.norm2 0 [] [] sF) (Weak.norm2 0 [] [] eF) hs TF gF (fun l => l.length) (fun _ _ => True) (fun l _ => l) brkF [] RF EF
    (fun _ => by intro h; cases h) (fun _ => by intro h; cases h) (fun _ _ => rfl)
    (fun l i h0 hi hm _ => .of_eq (bF l i) (by
      unfold maxI64 at hm
      rw [wrap_fits (by omega) (by omega)]
      have a : 0 ≤ i ∧ i < (l.length : Int) := ⟨h0, hi⟩
      refine (Tree.out_ite_true (decide_eq_true hi)).2 ⟨a, fun _ _ _ _ _ _ => a, fun _ _ _ _ _ _ _ => a, fun _ _ _ _ _ _ _ _ => a, fun _ _ _ _ _ _ _ _ _ => a, fun _ _ _ _ _ _ _ _ _ _ => a, fun _ _ _ _ _ _ _ _ _ _ _ => a, ?_⟩
      unfold brkF
      cases h : farX (rd .live l i) with
      | true => exact (Tree.out_ite_true rfl).2 rfl
      | false => exact (Tree.out_ite_false rfl).2 rfl))
    (fun l i hi => .of_eq (bF l i) ((Tree.out_ite_false (decide_eq_false (by omega))).2 rfl))
noncomputable def c64 : Cfg := c63.addLoop 12 2 LF
theorem c64_good : GoodCfg c64 := c63_good.addLoop (by unfold OneLoop; kernel_rfl) lF
def foldL1 (l : List Fu.Live) : List Fu.Live := foldI (fun (l : List Fu.Live) _ => l) ((l.length : Int) - 0).toNat l 0
def nearT (l : List Fu.Live) : Tree (AV × List Blk) :=
  .asrt (0 = 0 ∧ TF (l, 0) = TF (l, 0)) (.asrt (0 ≤ (0 : Int) ∧ (l.length : Int) ≤ maxI64 ∧ okI (fun l _ => l) brkF (fun _ _ => True) ((l.length : Int) - 0).toNat l 0)
    (optT [] (brkI (fun l _ => l) brkF ((l.length : Int) - 0).toNat l 0) (fun _ => .ret (.blit false, [])) (.ret (.bool (decide (((foldL1 l).length : Int) ≤ 10)), []))))
theorem fNear (l : List Fu.Live) : callC c64 60 12 [.view .live l] = nearT l := by kernel_rfl
def nearL (l : List Fu.Live) : Bool := !(l.any farX) && decide ((l.length : Int) ≤ 10)
theorem foldL1_eq (l : List Fu.Live) : foldL1 l = l := foldI_id _ _ _
theorem any_far {l : List Fu.Live} : (∀ j : Int, 0 ≤ j → j < l.length → farX (rd .live l j) = false) ↔ l.any farX = false := by
  rw [List.any_eq_false]
  constructor
  · intro h x hx
    obtain ⟨i, k0, k1, rfl⟩ := mem_rd hx
    rw [h i k0 k1]; decide
  · intro h j h0 h1
    simpa using h _ (rd_mem h0 h1)
theorem nearT_rez {l : List Fu.Live} (h : smallL l) : Rez (nearT l) (.bool (nearL l), []) := by
  have h' : (l.length : Int) < 17592186044416 := h
  refine .asrt ⟨rfl, rfl⟩ (.asrt ⟨Int.le_refl _, by unfold maxI64; omega, okI_idA _ _ fun _ _ _ => trivial⟩ ?_)
  cases hb : brkI (fun l _ => l) brkF ((l.length : Int) - 0).toNat l 0 with
  | none =>
    refine .itee rfl (.ret (.eq ?_) rfl)
    have h1 : l.any farX = false := any_far.1 fun j k0 k1 => by
      have := (brkI_idA _ _).1 hb j k0 (by omega)
      unfold brkF at this
      cases hc : farX (rd .live l j) with
      | false => rfl
      | true => rw [hc] at this; cases this
    unfold nearL
    rw [h1, foldL1_eq]
    rfl
  | some b =>
    refine .itet rfl (.ret (.blit ?_) rfl)
    unfold nearL
    cases ha : l.any farX with
    | true => rfl
    | false =>
      have : brkI (fun l _ => l) brkF ((l.length : Int) - 0).toNat l 0 = none := (brkI_idA _ _).2 fun j k0 k1 => by
        unfold brkF
        rw [any_far.2 ha j k0 (by omega)]
        rfl
      rw [this] at hb; cases hb
def conNear : Con := flatCon (d1 (dView .live)) smallL fun l => .bool (nearL l)
theorem conNear_valid : ValidCon c64.P 12 conNear := flatCon_valid c64_good 60 (by kernel_rfl) fun l h => ⟨_, fNear l, nearT_rez h⟩
noncomputable def c65 : Cfg := c64.addQuiet 12 conNear
theorem c65_good : GoodCfg c65 := c64_good.addQuiet conNear_valid flatCon_quiet
/-- The reference's list, as what is there. -/
theorem conRBeginF_valid : ValidCon c65.P 19 conBeginF := resCon_frozen conRBegin_valid fun _ => ⟨_, rfl, .refl _⟩
noncomputable def c66 : Cfg := c65.addQuiet 19 conBeginF
theorem c66_good : GoodCfg c66 := c65_good.addQuiet conRBeginF_valid flatCon_quiet

end Go.Fx
