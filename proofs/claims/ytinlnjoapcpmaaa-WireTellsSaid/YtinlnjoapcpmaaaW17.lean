/- The wire seat's functions of the document's answer: small numbers, pairs, may, answers. -/
import Derived.Test.YtinlnjoapcpmaaaW16
namespace Go.Fx
open Go Go.Proofs

def dOp : Dc Fu.Op := ⟨opOf, opAV, fun _ _ h => .op h⟩

/-! ### fuseeref16.small -/
def smallB (n m : Int) : Bool := decide (n ≥ 0) && decide (n ≤ m)
theorem f31 (n m : Int) : callC w33 60 31 [.int .i64 n, .int .i64 m] = .ret (.bool (smallB n m), []) := by kernel_rfl
def con31 : Con := plainCon (d2 dInt dInt) fun x => .bool (smallB x.1 x.2)
theorem con31_valid : ValidCon w33.P 31 con31 := plainCon_valid w33_good 60 (by kernel_rfl) fun x => ⟨_, f31 x.1 x.2, .ret (.refl _) rfl⟩
noncomputable def w34 : Cfg := w33.addQuiet 31 con31
theorem w34_good : GoodCfg w34 := w33_good.addQuiet con31_valid plainCon_quiet

/-! ### fuseeref16.pair -/
def pairL (n : Int) : List Int := [IntKind.u8.wrap (IntKind.i64.wrap (n.tdiv 256)), IntKind.u8.wrap (n.tmod 256)]
theorem f29 (n : Int) : frozen (callC w34 60 29) [.int .i64 n] = .ret (.lv 2 [.int .u8 (IntKind.u8.wrap (IntKind.i64.wrap (n.tdiv 256))), .int .u8 (IntKind.u8.wrap (n.tmod 256))], []) := by kernel_rfl
def con29 : Con := plainCon (d1 dInt) fun n => .view (.int .u8) (pairL n)
theorem con29_valid : ValidCon w34.P 29 con29 := frozenPlain_valid w34_good 60 (by kernel_rfl) fun n => ⟨_, f29 n, .ret (.view rfl) rfl⟩
noncomputable def w35 : Cfg := w34.addQuiet 29 con29
theorem w35_good : GoodCfg w35 := w34_good.addQuiet con29_valid plainCon_quiet

/-! ### fuseeref16.May: its loop -/
/-- The slots at the loop's head: what is asked, what is left of it, whether it may be, and the place. -/
def T21 (o : Fu.Op) (ok : Bool) (i : Int) : St :=
  ⟨puts (J 126) [(1, .ptr 0 0), (3, .ptr 1 0), (4, .bool ok), (6, .int .i64 i)], [(0, .cells (opCells o)), (1, .cells (.lit .i64 0 :: (opCells o).drop 1))], 2⟩
def s21 : List Sh := sets (Js 126) [(1, .keep), (3, .keep), (4, .bool), (6, .int)]
def e21 : List Sh := sets (Js 126) [(1, .keep), (3, .keep), (4, .bool)]
def E21 (o : Fu.Op) (ok : Bool) : Ex × St := (.exit 1, ⟨puts (J 126) [(1, .ptr 0 0), (3, .ptr 1 0), (4, .bool ok)], [(0, .cells (opCells o)), (1, .cells (.lit .i64 0 :: (opCells o).drop 1))], 2⟩)
theorem b21 (o : Fu.Op) (ok : Bool) (i : Int) : roundN w35 60 21 (loopAt w35.P 21 25) (norm2 2 [] [0, 1] s21) (norm2 2 [] [0, 1] e21) (T21 o ok i) =
    .ite (decide (i < o.D.length)) (.asrt (ok = true → 0 ≤ i ∧ i < o.D.length) (.asrt (ok = true → decide (rd (.int .i64) o.D i ≥ 1) = true → 0 ≤ i ∧ i < o.D.length)
      (.ret (.normal, T21 o (ok && (decide (rd (.int .i64) o.D i ≥ 1) && decide (rd (.int .i64) o.D i ≤ 20))) (IntKind.i64.wrap (i + 1)))))) (.ret (E21 o ok)) := by kernel_rfl
abbrev Y21 := List Int × (Fu.Op × Bool) × Int
def t21 (x : Y21) : St := T21 { x.2.1.1 with D := x.1 } x.2.1.2 x.2.2
def in20 (d : Int) : Bool := decide (d ≥ 1) && decide (d ≤ 20)
def g21 (σ : St) : Option Y21 :=
  match σ.heap, nth σ.tmps 4, nth σ.tmps 6 with
  | [(_, .cells cs), _], .bool ok, .int .i64 i => match opOf (.agg cs) with | some o => some (o.D, (o, ok), i) | none => none
  | _, _, _ => none
def L21 : LoopCon := fun σ =>
  match g21 (norm2 2 [] [0, 1] s21 σ) with
  | some p => .asrt (σ.next = 2 ∧ norm2 2 [] [0, 1] s21 σ = T21 p.2.1.1 p.2.1.2 p.2.2 ∧ p.2.2 = 0 ∧ p.1 = p.2.1.1.D ∧ (p.1.length : Int) < maxI64) (.ret (E21 p.2.1.1 (p.2.1.2 && p.1.all in20)))
  | none => .fail
theorem l21 (hs : SubOf w35.P 21 (.loop (loopAt w35.P 21 25))) : SoundLoop w35 (loopAt w35.P 21 25) L21 := by
  refine loop_rule3 (C := w35) (g := 21) (l := 25) w35_good 60 2 _ _ (Weak.norm2 2 [] [0, 1] s21) (Weak.norm2 2 [] [0, 1] e21) hs t21
    (fun p => .asrt (0 ≤ p.2.2 ∧ p.2.2 ≤ (p.1.length : Int) ∧ (p.1.length : Int) < maxI64) (.ret (E21 { p.2.1.1 with D := p.1 } (p.2.1.2 && (p.1.drop p.2.2.toNat).all in20)))) (fun p => p.1.length - p.2.2.toNat) (fun p q h => ?_) (fun σ r h => ?_)
  · obtain ⟨xs, ⟨o, ok⟩, i⟩ := p
    obtain ⟨⟨h0, h1, h2⟩, h⟩ := Tree.out_asrt.1 h
    simp only at h0 h1 h2 h
    refine .of_eq (b21 { o with D := xs } ok i) ⟨fun hi => ?_, fun hi => ?_⟩
    · have hi : i < xs.length := of_decide_eq_true hi
      refine ⟨fun _ => ⟨h0, hi⟩, fun _ _ => ⟨h0, hi⟩, ?_⟩
      rw [wrap_fits (by omega) (by unfold maxI64 at h2; omega)]
      refine Rnd.go (m := fun p : Y21 => p.1.length - p.2.2.toNat) (x := (xs, (o, ok), i)) (xs, (o, ok && in20 (rd (.int .i64) xs i)), i + 1) (show xs.length - (i + 1).toNat < xs.length - i.toNat by omega) ?_
      refine Tree.out_asrt.2 ⟨⟨(show 0 ≤ i + 1 by omega), (show i + 1 ≤ (xs.length : Int) by omega), h2⟩, ?_⟩
      rw [drop_rd (r := .int .i64) h0 hi, List.all_cons] at h
      simpa only [Bool.and_assoc] using h
    · have hi : ¬ i < xs.length := of_decide_eq_false hi
      rw [drop_end (by omega), List.all_nil, Bool.and_true] at h
      exact Rnd.out h
  · unfold L21 at h
    split at h
    · rename_i p hp
      obtain ⟨⟨h1, h2, h3, h4, h5⟩, h6⟩ := Tree.out_asrt.1 h
      obtain ⟨xs, ⟨o, ok⟩, i⟩ := p
      simp only at h2 h3 h4 h5 h6
      subst h3 h4
      exact ⟨h1, (o.D, (o, ok), 0), h2, Tree.out_asrt.2 ⟨⟨Int.le_refl _, (show (0 : Int) ≤ (o.D.length : Int) by omega), h5⟩, h6⟩⟩
    · exact h.elim
noncomputable def w36 : Cfg := w35.addLoop 21 25 L21
theorem w36_good : GoodCfg w36 := w35_good.addLoop (by unfold OneLoop; kernel_rfl) l21

end Go.Fx
