/- The wire seat's functions: a number out of its bytes. -/
import Derived.Test.YtinlnjoapcpmaaaW4
namespace Go.Fx
open Go Go.Proofs

/-! ### wire.get -/
def stepG (m b : Int) : Int := orI .i64 (shlI .i64 m 8) (IntKind.i64.wrap b)
def getL : Int → List Int → Int
  | m, [] => m
  | m, b :: bs => getL (stepG m b) bs
def T26 (x : List Int × Int × Int × Int) : St := ⟨puts (J 20) [(0, .view (.int .u8) x.1), (3, .int .i64 x.2.2.2), (6, .int .i64 x.2.1), (7, .int .i64 x.2.2.1)], [], 0⟩
def s26 : List Sh := sets (Js 20) [(0, .keep), (3, .int), (6, .keep), (7, .int)]
def e26 : List Sh := sets (Js 20) [(3, .keep)]
theorem b26 (xs : List Int) (n i m : Int) : roundT w12 60 26 (loopAt w12.P 26 3) 0 [] s26 e26 (T26 (xs, n, i, m)) =
    .ite (decide (i < n)) (.asrt (0 ≤ i ∧ i < xs.length) (.ret (.normal, T26 (xs, n, IntKind.i64.wrap (i + 1), stepG m (rd (.int .u8) xs i)))))
      (.ret (.exit 0, ⟨puts (J 20) [(3, .int .i64 m)], [], 0⟩)) := by kernel_rfl
def L26x (x : List Int × Int × Int × Int) : Tree (Ex × St) :=
  .asrt (0 ≤ x.2.2.1 ∧ x.2.2.1 ≤ x.1.length ∧ x.2.1 = x.1.length ∧ (x.1.length : Int) < 9223372036854775807)
    (.ret (.exit 0, ⟨puts (J 20) [(3, .int .i64 (getL x.2.2.2 (x.1.drop x.2.2.1.toNat)))], [], 0⟩))
def L26 : LoopCon := fun σ =>
  match σ.tmps, σ.heap, σ.next with
  | [.view (.int .u8) xs, _, _, .lit .i64 0, _, _, .int .i64 n, .lit .i64 0, _, _, _, _, _, _, _, _, _, _, _, _], [], 0 => L26x (xs, n, 0, 0)
  | _, _, _ => .fail
def m26 (x : List Int × Int × Int × Int) : Nat := x.1.length - x.2.2.1.toNat
theorem h26 (xs : List Int) (n i m : Int) (r : Ex × St) (h : (L26x (xs, n, i, m)).Out r) : Holds (roundT w12 60 26 (loopAt w12.P 26 3) 0 [] s26 e26 (T26 (xs, n, i, m))) (Rnd T26 m26 L26x (xs, n, i, m) r) := by
  refine .of_eq (b26 xs n i m) ?_
  unfold L26x at h
  have h' := Tree.out_asrt.1 h
  have h0 : 0 ≤ i := h'.1.1
  have h1 : i ≤ xs.length := h'.1.2.1
  have h2 : n = xs.length := h'.1.2.2.1
  have h4 : (xs.length : Int) < 9223372036854775807 := h'.1.2.2.2
  replace h := h'.2
  clear h'
  simp only at h
  subst h2
  refine ⟨fun hi => ?_, fun hi => ?_⟩
  · have hi := of_decide_eq_true hi
    refine ⟨⟨h0, hi⟩, ?_⟩
    rw [wrap_fits (by omega) (by omega)]
    refine Rnd.go (m := m26) (x := (xs, (xs.length : Int), i, m)) (xs, (xs.length : Int), i + 1, stepG m (rd (.int .u8) xs i)) (show xs.length - (i + 1).toNat < xs.length - i.toNat by omega) ?_
    unfold L26x
    refine Tree.out_asrt.2 ⟨⟨(show 0 ≤ i + 1 by omega), (show i + 1 ≤ xs.length by omega), rfl, h4⟩, ?_⟩
    rw [drop_rd (r := .int .u8) h0 hi] at h
    exact h
  · have hi := of_decide_eq_false hi
    rw [drop_end (by omega)] at h
    exact Rnd.out h
theorem l26 (hs : SubOf w12.P 26 (.loop (loopAt w12.P 26 3))) : SoundLoop w12 (loopAt w12.P 26 3) L26 := by
  refine loop_rule2 (C := w12) (g := 26) (l := 3) w12_good 60 0 [] s26 e26 hs T26 L26x m26 (fun x r h => h26 x.1 x.2.1 x.2.2.1 x.2.2.2 r h) (fun σ r h => ?_)
  obtain ⟨ts, hp, nx⟩ := σ
  unfold L26 at h
  simp only at h
  split at h
  · exact ⟨rfl, (_, _, _, _), rfl, h⟩
  · exact h.elim
noncomputable def w13 : Cfg := w12.addLoop 26 3 L26
theorem w13_good : GoodCfg w13 := w12_good.addLoop (by unfold OneLoop; kernel_rfl) l26
theorem f26 (xs : List Int) : callC w13 60 26 [.view (.int .u8) xs] =
  .asrt (0 ≤ (0 : Int) ∧ (0 : Int) ≤ xs.length ∧ (xs.length : Int) = xs.length ∧ (xs.length : Int) < 9223372036854775807) (.ret (.int .i64 (getL 0 (xs.drop (0 : Int).toNat)), [])) := by kernel_rfl
def con26 : Con
  | [a] => match a.asView (.int .u8) with
    | some xs => .asrt ((xs.length : Int) < 9223372036854775807) (.ret (.int .i64 (getL 0 xs), []))
    | none => .fail
  | _ => .fail
theorem con26_valid : ValidCon w13.P 26 con26 := by
  refine con_of (n := 60) w13_good (by kernel_rfl) fun args r h => ?_
  unfold con26 at h
  split at h
  · split at h
    · rename_i xs ha
      obtain ⟨hlen, h⟩ := h
      cases h
      exact ⟨_, _, .cons (.view ha) .nil, .refl _, .of_eq (f26 xs) (Tree.out_asrt.2 ⟨⟨by omega, by omega, rfl, hlen⟩, rfl⟩)⟩
    · exact h.elim
  · exact h.elim
theorem con26_quiet : noBlks con26 := by
  intro args r h
  unfold con26 at h
  split at h
  · split at h
    · cases h; rfl
    · exact h.elim
  · exact h.elim
noncomputable def w14 : Cfg := w13.addQuiet 26 con26
theorem w14_good : GoodCfg w14 := w13_good.addQuiet con26_valid con26_quiet

end Go.Fx
