/- The wire seat's functions: as many bytes as there are numbers. -/
import Derived.Test.YtinlnjoapcpmaaaW8
import Derived.Test.YtinlnjoapcpmaaaFxX
namespace Go.Fx
open Go Go.Proofs

/-! ### wire.Put: its loop over numbers -/
abbrev X9 := List Int × Int × Int × List Int
def T9 (x : X9) : St := ⟨puts (J 58) [(4, .own 5), (45, .view (.int .i64) x.1), (46, .int .i64 x.2.1), (47, .int .i64 x.2.2.1)], [(5, .rows (.int .u8) 5 x.2.2.2)], 6⟩
def s9 : List Sh := sets (Js 58) [(4, .keep), (45, .keep), (46, .keep), (47, .int)]
def e9 : List Sh := sets (Js 58) [(4, .keep)]
def E9 (ys : List Int) : St := ⟨puts (J 58) [(4, .own 5)], [(5, .rows (.int .u8) 5 ys)], 6⟩
theorem b9 (xs ys : List Int) (n i : Int) : roundN w28 60 9 (loopAt w28.P 9 12) (norm2 5 [.tmp 4] [5] s9) (norm2 5 [.tmp 4] [5] e9) (T9 (xs, n, i, ys)) =
    .ite (decide (i < n)) (.asrt (0 ≤ i ∧ i < xs.length) (.asrt ((ys ++ [IntKind.u8.wrap (rd (.int .i64) xs i)]).length * 1 ≤ 140737488355328)
      (.ret (.normal, T9 (xs, n, IntKind.i64.wrap (i + 1), ys ++ [IntKind.u8.wrap (rd (.int .i64) xs i)])))))
      (.ret (.exit 2, E9 ys)) := by kernel_rfl
def L9x (x : X9) : Tree (Ex × St) :=
  .asrt (0 ≤ x.2.2.1 ∧ x.2.2.1 ≤ x.1.length ∧ x.2.1 = x.1.length ∧ x.2.2.2.length + (x.1.length - x.2.2.1.toNat) ≤ 140737488355328 ∧ (x.1.length : Int) < 9223372036854775807)
    (.ret (.exit 2, E9 (x.2.2.2 ++ (x.1.drop x.2.2.1.toNat).map IntKind.u8.wrap)))
def m9 (x : X9) : Nat := x.1.length - x.2.2.1.toNat
theorem h9 (xs ys : List Int) (n i : Int) (r : Ex × St) (h : (L9x (xs, n, i, ys)).Out r) : Holds (roundN w28 60 9 (loopAt w28.P 9 12) (norm2 5 [.tmp 4] [5] s9) (norm2 5 [.tmp 4] [5] e9) (T9 (xs, n, i, ys))) (Rnd T9 m9 L9x (xs, n, i, ys) r) := by
  refine .of_eq (b9 xs ys n i) ?_
  unfold L9x at h
  have h' := Tree.out_asrt.1 h
  have h0 : 0 ≤ i := h'.1.1
  have h1 : i ≤ xs.length := h'.1.2.1
  have h2 : n = xs.length := h'.1.2.2.1
  have h3 : ys.length + (xs.length - i.toNat) ≤ 140737488355328 := h'.1.2.2.2.1
  have h4 : (xs.length : Int) < 9223372036854775807 := h'.1.2.2.2.2
  replace h := h'.2
  clear h'
  simp only at h
  subst h2
  refine ⟨fun hi => ?_, fun hi => ?_⟩
  · have hi := of_decide_eq_true hi
    refine ⟨⟨h0, hi⟩, (show (ys ++ [IntKind.u8.wrap (rd (.int .i64) xs i)]).length * 1 ≤ 140737488355328 by simp; omega), ?_⟩
    rw [wrap_fits (by omega) (by omega)]
    refine Rnd.go (m := m9) (x := (xs, (xs.length : Int), i, ys)) (xs, (xs.length : Int), i + 1, ys ++ [IntKind.u8.wrap (rd (.int .i64) xs i)]) (show xs.length - (i + 1).toNat < xs.length - i.toNat by omega) ?_
    unfold L9x
    refine Tree.out_asrt.2 ⟨⟨(show 0 ≤ i + 1 by omega), (show i + 1 ≤ xs.length by omega), rfl, (show (ys ++ [IntKind.u8.wrap (rd (.int .i64) xs i)]).length + (xs.length - (i + 1).toNat) ≤ 140737488355328 by simp; omega), h4⟩, ?_⟩
    rw [drop_rd (r := .int .i64) h0 hi] at h
    simpa only [List.map_cons, List.append_assoc, List.singleton_append] using h
  · have hi := of_decide_eq_false hi
    rw [drop_end (by omega), List.map_nil, List.append_nil] at h
    exact Rnd.out h
def g9 (σ : St) : Option X9 :=
  match nth σ.tmps 45, nth σ.tmps 46, nth σ.tmps 47, σ.heap with
  | .view (.int .i64) xs, .int .i64 n, .int .i64 i, [(_, .rows (.int .u8) _ ys)] => some (xs, n, i, ys)
  | _, _, _, _ => none
def L9 : LoopCon := entry 5 (norm2 5 [.tmp 4] [5] s9) T9 g9 L9x
theorem l9 (hs : SubOf w28.P 9 (.loop (loopAt w28.P 9 12))) : SoundLoop w28 (loopAt w28.P 9 12) L9 :=
  loop_rule3 (C := w28) (g := 9) (l := 12) w28_good 60 5 _ _ (Weak.norm2 5 [.tmp 4] [5] s9) (Weak.norm2 5 [.tmp 4] [5] e9) hs T9 L9x m9 (fun x r h => h9 x.1 x.2.2.2 x.2.1 x.2.2.1 r h) entry_out
noncomputable def w29 : Cfg := w28.addLoop 9 12 L9
theorem w29_good : GoodCfg w29 := w28_good.addLoop (by unfold OneLoop; kernel_rfl) l9

end Go.Fx
