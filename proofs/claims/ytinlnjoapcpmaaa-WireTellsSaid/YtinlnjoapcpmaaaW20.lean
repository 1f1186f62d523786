/- The wire seat's functions of the document's answer: what bytes ask. -/
import Derived.Test.YtinlnjoapcpmaaaW19
namespace Go.Fx
open Go Go.Proofs

/-! ### fuseeref16.Get: its loop -/
abbrev X16 := List Int × (List Int × Int) × Int
def T16 (x : X16) : St := ⟨puts (J 151) [(0, .view (.int .u8) x.1), (2, .ptr 0 0), (4, .ptr 1 0), (6, .int .i64 x.2.2)],
  [(0, .cells (zeros 13 ++ [.nils])), (1, .cells (opK x.2.1.2 (.own 5))), (5, .rows (.int .i64) 3 x.2.1.1)], 6⟩
def s16 : List Sh := sets (Js 151) [(0, .keep), (2, .keep), (4, .keep), (6, .int)]
def e16 : List Sh := sets (Js 151) [(0, .keep), (2, .keep), (4, .keep)]
def E16 (b : List Int) (x : List Int × Int) : Ex × St := (.exit 1, ⟨puts (J 151) [(0, .view (.int .u8) b), (2, .ptr 0 0), (4, .ptr 1 0)], [(0, .cells (zeros 13 ++ [.nils])), (1, .cells (opK x.2 (.own 5))), (5, .rows (.int .i64) 3 x.1)], 6⟩)
def q16 (ss : List Sh) (σ : St) : St := norm2 5 [.cell 1 13] [0, 1, 5] ss (ownCell 1 13 (.int .i64) 3 σ)
theorem weak_q16 (ss : List Sh) (σ : St) : Weak 5 σ (q16 ss σ) := (Weak.ownCell 5 1 13 (.int .i64) 3 σ).trans (Weak.norm2 5 [.cell 1 13] [0, 1, 5] ss _)
theorem b16 (xs : List Int) (x : List Int × Int) (i : Int) : roundN w39 60 16 (loopAt w39.P 16 20) (q16 s16) (q16 e16) (T16 (xs, x, i)) =
    .ite (decide (i < xs.length)) (.asrt (0 ≤ i ∧ i < xs.length) (.asrt (ok11 x (rd (.int .u8) xs i))
      (.ret (.normal, T16 (xs, nx11 x (rd (.int .u8) xs i), IntKind.i64.wrap (i + 1)))))) (.ret (E16 xs x)) := by kernel_rfl
def g16 (σ : St) : Option X16 :=
  match nth σ.tmps 0, nth σ.tmps 6, σ.heap with
  | .view (.int .u8) xs, .int .i64 i, [_, (_, .cells (.int .i64 k :: _)), (_, .rows (.int .i64) _ ys)] => some (xs, (ys, k), i)
  | _, _, _ => none
def L16 : LoopCon := rangeF (r := .int .u8) 5 (q16 s16) T16 g16 ok11 nx11 E16
theorem l16 (hs : SubOf w39.P 16 (.loop (loopAt w39.P 16 20))) : SoundLoop w39 (loopAt w39.P 16 20) L16 :=
  range_fold (C := w39) (g := 16) (l := 20) w39_good 60 5 (q16 s16) (q16 e16) (weak_q16 s16) (weak_q16 e16) hs (.int .u8) T16 g16 ok11 nx11 E16 (fun _ _ => by intro h; cases h)
    (fun xs x i h0 hi hm hok => .of_eq (b16 xs x i) (by
      rw [wrap_fits (by omega) (by unfold maxI64 at hm; omega)]
      exact (Tree.out_ite_true (decide_eq_true hi)).2 ⟨⟨h0, hi⟩, hok, rfl⟩))
    (fun xs x i hi => .of_eq (b16 xs x i) ((Tree.out_ite_false (decide_eq_false (by omega))).2 rfl))
noncomputable def w40 : Cfg := w39.addLoop 16 20 L16
theorem w40_good : GoodCfg w40 := w39_good.addLoop (by unfold OneLoop; kernel_rfl) l16

end Go.Fx
