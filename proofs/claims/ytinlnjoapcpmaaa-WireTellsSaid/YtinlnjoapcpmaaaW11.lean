/- The wire seat's functions: what bytes ask: its loop over numbers. -/
import Derived.Test.YtinlnjoapcpmaaaW10
import Derived.Test.YtinlnjoapcpmaaaFxZ
namespace Go.Fx
open Go Go.Proofs

/-! ### wire.Get: its loop over numbers -/
abbrev X11 := List Int × (List Int × Int) × Int
def zeros (n : Nat) : List AV := List.replicate n (.lit .i64 0)
def opK (k : Int) (d : AV) : List AV := .int .i64 k :: (zeros 12 ++ [d])
def T11 (x : X11) : St := ⟨puts (J 90) [(2, .ptr 0 0), (4, .ptr 1 0), (66, .view (.int .u8) x.1), (67, .int .i64 x.1.length), (68, .int .i64 x.2.2)],
  [(0, .cells (zeros 13 ++ [.nils])), (1, .cells (opK x.2.1.2 (.own 3))), (3, .rows (.int .i64) 3 x.2.1.1)], 4⟩
def s11 : List Sh := sets (Js 90) [(2, .keep), (4, .keep), (66, .keep), (67, .keep), (68, .int)]
def e11 : List Sh := sets (Js 90) [(2, .keep), (4, .keep)]
def E11 (x : List Int × Int) : Ex × St := (.exit 2, ⟨puts (J 90) [(2, .ptr 0 0), (4, .ptr 1 0)], [(0, .cells (zeros 13 ++ [.nils])), (1, .cells (opK x.2 (.own 3))), (3, .rows (.int .i64) 3 x.1)], 4⟩)
def q11 (ss : List Sh) (σ : St) : St := norm2 3 [.cell 1 13] [0, 1, 3] ss (ownCell 1 13 (.int .i64) 3 σ)
theorem weak_q11 (ss : List Sh) (σ : St) : Weak 3 σ (q11 ss σ) := (Weak.ownCell 3 1 13 (.int .i64) 3 σ).trans (Weak.norm2 3 [.cell 1 13] [0, 1, 3] ss _)
def ok11 (x : List Int × Int) (r : Int) : Prop := (x.1 ++ [IntKind.i64.wrap r]).length * 8 ≤ 140737488355328
def nx11 (x : List Int × Int) (r : Int) : List Int × Int := (x.1 ++ [IntKind.i64.wrap r], x.2)
theorem b11 (xs : List Int) (x : List Int × Int) (i : Int) : roundN w30 60 11 (loopAt w30.P 11 17) (q11 s11) (q11 e11) (T11 (xs, x, i)) =
    .ite (decide (i < xs.length)) (.asrt (0 ≤ i ∧ i < xs.length) (.asrt (ok11 x (rd (.int .u8) xs i))
      (.ret (.normal, T11 (xs, nx11 x (rd (.int .u8) xs i), IntKind.i64.wrap (i + 1)))))) (.ret (E11 x)) := by kernel_rfl
def g11 (σ : St) : Option X11 :=
  match nth σ.tmps 66, nth σ.tmps 68, σ.heap with
  | .view (.int .u8) xs, .int .i64 i, [_, (_, .cells (.int .i64 k :: _)), (_, .rows (.int .i64) _ ys)] => some (xs, (ys, k), i)
  | _, _, _ => none
def L11 : LoopCon := rangeF (r := .int .u8) 3 (q11 s11) T11 g11 ok11 nx11 (fun _ => E11)
theorem l11 (hs : SubOf w30.P 11 (.loop (loopAt w30.P 11 17))) : SoundLoop w30 (loopAt w30.P 11 17) L11 :=
  range_fold (C := w30) (g := 11) (l := 17) w30_good 60 3 (q11 s11) (q11 e11) (weak_q11 s11) (weak_q11 e11) hs (.int .u8) T11 g11 ok11 nx11 (fun _ => E11) (fun _ _ => by intro h; cases h)
    (fun xs x i h0 hi hm hok => .of_eq (b11 xs x i) (by
      rw [wrap_fits (by omega) (by unfold maxI64 at hm; omega)]
      exact (Tree.out_ite_true (decide_eq_true hi)).2 ⟨⟨h0, hi⟩, hok, rfl⟩))
    (fun xs x i hi => .of_eq (b11 xs x i) ((Tree.out_ite_false (decide_eq_false (by omega))).2 rfl))
noncomputable def w31 : Cfg := w30.addLoop 11 17 L11
theorem w31_good : GoodCfg w31 := w30_good.addLoop (by unfold OneLoop; kernel_rfl) l11

end Go.Fx
