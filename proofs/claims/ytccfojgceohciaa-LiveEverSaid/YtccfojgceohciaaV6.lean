import Derived.Test.YtccfojgceohciaaV5
import Derived.Test.YtccfojgceohciaaFx5
/- The law LiveShort: what its loops do. -/
namespace Go.Fx
open Go Go.Proofs

/-! ### jobs are to run shorter -/
abbrev AS := List Fu.Live × Int × List Int × Int × Int × Int
def TS (x : AS × Int) : St := ⟨puts (J 174) [(1, .int .i64 x.1.2.2.2.2.1), (2, .view (.int .i64) x.1.2.2.1), (6, .blit false), (8, .int .i64 x.1.2.2.2.2.2), (10, .int .i64 x.1.2.1), (11, .int .i64 x.1.2.2.2.1), (12, .own 0), (13, .int .i64 x.2)], [(0, .rows .live 39 x.1.1)], 1⟩
def sS : List Sh := sets (Js 174) [(1, .keep), (2, .keep), (6, .keep), (8, .keep), (10, .int), (11, .keep), (12, .keep), (13, .int)]
def eS : List Sh := sets (Js 174) [(1, .keep), (2, .keep), (6, .keep), (8, .keep), (10, .int), (11, .keep), (12, .keep)]
def ES (n : Nat) (x : AS) : Ex × St := (.exit n, ⟨puts (J 174) [(1, .int .i64 x.2.2.2.2.1), (2, .view (.int .i64) x.2.2.1), (6, .blit false), (8, .int .i64 x.2.2.2.2.2), (10, .int .i64 x.2.1), (11, .int .i64 x.2.2.2.1), (12, .own 0)], [(0, .rows .live 39 x.1)], 1⟩)
def freshS (x : AS) (i : Int) : Bool := (rd .live x.1 i).J.On && ((rd .live x.1 i).J.Rel == x.2.2.2.1 || x.2.2.2.1 == x.2.2.2.2.1) && decide (x.2.1 < x.2.2.1.length)
theorem bS (x : AS) (i : Int) : roundN cOwn 60 4 (loopAt cOwn.P 4 13) (norm2 1 [] [0] sS) (norm2 1 [] [0] eS) (TS (x, i)) =
    .ite (decide (i < x.1.length)) (.asrt (0 ≤ i ∧ i < x.1.length) (.asrt (0 ≤ i ∧ i < x.1.length) (.asrt ((rd .live x.1 i).J.On = true → 0 ≤ i ∧ i < x.1.length) (.asrt ((rd .live x.1 i).J.On = true → 0 ≤ i ∧ i < x.1.length)
      (.ite (freshS x i) (.asrt (0 ≤ x.2.1 ∧ x.2.1 < x.2.2.1.length) (.asrt (0 ≤ i ∧ i < x.1.length) (.asrt (0 ≤ i ∧ i < x.1.length) (.asrt (decide (rd (.int .i64) x.2.2.1 x.2.1 > (rd .live x.1 i).J.Ran) = true → 0 ≤ x.2.1 ∧ x.2.1 < x.2.2.1.length)
        (.asrt (decide (rd (.int .i64) x.2.2.1 x.2.1 > (rd .live x.1 i).J.Ran) = true → 0 ≤ i ∧ i < x.1.length) (.asrt (decide (rd (.int .i64) x.2.2.1 x.2.1 > (rd .live x.1 i).J.Ran) = true → 0 ≤ i ∧ i < x.1.length)
        (.ite (decide (rd (.int .i64) x.2.2.1 x.2.1 > (rd .live x.1 i).J.Ran) && decide (rd (.int .i64) x.2.2.1 x.2.1 < (rd .live x.1 i).J.D))
          (.asrt (0 ≤ x.2.1 ∧ x.2.1 < x.2.2.1.length) (.asrt (0 ≤ i ∧ i < x.1.length) (.asrt (0 ≤ i ∧ i < x.1.length) (.ret (.normal, TS ((upd .live x.1 i { (rd .live x.1 i) with J := { (rd .live x.1 i).J with D := rd (.int .i64) x.2.2.1 x.2.1 } }, IntKind.i64.wrap (x.2.1 + 1), x.2.2), IntKind.i64.wrap (i + 1)))))))
          (.ret (.normal, TS ((x.1, IntKind.i64.wrap (x.2.1 + 1), x.2.2), IntKind.i64.wrap (i + 1)))))))))))
        (.ret (.normal, TS (x, IntKind.i64.wrap (i + 1))))))))) (.ret (ES 2 x)) := by kernel_rfl
def lowJ (j : Fu.Job) (r : Int) : Fu.Job := bif decide (r > j.Ran) && decide (r < j.D) then { j with D := r } else j
def lowL (x : Fu.Live) (r : Int) : Fu.Live := { x with J := lowJ x.J r }
def nxtS (x : AS) (i : Int) : AS := bif freshS x i then (upd .live x.1 i (lowL (rd .live x.1 i) (rd (.int .i64) x.2.2.1 x.2.1)), x.2.1 + 1, x.2.2) else x
def okS (x : AS) (i : Int) : Prop := i < x.1.length ∧ 0 ≤ x.2.1 ∧ (x.2.2.1.length : Int) < 17592186044416
def gS (σ : St) : Option (AS × Int) :=
  match nth σ.tmps 1, nth σ.tmps 2, nth σ.tmps 8, nth σ.tmps 10, nth σ.tmps 11, nth σ.tmps 13, σ.heap with
  | .int .i64 now, .view (.int .i64) real, .int .i64 e, .int .i64 a, .int .i64 t, .int .i64 i, [(_, .rows .live _ l)] => some ((l, a, real, t, now, e), i)
  | _, _, _, _, _, _, _ => none
def LS : LoopCon := boundF 1 (norm2 1 [] [0] sS) TS gS (fun x => x.1.length) okS nxtS (ES 2)
theorem nxtS_len (x : AS) (i : Int) : (nxtS x i).1.length = x.1.length := by
  unfold nxtS
  cases freshS x i with
  | true => exact upd_len (r := .live) _ _ _
  | false => rfl
theorem lS (hs : SubOf cOwn.P 4 (.loop (loopAt cOwn.P 4 13))) : SoundLoop cOwn (loopAt cOwn.P 4 13) LS :=
  bound_fold (C := cOwn) (g := 4) (l := 13) cOwn_good 60 1 _ _ (Weak.norm2 1 [] [0] sS) (Weak.norm2 1 [] [0] eS) hs TS gS (fun x => x.1.length) okS nxtS (ES 2)
    (fun _ => by intro h; cases h) (fun x i => by simp only [nxtS_len])
    (fun x i h0 hi hm hok => .of_eq (bS x i) (by
      unfold maxI64 at hm
      obtain ⟨_, h1, h2⟩ := hok
      have a : 0 ≤ i ∧ i < (x.1.length : Int) := ⟨h0, hi⟩
      rw [wrap_fits (n := i + 1) (by omega) (by omega)]
      refine (Tree.out_ite_true (decide_eq_true hi)).2 ⟨a, a, fun _ => a, fun _ => a, ?_⟩
      unfold nxtS
      cases hf : freshS x i with
      | false => exact (Tree.out_ite_false rfl).2 rfl
      | true =>
        have h3 : x.2.1 < (x.2.2.1.length : Int) := by unfold freshS at hf; simp at hf; exact hf.2
        rw [wrap_fits (n := x.2.1 + 1) (by omega) (by omega)]
        have b : 0 ≤ x.2.1 ∧ x.2.1 < (x.2.2.1.length : Int) := ⟨h1, h3⟩
        refine (Tree.out_ite_true rfl).2 ⟨b, a, a, fun _ => b, fun _ => a, fun _ => a, ?_⟩
        unfold lowL lowJ
        cases hc : (decide (rd (.int .i64) x.2.2.1 x.2.1 > (rd .live x.1 i).J.Ran) && decide (rd (.int .i64) x.2.2.1 x.2.1 < (rd .live x.1 i).J.D)) with
        | true => exact (Tree.out_ite_true rfl).2 ⟨b, a, a, rfl⟩
        | false =>
          refine (Tree.out_ite_false rfl).2 ?_
          simp only [cond_true, cond_false]
          rw [show ({ (rd .live x.1 i) with J := (rd .live x.1 i).J } : Fu.Live) = rd .live x.1 i from rfl, upd_self h0 hi]
          rfl))
    (fun x i hi => .of_eq (bS x i) ((Tree.out_ite_false (decide_eq_false (by omega))).2 rfl))
noncomputable def cS1 : Cfg := cOwn.addLoop 4 13 LS
theorem cS1_good : GoodCfg cS1 := cOwn_good.addLoop (by unfold OneLoop; kernel_rfl) lS

/-! ### jobs end -/
def TU (x : AS × Int) : St := ⟨puts (J 174) [(1, .int .i64 x.1.2.2.2.2.1), (2, .view (.int .i64) x.1.2.2.1), (6, .blit false), (8, .int .i64 x.1.2.2.2.2.2), (10, .int .i64 x.1.2.1), (11, .int .i64 x.1.2.2.2.1), (12, .own 0), (16, .int .i64 x.2)], [(0, .rows .live 39 x.1.1)], 1⟩
def sU : List Sh := sets (Js 174) [(1, .keep), (2, .keep), (6, .keep), (8, .keep), (10, .keep), (11, .keep), (12, .keep), (16, .int)]
def eU : List Sh := sets (Js 174) [(1, .keep), (2, .keep), (6, .keep), (8, .keep), (10, .keep), (11, .keep), (12, .keep)]
def RU (x : AS) : Ex × St := (.ret, (ES 0 x).2)
theorem bU (x : AS) (i : Int) : roundN cS1 60 4 (loopAt cS1.P 4 26) (norm2 1 [] [0] sU) (norm2 1 [] [0] eU) (TU (x, i)) =
    .ite (decide (i < x.1.length)) (.asrt (0 ≤ i ∧ i < x.1.length) (.asrt (0 ≤ i ∧ i < x.1.length) (.asrt ((atF (rd .live x.1 i).J (IntKind.i64.wrap (x.2.2.2.1 + 1)) == 3) = true → 0 ≤ i ∧ i < x.1.length) (.asrt ((atF (rd .live x.1 i).J (IntKind.i64.wrap (x.2.2.2.1 + 1)) == 3) = true → 0 ≤ i ∧ i < x.1.length)
      (.ite (atF (rd .live x.1 i).J (IntKind.i64.wrap (x.2.2.2.1 + 1)) == 3 && (rd .live x.1 i).J.Mand) (.ret (RU x)) (.asrt (0 ≤ i ∧ i < x.1.length) (.asrt (0 ≤ i ∧ i < x.1.length)
        (.ret (.normal, TU ((upd .live x.1 i (endL (IntKind.i64.wrap (x.2.2.2.1 + 1)) (rd .live x.1 i)), x.2), IntKind.i64.wrap (i + 1)))))))))))
    (.ret (ES 4 x)) := by kernel_rfl
def fU (a : Int × List Int × Int × Int × Int) (y : Fu.Live) : Fu.Live := endL (a.2.2.1 + 1) y
def okEU (a : Int × List Int × Int × Int × Int) (y : Fu.Live) : Prop := nowOK a.2.2.1 ∧ (overJ y.J (a.2.2.1 + 1) && y.J.Mand) = false
def gU (σ : St) : Option (AS × Int) :=
  match nth σ.tmps 1, nth σ.tmps 2, nth σ.tmps 8, nth σ.tmps 10, nth σ.tmps 11, nth σ.tmps 16, σ.heap with
  | .int .i64 now, .view (.int .i64) real, .int .i64 e, .int .i64 a, .int .i64 t, .int .i64 i, [(_, .rows .live _ l)] => some ((l, a, real, t, now, e), i)
  | _, _, _, _, _, _, _ => none
def LU : LoopCon := boundF 1 (norm2 1 [] [0] sU) TU gU (fun x : AS => x.1.length) (okM (r := .live) okEU) (nxtM (r := .live) fU keepA) (ES 4)
theorem lU (hs : SubOf cS1.P 4 (.loop (loopAt cS1.P 4 26))) : SoundLoop cS1 (loopAt cS1.P 4 26) LU :=
  bound_fold (C := cS1) (g := 4) (l := 26) cS1_good 60 1 _ _ (Weak.norm2 1 [] [0] sU) (Weak.norm2 1 [] [0] eU) hs TU gU (fun x : AS => x.1.length) (okM (r := .live) okEU) (nxtM (r := .live) fU keepA) (ES 4)
    (fun _ => by intro h; cases h) (fun x i => by show ((upd .live x.1 i _).length : Int) = _; rw [upd_len (r := .live)])
    (fun x i h0 hi hm hok => .of_eq (bU x i) (by
      unfold maxI64 at hm
      obtain ⟨_, ⟨h1, h2⟩, h3⟩ := hok
      have a : 0 ≤ i ∧ i < (x.1.length : Int) := ⟨h0, hi⟩
      have h1 : -4611686018427387904 ≤ x.2.2.2.1 := h1
      have h2 : x.2.2.2.1 ≤ 4611686018427387904 := h2
      rw [wrap_fits (n := i + 1) (by omega) (by omega), wrap_fits (n := x.2.2.2.1 + 1) (by omega) (by omega), atF_over]
      exact (Tree.out_ite_true (decide_eq_true hi)).2 ⟨a, a, fun _ => a, fun _ => a, (Tree.out_ite_false h3).2 ⟨a, a, rfl⟩⟩))
    (fun x i hi => .of_eq (bU x i) ((Tree.out_ite_false (decide_eq_false (by omega))).2 rfl))
noncomputable def cS2 : Cfg := cS1.addLoop 4 26 LU
theorem cS2_good : GoodCfg cS2 := cS1_good.addLoop (by unfold OneLoop; kernel_rfl) lU

end Go.Fx
