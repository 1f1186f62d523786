import Derived.Test.YtneflbpekennkaaGreatB32
/- Contracts: jobs that came once, in order. -/
namespace Go.Fx
open Go Go.Proofs

/-! ### dover.sorted -/
def cmpA (a b : Fu.Ape) : Int := bif eqApeB a b || (!(decide (a.Due < b.Due) || (a.Due == b.Due && decide (a.ID < b.ID))) && (a.Due == b.Due && a.ID == b.ID)) then 0 else bif decide (a.Due < b.Due) || (a.Due == b.Due && decide (a.ID < b.ID)) then -1 else 1
theorem fCmpA (a b : Fu.Ape) : callC c83 60 57 [.agg (encApe a), .agg (encApe b)] =
  .ite (eqApeB a b || (!(decide (a.Due < b.Due) || (a.Due == b.Due && decide (a.ID < b.ID))) && (a.Due == b.Due && a.ID == b.ID))) (.ret (.lit .i64 0, [])) (.ite (decide (a.Due < b.Due) || (a.Due == b.Due && decide (a.ID < b.ID))) (.ret (.lit .i64 (-1), [])) (.ret (.lit .i64 1, []))) := by kernel_rfl
def conCmpA : Con := plainCon (d2 dApe dApe) fun x => .int .i64 (cmpA x.1 x.2)
theorem conCmpA_valid : ValidCon c83.P 57 conCmpA := plainCon_valid c83_good 60 (by kernel_rfl) fun x => ⟨_, fCmpA x.1 x.2, by
  unfold cmpA
  refine ite_rez (fun h => .ret (.lit (by rw [h]; rfl)) rfl) fun h => ite_rez (fun h2 => .ret (.lit (by rw [h, h2]; rfl)) rfl) fun h2 => .ret (.lit (by rw [h, h2]; rfl)) rfl⟩
noncomputable def c84 : Cfg := c83.addQuiet 57 conCmpA
theorem c84_good : GoodCfg c84 := c83_good.addQuiet conCmpA_valid plainCon_quiet
def ifT {α : Type} : Tree α → Tree α
  | .ite _ t _ => t
  | t => t
def hS (xs : List Fu.Ape) : Heap := [(0, .rows .ape 49 xs)]
def TS2 (xs : List Fu.Ape) : St := ⟨puts (J 63) [(0, .own 0), (1, .int .i64 xs.length), (2, .fn (.func 57) [] []), (6, .lit .i64 20), (7, .lit .i64 0), (8, .lit .i64 20)], hS xs, 1⟩
def sS2 : List Sh := sets (Js 63) [(0, .keep), (1, .int), (2, .keep), (6, .keep), (7, .keep), (8, .keep)]
def eS2 : List Sh := sets (Js 63) [(0, .keep), (1, .int), (2, .keep), (6, .keep), (7, .keep)]
def ES2 (xs : List Fu.Ape) : Ex × St := (.exit 0, ⟨puts (J 63) [(0, .own 0), (1, .int .i64 xs.length), (2, .fn (.func 57) [] []), (6, .lit .i64 20), (7, .lit .i64 0)], hS xs, 1⟩)
theorem bS2 (xs : List Fu.Ape) : roundN c84 60 81 (loopAt c84.P 81 2) (norm2 1 [] [0] sS2) (norm2 1 [] [0] eS2) (TS2 xs) =
    .ite (decide (20 ≤ (xs.length : Int))) (ifT (roundN c84 60 81 (loopAt c84.P 81 2) (norm2 1 [] [0] sS2) (norm2 1 [] [0] eS2) (TS2 xs))) (.ret (ES2 xs)) := by kernel_rfl
def gS2 (σ : St) : Option (List Fu.Ape) := match σ.heap with
  | [(_, .rows .ape _ xs)] => some xs
  | _ => none
def LxS2 (xs : List Fu.Ape) : Tree (Ex × St) := .asrt ((xs.length : Int) < 20) (.ret (ES2 xs))
def LS2 : LoopCon := entry 1 (norm2 1 [] [0] sS2) TS2 gS2 LxS2
theorem lS2 (hs : SubOf c84.P 81 (.loop (loopAt c84.P 81 2))) : SoundLoop c84 (loopAt c84.P 81 2) LS2 := by
  refine loop_rule3 (C := c84) (g := 81) (l := 2) c84_good 60 1 _ _ (Weak.norm2 1 [] [0] sS2) (Weak.norm2 1 [] [0] eS2) hs TS2 LxS2 (fun _ => 0) (fun xs q h => ?_) entry_out
  obtain ⟨h0, h⟩ := Tree.out_asrt.1 h
  obtain ⟨t, e⟩ : ∃ t, roundN c84 60 81 (loopAt c84.P 81 2) (norm2 1 [] [0] sS2) (norm2 1 [] [0] eS2) (TS2 xs) = .ite (decide (20 ≤ (xs.length : Int))) t (.ret (ES2 xs)) := ⟨_, bS2 xs⟩
  refine .of_eq e (Tree.wp_ite.2 ⟨fun hb => ?_, fun _ => Rnd.out h⟩)
  have := of_decide_eq_true hb
  omega
noncomputable def c85 : Cfg := c84.addLoop 81 2 LS2
theorem c85_good : GoodCfg c85 := c84_good.addLoop (by unfold OneLoop; kernel_rfl) lS2
/-! ### insertion -/
def ltA (a b : Fu.Ape) : Bool := decide (cmpA a b < 0)
abbrev AIn := List Fu.Ape × Int × Int
def TIn (x : AIn × Int) : St := ⟨puts (J 53) [(0, .own 0), (1, .lit .i64 0), (2, .int .i64 x.1.2.1), (3, .fn (.func 57) [] []), (8, .int .i64 x.1.2.2), (9, .int .i64 x.2)], hS x.1.1, 1⟩
def sIn : List Sh := sets (Js 53) [(0, .keep), (1, .keep), (2, .int), (3, .keep), (8, .int), (9, .int)]
def eIn : List Sh := sets (Js 53) [(0, .keep), (1, .keep), (2, .int), (3, .keep), (8, .int)]
def EIn (x : AIn) : Ex × St := (.exit 2, ⟨puts (J 53) [(0, .own 0), (1, .lit .i64 0), (2, .int .i64 x.2.1), (3, .fn (.func 57) [] []), (8, .int .i64 x.2.2)], hS x.1, 1⟩)
def swpA (xs : List Fu.Ape) (a b : Int) : List Fu.Ape := upd .ape (upd .ape xs a (rd .ape xs b)) b (rd .ape xs a)
def inA (xs : List Fu.Ape) (i : Int) : Prop := 0 ≤ i ∧ i < (xs.length : Int)
theorem bIn (x : AIn) (j : Int) : roundN c85 60 103 (loopAt c85.P 103 4) (norm2 1 [] [0] sIn) (norm2 1 [] [0] eIn) (TIn (x, j)) =
    .ite (decide (j > 0)) (.asrt (inA x.1 j) (.asrt (inA x.1 j) (.asrt (inA x.1 (IntKind.i64.wrap (j - 1))) (.asrt (inA x.1 (IntKind.i64.wrap (j - 1))) (.ite (ltA (rd .ape x.1 j) (rd .ape x.1 (IntKind.i64.wrap (j - 1))))
      (.asrt (inA x.1 (IntKind.i64.wrap (j - 1))) (.asrt (inA x.1 (IntKind.i64.wrap (j - 1))) (.asrt (inA x.1 j) (.asrt (inA x.1 j) (.asrt (inA x.1 j) (.asrt (inA x.1 j)
        (.asrt (inA (upd .ape x.1 j (rd .ape x.1 (IntKind.i64.wrap (j - 1)))) (IntKind.i64.wrap (j - 1))) (.asrt (inA (upd .ape x.1 j (rd .ape x.1 (IntKind.i64.wrap (j - 1)))) (IntKind.i64.wrap (j - 1)))
          (.ret (.normal, TIn ((swpA x.1 j (IntKind.i64.wrap (j - 1)), x.2), IntKind.i64.wrap (j - 1))))))))))))
      (.ret (EIn x))))))) (.ret (EIn x)) := by kernel_rfl
def gIn (σ : St) : Option (AIn × Int) :=
  match nth σ.tmps 2, nth σ.tmps 8, nth σ.tmps 9, σ.heap with
  | .int .i64 n, .int .i64 i, .int .i64 j, [(_, .rows .ape _ xs)] => some ((xs, n, i), j)
  | _, _, _, _ => none
/-- One sinks down to its place. -/
def sinkA : Nat → List Fu.Ape → List Fu.Ape
  | 0, xs => xs
  | k + 1, xs => bif ltA (rd .ape xs ((k : Int) + 1)) (rd .ape xs k) then sinkA k (swpA xs ((k : Int) + 1) k) else xs
theorem swpA_len (xs : List Fu.Ape) (a b : Int) : (swpA xs a b).length = xs.length := by unfold swpA; rw [upd_len, upd_len]
theorem sinkA_len : ∀ (k : Nat) (xs : List Fu.Ape), (sinkA k xs).length = xs.length
  | 0, _ => rfl
  | k + 1, xs => by
    unfold sinkA
    cases ltA (rd .ape xs ((k : Int) + 1)) (rd .ape xs k) with
    | true => simp only [cond_true]; rw [sinkA_len k, swpA_len]
    | false => rfl
def LxIn (x : AIn × Int) : Tree (Ex × St) := .asrt (inA x.1.1 x.2 ∧ (x.1.1.length : Int) < 20) (.ret (EIn (sinkA x.2.toNat x.1.1, x.1.2)))
def LIn : LoopCon := entry 1 (norm2 1 [] [0] sIn) TIn gIn LxIn
theorem lIn (hs : SubOf c85.P 103 (.loop (loopAt c85.P 103 4))) : SoundLoop c85 (loopAt c85.P 103 4) LIn := by
  refine loop_rule3 (C := c85) (g := 103) (l := 4) c85_good 60 1 _ _ (Weak.norm2 1 [] [0] sIn) (Weak.norm2 1 [] [0] eIn) hs TIn LxIn (fun x => x.2.toNat) (fun x q h => ?_) entry_out
  obtain ⟨⟨xs, n, i⟩, j⟩ := x
  obtain ⟨⟨⟨h0, h1⟩, h2⟩, h⟩ := Tree.out_asrt.1 h
  simp only at h0 h1 h2 h
  refine .of_eq (bIn (xs, n, i) j) ?_
  simp only
  rw [wrap_fits (n := j - 1) (by omega) (by omega)]
  refine Tree.wp_ite.2 ⟨fun hj => ?_, fun hj => ?_⟩
  · have hj := of_decide_eq_true hj
    have a0 : inA xs j := ⟨h0, h1⟩
    have a1 : inA xs (j - 1) := ⟨by omega, by omega⟩
    have a2 : inA (upd .ape xs j (rd .ape xs (j - 1))) (j - 1) := ⟨by omega, by rw [upd_len]; omega⟩
    have e : sinkA j.toNat xs = bif ltA (rd .ape xs j) (rd .ape xs (j - 1)) then sinkA (j - 1).toNat (swpA xs j (j - 1)) else xs := by
      rw [show j.toNat = (j - 1).toNat + 1 by omega]
      show (bif ltA (rd .ape xs (((j - 1).toNat : Int) + 1)) (rd .ape xs ((j - 1).toNat : Int)) then sinkA (j - 1).toNat (swpA xs (((j - 1).toNat : Int) + 1) ((j - 1).toNat : Int)) else xs) = _
      rw [show ((j - 1).toNat : Int) = j - 1 by omega, show j - 1 + 1 = j by omega]
    rw [e] at h
    refine ⟨a0, a0, a1, a1, Tree.wp_ite.2 ⟨fun hb => ?_, fun hb => ?_⟩⟩
    · rw [hb] at h
      refine ⟨a1, a1, a0, a0, a0, a0, a2, a2, ?_⟩
      exact Rnd.go (m := fun x : AIn × Int => x.2.toNat) (x := ((xs, n, i), j)) ((swpA xs j (j - 1), n, i), j - 1) (by simp only; omega) (Tree.out_asrt.2 ⟨⟨⟨by simp only; omega, by simp only; rw [swpA_len]; omega⟩, by simp only; rw [swpA_len]; exact h2⟩, h⟩)
    · rw [hb] at h
      exact Rnd.out h
  · have hj := of_decide_eq_false hj
    rw [show j.toNat = 0 by omega] at h
    exact Rnd.out h
noncomputable def c86 : Cfg := c85.addLoop 103 4 LIn
theorem c86_good : GoodCfg c86 := c85_good.addLoop (by unfold OneLoop; kernel_rfl) lIn
def TOu (x : Int × List Fu.Ape × Int) : St := ⟨puts (J 53) [(0, .own 0), (1, .lit .i64 0), (2, .int .i64 x.1), (3, .fn (.func 57) [] []), (8, .int .i64 x.2.2)], hS x.2.1, 1⟩
def sOu : List Sh := sets (Js 53) [(0, .keep), (1, .keep), (2, .int), (3, .keep), (8, .int)]
def eOu : List Sh := sets (Js 53) [(0, .keep)]
def EOu (xs : List Fu.Ape) : Ex × St := (.exit 0, ⟨puts (J 53) [(0, .own 0)], hS xs, 1⟩)
theorem bOu (N : Int) (xs : List Fu.Ape) (i : Int) : roundN c86 60 103 (loopAt c86.P 103 1) (norm2 1 [] [0] sOu) (norm2 1 [] [0] eOu) (TOu (N, xs, i)) =
    .ite (decide (i < N)) (.asrt (1 = 1 ∧ TIn ((xs, N, i), i) = TIn ((xs, N, i), i)) (.asrt (inA xs i ∧ (xs.length : Int) < 20) (.ret (.normal, TOu (N, sinkA i.toNat xs, IntKind.i64.wrap (i + 1)))))) (.ret (EOu xs)) := by kernel_rfl
def gOu (σ : St) : Option (Int × List Fu.Ape × Int) :=
  match nth σ.tmps 2, nth σ.tmps 8, σ.heap with
  | .int .i64 n, .int .i64 i, [(_, .rows .ape _ xs)] => some (n, xs, i)
  | _, _, _ => none
def nxtOu (xs : List Fu.Ape) (i : Int) : List Fu.Ape := sinkA i.toNat xs
def okOu (xs : List Fu.Ape) (i : Int) : Prop := i < (xs.length : Int) ∧ (xs.length : Int) < 20
def LOu : LoopCon := countF 1 (norm2 1 [] [0] sOu) TOu gOu okOu nxtOu EOu
theorem lOu (hs : SubOf c86.P 103 (.loop (loopAt c86.P 103 1))) : SoundLoop c86 (loopAt c86.P 103 1) LOu :=
  count_fold (C := c86) (g := 103) (l := 1) c86_good 60 1 _ _ (Weak.norm2 1 [] [0] sOu) (Weak.norm2 1 [] [0] eOu) hs TOu gOu okOu nxtOu EOu (fun _ => by intro h; cases h)
    (fun N x i h0 hi hm hok => .of_eq (bOu N x i) (by
      unfold maxI64 at hm
      rw [wrap_fits (n := i + 1) (by omega) (by omega)]
      exact (Tree.out_ite_true (decide_eq_true hi)).2 ⟨⟨rfl, rfl⟩, ⟨⟨h0, hok.1⟩, hok.2⟩, rfl⟩))
    (fun N x i hi => .of_eq (bOu N x i) ((Tree.out_ite_false (decide_eq_false (by omega))).2 rfl))
noncomputable def c87 : Cfg := c86.addLoop 103 1 LOu
theorem c87_good : GoodCfg c87 := c86_good.addLoop (by unfold OneLoop; kernel_rfl) lOu
def TS7 (x : List Fu.Ape × Int) : St := ⟨puts (J 63) [(0, .own 0), (1, .int .i64 x.2), (2, .fn (.func 57) [] []), (6, .lit .i64 20), (7, .lit .i64 0)], hS x.1, 1⟩
def sS7 : List Sh := sets (Js 63) [(0, .keep), (1, .int), (2, .keep), (6, .keep), (7, .keep)]
def eS7 : List Sh := sets (Js 63) [(0, .keep)]
def ES7 (xs : List Fu.Ape) : Ex × St := (.exit 2, ⟨puts (J 63) [(0, .own 0)], hS xs, 1⟩)
theorem bS7 (x : List Fu.Ape × Int) : roundN c87 60 81 (loopAt c87.P 81 7) (norm2 1 [] [0] sS7) (norm2 1 [] [0] eS7) (TS7 x) =
    .ite (decide (20 < x.2)) (ifT (roundN c87 60 81 (loopAt c87.P 81 7) (norm2 1 [] [0] sS7) (norm2 1 [] [0] eS7) (TS7 x))) (.ret (ES7 x.1)) := by kernel_rfl
def gS7 (σ : St) : Option (List Fu.Ape × Int) := match nth σ.tmps 1, σ.heap with
  | .int .i64 n, [(_, .rows .ape _ xs)] => some (xs, n)
  | _, _ => none
def LxS7 (x : List Fu.Ape × Int) : Tree (Ex × St) := .asrt (x.2 < 20) (.ret (ES7 x.1))
def LS7 : LoopCon := entry 1 (norm2 1 [] [0] sS7) TS7 gS7 LxS7
theorem lS7 (hs : SubOf c87.P 81 (.loop (loopAt c87.P 81 7))) : SoundLoop c87 (loopAt c87.P 81 7) LS7 := by
  refine loop_rule3 (C := c87) (g := 81) (l := 7) c87_good 60 1 _ _ (Weak.norm2 1 [] [0] sS7) (Weak.norm2 1 [] [0] eS7) hs TS7 LxS7 (fun _ => 0) (fun x q h => ?_) entry_out
  obtain ⟨h0, h⟩ := Tree.out_asrt.1 h
  obtain ⟨t, e⟩ : ∃ t, roundN c87 60 81 (loopAt c87.P 81 7) (norm2 1 [] [0] sS7) (norm2 1 [] [0] eS7) (TS7 x) = .ite (decide (20 < x.2)) t (.ret (ES7 x.1)) := ⟨_, bS7 x⟩
  refine .of_eq e (Tree.wp_ite.2 ⟨fun hb => ?_, fun _ => Rnd.out h⟩)
  have := of_decide_eq_true hb
  omega
noncomputable def c88 : Cfg := c87.addLoop 81 7 LS7
theorem c88_good : GoodCfg c88 := c87_good.addLoop (by unfold OneLoop; kernel_rfl) lS7
/-- Jobs, in order. -/
def sortA (xs : List Fu.Ape) : List Fu.Ape := foldI nxtOu ((xs.length : Int) - 1).toNat xs 1
def sortT (xs : List Fu.Ape) : Tree (AV × List Blk) := .asrt (boundLA xs) (.asrt (1 = 1 ∧ TS2 xs = TS2 xs) (.asrt ((xs.length : Int) < 20) (.asrt (1 = 1 ∧ TOu ((xs.length : Int), xs, 1) = TOu ((xs.length : Int), xs, 1)) (.asrt (0 ≤ (1 : Int) ∧ (xs.length : Int) ≤ maxI64 ∧ okI nxtOu (fun _ _ => (none : Option Unit)) okOu ((xs.length : Int) - 1).toNat xs 1)
  (.asrt (1 = 1 ∧ TS7 (sortA xs, (xs.length : Int)) = TS7 (sortA xs, (xs.length : Int))) (.asrt ((xs.length : Int) < 20) (.ret (.own 0, [.rows .ape 49 (sortA xs)]))))))))
theorem fSortA (xs : List Fu.Ape) : callC c88 60 25 [.view .ape xs] = sortT xs := by kernel_rfl
theorem okOu_all : ∀ (k : Nat) (xs : List Fu.Ape) (i : Int), i + k ≤ xs.length → (xs.length : Int) < 20 → okI nxtOu (fun _ _ => (none : Option Unit)) okOu k xs i
  | 0, _, _, _, _ => trivial
  | k + 1, xs, i, h1, h2 => ⟨⟨by omega, h2⟩, fun _ => okOu_all k (sinkA i.toNat xs) (i + 1) (by rw [sinkA_len]; omega) (by rw [sinkA_len]; exact h2)⟩
def conSortA : Con := flatCon (d1 (dView .ape)) (fun xs => (xs.length : Int) < 20) fun xs => .view .ape (sortA xs)
theorem conSortA0_valid : ValidCon c88.P 25 (resCon (d1 (dView .ape)) (fun xs => (xs.length : Int) < 20) fun xs => (.own 0, [.rows .ape 49 (sortA xs)])) := resCon_valid c88_good 60 (by kernel_rfl) fun xs h => ⟨_, fSortA xs, by
  have hok : okI nxtOu (fun _ _ => (none : Option Unit)) okOu ((xs.length : Int) - 1).toNat xs 1 := by
    cases xs with
    | nil => exact trivial
    | cons y l => exact okOu_all _ _ _ (by simp only [List.length_cons]; omega) h
  exact .asrt (by unfold boundLA; omega) (.asrt ⟨rfl, rfl⟩ (.asrt h (.asrt ⟨rfl, rfl⟩ (.asrt ⟨by omega, by unfold maxI64; omega, hok⟩ (.asrt ⟨rfl, rfl⟩ (.asrt h (.ret (.refl _) rfl)))))))⟩
theorem conSortA_valid : ValidCon c88.P 25 conSortA := resCon_frozen conSortA0_valid fun _ => ⟨_, rfl, .refl _⟩
noncomputable def c89 : Cfg := c88.addQuiet 25 conSortA
theorem c89_good : GoodCfg c89 := c88_good.addQuiet conSortA_valid flatCon_quiet
end Go.Fx
