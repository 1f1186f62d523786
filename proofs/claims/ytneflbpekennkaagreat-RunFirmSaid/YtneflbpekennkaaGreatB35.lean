import Derived.Test.YtneflbpekennkaaGreatB34
/- Contracts: who of the jobs that came once runs. -/
namespace Go.Fx
open Go Go.Proofs

/-- Jobs, the time, who runs, who is there, and who is gone. -/
abbrev APk := List Fu.Ape × Int × Int × List (Int × Fu.Ape) × List Int
def hPk (x : APk) : Heap := [(0, .imap .ape x.2.2.2.1), (1, .cells [.map 0, .own 3, .int .i64 x.2.2.1]), (2, .cells [.ptr 1 0]), (3, .rows (.int .i64) 3 x.2.2.2.2)]
def TP1 (x : APk × Int) : St := ⟨puts (J 157) [(0, .view .ape x.1.1), (2, .int .i64 x.1.2.1), (8, .ptr 2 0), (9, .nils), (28, .view .ape x.1.1), (29, .int .i64 x.1.1.length), (30, .int .i64 x.2)], hPk x.1, 4⟩
def sP1 : List Sh := sets (Js 157) [(0, .keep), (2, .int), (8, .keep), (9, .keep), (28, .keep), (29, .int), (30, .int)]
def eP1 : List Sh := sets (Js 157) [(0, .keep), (2, .int), (8, .keep), (9, .keep)]
def fPk (ss : List Sh) (σ : St) : St := norm2 3 [.cell 1 1] [0, 1, 2, 3] ss (ownCell 1 1 (.int .i64) 3 σ)
theorem weak_fPk (ss : List Sh) (σ : St) : Weak 3 σ (fPk ss σ) := (Weak.ownCell 3 1 1 (.int .i64) 3 σ).trans (Weak.norm2 3 [.cell 1 1] [0, 1, 2, 3] ss _)
def EP1 (x : APk) : Ex × St := (.exit 0, ⟨puts (J 157) [(0, .view .ape x.1), (2, .int .i64 x.2.1), (8, .ptr 2 0), (9, .nils)], hPk x, 4⟩)
def nxtP1 (x : APk) (i : Int) : APk := bif decide (laxA (rd .ape x.1 i) x.2.1 < 0) then (x.1, x.2.1, x.2.2.1, mdel (mput x.2.2.2.1 (rd .ape x.1 i).ID (rd .ape x.1 i)) (rd .ape x.1 i).ID, x.2.2.2.2 ++ [(rd .ape x.1 i).ID]) else (x.1, x.2.1, x.2.2.1, mput x.2.2.2.1 (rd .ape x.1 i).ID (rd .ape x.1 i), x.2.2.2.2)
theorem bP1 (x : APk) (i : Int) : roundN c94 60 58 (loopAt c94.P 58 6) (fPk sP1) (fPk eP1) (TP1 (x, i)) =
    .ite (decide (i < x.1.length)) (.asrt (0 ≤ i ∧ i < x.1.length) (.ite (decide (laxA (rd .ape x.1 i) x.2.1 < 0)) (.asrt ((x.2.2.2.2 ++ [(rd .ape x.1 i).ID]).length * 8 ≤ 140737488355328)
      (.ret (.normal, TP1 ((x.1, x.2.1, x.2.2.1, mdel (mput x.2.2.2.1 (rd .ape x.1 i).ID (rd .ape x.1 i)) (rd .ape x.1 i).ID, x.2.2.2.2 ++ [(rd .ape x.1 i).ID]), IntKind.i64.wrap (i + 1)))))
      (.ret (.normal, TP1 ((x.1, x.2.1, x.2.2.1, mput x.2.2.2.1 (rd .ape x.1 i).ID (rd .ape x.1 i), x.2.2.2.2), IntKind.i64.wrap (i + 1)))))) (.ret (EP1 x)) := by kernel_rfl
def gP1 (σ : St) : Option (APk × Int) :=
  match nth σ.tmps 0, nth σ.tmps 2, nth σ.tmps 30, σ.heap with
  | .view .ape A, .int .i64 n, .int .i64 i, [(_, .imap .ape by'), (_, .cells [_, _, .int .i64 c]), _, (_, .rows (.int .i64) _ g)] => some ((A, n, c, by', g), i)
  | _, _, _, _ => none
def okP1 (x : APk) (_ : Int) : Prop := (x.2.2.2.2.length + 1) * 8 ≤ 140737488355328
def LP1 : LoopCon := boundF 3 (fPk sP1) TP1 gP1 (fun x => x.1.length) okP1 nxtP1 EP1
theorem lP1 (hs : SubOf c94.P 58 (.loop (loopAt c94.P 58 6))) : SoundLoop c94 (loopAt c94.P 58 6) LP1 :=
  bound_fold (C := c94) (g := 58) (l := 6) c94_good 60 3 _ _ (weak_fPk sP1) (weak_fPk eP1) hs TP1 gP1 (fun x => x.1.length) okP1 nxtP1 EP1
    (fun _ => by intro h; cases h) (fun x i => by unfold nxtP1; cases decide (laxA (rd .ape x.1 i) x.2.1 < 0) <;> rfl)
    (fun x i h0 hi hm hok => .of_eq (bP1 x i) (by
      unfold maxI64 at hm
      rw [wrap_fits (n := i + 1) (by omega) (by omega)]
      refine (Tree.out_ite_true (decide_eq_true hi)).2 ⟨⟨h0, hi⟩, ?_⟩
      unfold nxtP1
      cases h : decide (laxA (rd .ape x.1 i) x.2.1 < 0) with
      | true => exact (Tree.out_ite_true rfl).2 ⟨by rw [List.length_append]; exact hok, rfl⟩
      | false => exact (Tree.out_ite_false rfl).2 rfl))
    (fun x i hi => .of_eq (bP1 x i) ((Tree.out_ite_false (decide_eq_false (by omega))).2 rfl))
noncomputable def c95 : Cfg := c94.addLoop 58 6 LP1
theorem c95_good : GoodCfg c95 := c94_good.addLoop (by unfold OneLoop; kernel_rfl) lP1
/-- Behind the first pass: the time, who runs, who is there, and who is gone. -/
abbrev CPk := Int × Int × List (Int × Fu.Ape) × List Int
abbrev AP2 := List Fu.Ape × CPk × List Fu.Ape
def hP2 (c : CPk) (th : List Fu.Ape) : Heap := [(0, .imap .ape c.2.2.1), (1, .cells [.map 0, .own 3, .int .i64 c.2.1]), (2, .cells [.ptr 1 0]), (3, .rows (.int .i64) 3 c.2.2.2), (4, .rows .ape 49 th)]
def stillFn : AV := .fn (.func 84) [] [.ptr 2 0]
def TP2 (x : AP2 × Int) : St := ⟨puts (J 157) [(2, .int .i64 x.1.2.1.1), (8, .ptr 2 0), (9, .own 4), (12, stillFn), (52, .view .ape x.1.1), (53, .int .i64 x.1.1.length), (54, .int .i64 x.2)], hP2 x.1.2.1 x.1.2.2, 5⟩
def sP2 : List Sh := sets (Js 157) [(2, .int), (8, .keep), (9, .keep), (12, .keep), (52, .keep), (53, .int), (54, .int)]
def eP2 : List Sh := sets (Js 157) [(2, .int), (8, .keep), (9, .keep), (12, .keep)]
def fP2 (ss : List Sh) (σ : St) : St := norm2 4 [.tmp 9] [0, 1, 2, 3, 4] ss (ownSlot 9 .ape 49 σ)
theorem weak_fP2 (ss : List Sh) (σ : St) : Weak 4 σ (fP2 ss σ) := (Weak.ownSlot 4 9 .ape 49 σ).trans (Weak.norm2 4 [.tmp 9] [0, 1, 2, 3, 4] ss _)
def EP2 (x : AP2) : Ex × St := (.exit 2, ⟨puts (J 157) [(2, .int .i64 x.2.1.1), (8, .ptr 2 0), (9, .own 4), (12, stillFn)], hP2 x.2.1 x.2.2, 5⟩)
def stillA (by' : List (Int × Fu.Ape)) (a : Fu.Ape) : Bool := (mget by' a.ID).isSome && eqApeB a ((mget by' a.ID).getD ⟨0, 0, 0, 0, 0⟩)
def nxtP2 (x : AP2) (i : Int) : AP2 := (x.1, x.2.1, bif stillA x.2.1.2.2.1 (rd .ape x.1 i) then x.2.2 ++ [rd .ape x.1 i] else x.2.2)
theorem bP2 (x : AP2) (i : Int) : roundN c95 60 58 (loopAt c95.P 58 14) (fP2 sP2) (fP2 eP2) (TP2 (x, i)) =
    .ite (decide (i < x.1.length)) (.asrt (0 ≤ i ∧ i < x.1.length) (.ite (stillA x.2.1.2.2.1 (rd .ape x.1 i)) (.asrt ((x.2.2 ++ [rd .ape x.1 i]).length * 40 ≤ 140737488355328) (.ret (.normal, TP2 ((x.1, x.2.1, x.2.2 ++ [rd .ape x.1 i]), IntKind.i64.wrap (i + 1)))))
      (.ret (.normal, TP2 (x, IntKind.i64.wrap (i + 1)))))) (.ret (EP2 x)) := by kernel_rfl
def gP2 (σ : St) : Option (AP2 × Int) :=
  match nth σ.tmps 2, nth σ.tmps 52, nth σ.tmps 54, σ.heap with
  | .int .i64 n, .view .ape l, .int .i64 i, [(_, .imap .ape by'), (_, .cells [_, _, .int .i64 c]), _, (_, .rows (.int .i64) _ g), (_, .rows .ape _ th)] => some ((l, (n, c, by', g), th), i)
  | _, _, _, _ => none
def okP2 (x : AP2) (_ : Int) : Prop := (x.2.2.length + 1) * 40 ≤ 140737488355328
def LP2 : LoopCon := boundF 4 (fP2 sP2) TP2 gP2 (fun x => x.1.length) okP2 nxtP2 EP2
theorem lP2 (hs : SubOf c95.P 58 (.loop (loopAt c95.P 58 14))) : SoundLoop c95 (loopAt c95.P 58 14) LP2 :=
  bound_fold (C := c95) (g := 58) (l := 14) c95_good 60 4 _ _ (weak_fP2 sP2) (weak_fP2 eP2) hs TP2 gP2 (fun x => x.1.length) okP2 nxtP2 EP2
    (fun _ => by intro h; cases h) (fun _ _ => rfl)
    (fun x i h0 hi hm hok => .of_eq (bP2 x i) (by
      unfold maxI64 at hm
      rw [wrap_fits (n := i + 1) (by omega) (by omega)]
      refine (Tree.out_ite_true (decide_eq_true hi)).2 ⟨⟨h0, hi⟩, ?_⟩
      unfold nxtP2
      cases h : stillA x.2.1.2.2.1 (rd .ape x.1 i) with
      | true => exact (Tree.out_ite_true rfl).2 ⟨by rw [List.length_append]; exact hok, rfl⟩
      | false => exact (Tree.out_ite_false rfl).2 rfl))
    (fun x i hi => .of_eq (bP2 x i) ((Tree.out_ite_false (decide_eq_false (by omega))).2 rfl))
noncomputable def c96 : Cfg := c95.addLoop 58 14 LP2
theorem c96_good : GoodCfg c96 := c95_good.addLoop (by unfold OneLoop; kernel_rfl) lP2
abbrev AP3 := CPk × List Fu.Ape
def hP3 (x : AP3) : Heap := [(0, .imap .ape x.1.2.2.1), (1, .cells [.map 0, .own 5, .int .i64 x.1.2.1]), (2, .cells [.ptr 1 0]), (4, .rows .ape 49 x.2), (5, .rows (.int .i64) 3 x.1.2.2.2)]
def TP3 (x : AP3 × Int) : St := ⟨puts (J 157) [(2, .int .i64 x.1.1.1), (8, .ptr 2 0), (9, .own 4), (12, stillFn), (84, .own 4), (85, .int .i64 x.1.2.length), (86, .int .i64 x.2)], hP3 x.1, 6⟩
def sP3 : List Sh := sets (Js 157) [(2, .int), (8, .keep), (9, .keep), (12, .keep), (84, .keep), (85, .int), (86, .int)]
def eP3 : List Sh := sets (Js 157) [(8, .keep), (9, .keep), (12, .keep)]
def pickH : List Nat → Heap → Heap
  | [], _ => []
  | i :: l, h => match h.get i with
    | some x => (i, x) :: pickH l h
    | none => pickH l h
theorem pickH_get : ∀ (l : List Nat) (h : Heap) (b : Nat) (x : Blk), (pickH l h).get b = some x → h.get b = some x
  | [], _, _, _, hb => by cases hb
  | i :: l, h, b, x, hb => by
    unfold pickH at hb
    cases hg : h.get i with
    | none => rw [hg] at hb; exact pickH_get l h b x hb
    | some y =>
      rw [hg] at hb
      by_cases e : i = b
      · subst e
        rw [get_cons, if_pos rfl] at hb
        rw [hg]; exact hb
      · rw [get_cons, if_neg e] at hb
        exact pickH_get l h b x hb
/-- Blocks in an order. -/
def ordH (ids : List Nat) (σ : St) : St := { σ with heap := pickH ids σ.heap }
theorem Weak.ordH (n0 : Nat) (ids : List Nat) (σ : St) : Weak n0 σ (ordH ids σ) :=
  fun _ _ _ _ φ _ _ _ h1 h2 => ⟨φ, ⟨h1.tmps, ⟨h1.mem.heap.sub fun b x hb => pickH_get ids _ b x hb, h1.mem.inj, h1.mem.rng, h1.mem.below, h1.mem.sb⟩, h1.fresh, h1.defers⟩, h2⟩
def fP3 (ss : List Sh) (σ : St) : St := ordH [0, 1, 2, 4, 5] (norm2 5 [.cell 1 1] [0, 1, 2, 4, 5] ss σ)
theorem weak_fP3 (ss : List Sh) (σ : St) : Weak 5 σ (fP3 ss σ) := (Weak.norm2 5 [.cell 1 1] [0, 1, 2, 4, 5] ss σ).trans (Weak.ordH 5 [0, 1, 2, 4, 5] _)
def EP3 (x : AP3) : Ex × St := (.exit 4, ⟨puts (J 157) [(8, .ptr 2 0), (9, .own 4), (12, stillFn)], hP3 x, 6⟩)
/-- One goes, stays, or runs from now on. -/
def goA (c : CPk) (a : Fu.Ape) : CPk := bif a.ID == c.2.1 || decide (laxA a c.1 > 0) then c else bif !(mget c.2.2.1 c.2.1).isSome || beatsV a.V ((mget c.2.2.1 c.2.1).getD ⟨0, 0, 0, 0, 0⟩).V 4 then (c.1, a.ID, c.2.2.1, c.2.2.2) else (c.1, c.2.1, mdel c.2.2.1 a.ID, c.2.2.2 ++ [a.ID])
def nxtP3 (x : AP3) (i : Int) : AP3 := (goA x.1 (rd .ape x.2 i), x.2)
theorem bP3 (x : AP3) (i : Int) : roundN c96 60 58 (loopAt c96.P 58 24) (fP3 sP3) (fP3 eP3) (TP3 (x, i)) =
    .ite (decide (i < x.2.length)) (.asrt (0 ≤ i ∧ i < x.2.length) (.asrt (0 ≤ i ∧ i < x.2.length) (.ite ((rd .ape x.2 i).ID == x.1.2.1 || decide (laxA (rd .ape x.2 i) x.1.1 > 0)) (.ret (.normal, TP3 (x, IntKind.i64.wrap (i + 1))))
      (.ite (!(mget x.1.2.2.1 x.1.2.1).isSome || beatsV (rd .ape x.2 i).V ((mget x.1.2.2.1 x.1.2.1).getD ⟨0, 0, 0, 0, 0⟩).V 4) (.ret (.normal, TP3 (((x.1.1, (rd .ape x.2 i).ID, x.1.2.2.1, x.1.2.2.2), x.2), IntKind.i64.wrap (i + 1))))
        (.asrt ((x.1.2.2.2 ++ [(rd .ape x.2 i).ID]).length * 8 ≤ 140737488355328) (.ret (.normal, TP3 (((x.1.1, x.1.2.1, mdel x.1.2.2.1 (rd .ape x.2 i).ID, x.1.2.2.2 ++ [(rd .ape x.2 i).ID]), x.2), IntKind.i64.wrap (i + 1))))))))) (.ret (EP3 x)) := by kernel_rfl
def gP3 (σ : St) : Option (AP3 × Int) :=
  match nth σ.tmps 2, nth σ.tmps 86, σ.heap with
  | .int .i64 n, .int .i64 i, [(_, .imap .ape by'), (_, .cells [_, _, .int .i64 c]), _, (_, .rows .ape _ th), (_, .rows (.int .i64) _ g)] => some (((n, c, by', g), th), i)
  | _, _, _ => none
def okP3 (x : AP3) (_ : Int) : Prop := (x.1.2.2.2.length + 1) * 8 ≤ 140737488355328
def LP3 : LoopCon := boundF 5 (fP3 sP3) TP3 gP3 (fun x => x.2.length) okP3 nxtP3 EP3
theorem lP3 (hs : SubOf c96.P 58 (.loop (loopAt c96.P 58 24))) : SoundLoop c96 (loopAt c96.P 58 24) LP3 :=
  bound_fold (C := c96) (g := 58) (l := 24) c96_good 60 5 _ _ (weak_fP3 sP3) (weak_fP3 eP3) hs TP3 gP3 (fun x => x.2.length) okP3 nxtP3 EP3
    (fun _ => by intro h; cases h) (fun _ _ => rfl)
    (fun x i h0 hi hm hok => .of_eq (bP3 x i) (by
      unfold maxI64 at hm
      rw [wrap_fits (n := i + 1) (by omega) (by omega)]
      refine (Tree.out_ite_true (decide_eq_true hi)).2 ⟨⟨h0, hi⟩, ⟨h0, hi⟩, ?_⟩
      unfold nxtP3 goA
      cases h : ((rd .ape x.2 i).ID == x.1.2.1 || decide (laxA (rd .ape x.2 i) x.1.1 > 0)) with
      | true => exact (Tree.out_ite_true rfl).2 rfl
      | false =>
        refine (Tree.out_ite_false rfl).2 ?_
        cases h2 : (!(mget x.1.2.2.1 x.1.2.1).isSome || beatsV (rd .ape x.2 i).V ((mget x.1.2.2.1 x.1.2.1).getD ⟨0, 0, 0, 0, 0⟩).V 4) with
        | true => exact (Tree.out_ite_true rfl).2 rfl
        | false => exact (Tree.out_ite_false rfl).2 ⟨by rw [List.length_append]; exact hok, rfl⟩))
    (fun x i hi => .of_eq (bP3 x i) ((Tree.out_ite_false (decide_eq_false (by omega))).2 rfl))
noncomputable def c97 : Cfg := c96.addLoop 58 24 LP3
theorem c97_good : GoodCfg c97 := c96_good.addLoop (by unfold OneLoop; kernel_rfl) lP3
def TPx (x : AP3 × Int) : St := ⟨puts (J 19) [(0, .own 4), (1, stillFn), (7, .int .i64 x.1.2.length), (8, .int .i64 x.2)], hP3 x.1, 126⟩
def sPx : List Sh := sets (Js 19) [(0, .keep), (1, .keep), (7, .int), (8, .int)]
def ePx : List Sh := sets (Js 19) [(4, .int)]
def RPx (x : AP3 × Int) : Ex × St := (.ret, ⟨puts (J 19) [(4, .int .i64 x.2)], hP3 x.1, 126⟩)
def EPx (x : AP3) : Ex × St := (.exit 0, ⟨J 19, hP3 x, 126⟩)
theorem bPx (x : AP3) (i : Int) : roundN c97 60 60 (loopAt c97.P 60 2) (norm2 126 [] [0, 1, 2, 4, 5] sPx) (norm2 126 [] [0, 1, 2, 4, 5] ePx) (TPx (x, i)) =
    .ite (decide (i < x.2.length)) (.asrt (0 ≤ i ∧ i < x.2.length) (.asrt (0 ≤ i ∧ i < x.2.length) (.ite (stillA x.1.2.2.1 (rd .ape x.2 i)) (.ret (RPx (x, i))) (.ret (.normal, TPx (x, IntKind.i64.wrap (i + 1))))))) (.ret (EPx x)) := by kernel_rfl
/-- The place of the first one that is still there. -/
def firstS (by' : List (Int × Fu.Ape)) : List Fu.Ape → Int → Option Int
  | [], _ => none
  | a :: l, i => bif stillA by' a then some i else firstS by' l (i + 1)
def LxPx (x : AP3 × Int) : Tree (Ex × St) := .asrt (0 ≤ x.2 ∧ x.2 ≤ x.1.2.length ∧ (x.1.2.length : Int) < 20) (optT 0 (firstS x.1.1.2.2.1 (x.1.2.drop x.2.toNat) x.2) (fun j => .ret (RPx (x.1, j))) (.ret (EPx x.1)))
def gPx (σ : St) : Option (AP3 × Int) :=
  match nth σ.tmps 8, σ.heap with
  | .int .i64 i, [(_, .imap .ape by'), (_, .cells [_, _, .int .i64 c]), _, (_, .rows .ape _ th), (_, .rows (.int .i64) _ g)] => some (((0, c, by', g), th), i)
  | _, _ => none
def LPx : LoopCon := entry 126 (norm2 126 [] [0, 1, 2, 4, 5] sPx) TPx gPx LxPx
theorem lPx (hs : SubOf c97.P 60 (.loop (loopAt c97.P 60 2))) : SoundLoop c97 (loopAt c97.P 60 2) LPx := by
  refine loop_rule3 (C := c97) (g := 60) (l := 2) c97_good 60 126 _ _ (Weak.norm2 126 [] [0, 1, 2, 4, 5] sPx) (Weak.norm2 126 [] [0, 1, 2, 4, 5] ePx) hs TPx LxPx (fun x => (x.1.2.length - x.2).toNat) (fun x q h => ?_) entry_out
  obtain ⟨⟨c, th⟩, i⟩ := x
  obtain ⟨⟨h0, h1, h2⟩, h⟩ := Tree.out_asrt.1 h
  simp only at h0 h1 h2 h
  refine .of_eq (bPx (c, th) i) ?_
  simp only
  rw [wrap_fits (n := i + 1) (by omega) (by omega)]
  refine Tree.wp_ite.2 ⟨fun hi => ?_, fun hi => ?_⟩
  · have hi := of_decide_eq_true hi
    rw [drop_rd (r := .ape) (xs := th) h0 hi] at h
    unfold firstS at h
    refine ⟨⟨h0, hi⟩, ⟨h0, hi⟩, Tree.wp_ite.2 ⟨fun hb => ?_, fun hb => ?_⟩⟩
    · rw [hb] at h
      exact Rnd.ret (optT_out.1 h)
    · rw [hb] at h
      exact Rnd.go (m := fun x : AP3 × Int => (x.1.2.length - x.2).toNat) (x := ((c, th), i)) ((c, th), i + 1) (by simp only; omega) (Tree.out_asrt.2 ⟨⟨by simp only; omega, by simp only; omega, h2⟩, h⟩)
  · have hi := of_decide_eq_false hi
    rw [drop_end (xs := th) (by omega)] at h
    exact Rnd.out (optT_out.1 h)
noncomputable def c98 : Cfg := c97.addLoop 60 2 LPx
theorem c98_good : GoodCfg c98 := c97_good.addLoop (by unfold OneLoop; kernel_rfl) lPx
/-! ### who runs -/
def putA (c : CPk) (a : Fu.Ape) : CPk := bif decide (laxA a c.1 < 0) then (c.1, c.2.1, mdel (mput c.2.2.1 a.ID a) a.ID, c.2.2.2 ++ [a.ID]) else (c.1, c.2.1, mput c.2.2.1 a.ID a, c.2.2.2)
def pick1 (A : List Fu.Ape) (cur now : Int) : CPk := A.foldl putA (now, cur, [], [])
def thereA (A : List Fu.Ape) (cur now : Int) : List Fu.Ape := (sortA A).filter (stillA (pick1 A cur now).2.2.1)
def pick3 (A : List Fu.Ape) (cur now : Int) : CPk := (thereA A cur now).foldl goA (pick1 A cur now)
def pickA (A : List Fu.Ape) (cur now : Int) : Int × List Int :=
  bif !mayA A now then (-1, []) else bif ((thereA A cur now).length : Int) == 0 then (-1, (pick1 A cur now).2.2.2) else bif fitsA (thereA A cur now) now then ((rd .ape (thereA A cur now) 0).ID, (pick1 A cur now).2.2.2)
  else bif (mget (pick3 A cur now).2.2.1 (pick3 A cur now).2.1).isSome then ((pick3 A cur now).2.1, (pick3 A cur now).2.2.2)
  else (match firstS (pick3 A cur now).2.2.1 (thereA A cur now) 0 with | some j => (rd .ape (thereA A cur now) j).ID | none => -1, (pick3 A cur now).2.2.2)
def intsB (l : List Int) : List Blk := [.rows (.int .i64) 3 l]
def p1F (A : List Fu.Ape) (cur now : Int) : APk := foldI nxtP1 ((A.length : Int) - 0).toNat (A, now, cur, [], []) 0
def p2F (x : APk) : AP2 := foldI nxtP2 (((sortA x.1).length : Int) - 0).toNat (sortA x.1, x.2, []) 0
def p3F (x : AP2) : AP3 := foldI nxtP3 ((x.2.2.length : Int) - 0).toNat (x.2.1, x.2.2) 0
def pickT4 (x : AP3) : Tree (AV × List Blk) := .ite (mget x.1.2.2.1 x.1.2.1).isSome (.ret (.tup [.int .i64 x.1.2.1, .own 0], intsB x.1.2.2.2)) (.asrt (126 = 126 ∧ TPx (((0, x.1.2), x.2), 0) = TPx (((0, x.1.2), x.2), 0)) (.asrt (0 ≤ (0 : Int) ∧ (0 : Int) ≤ x.2.length ∧ (x.2.length : Int) < 20)
  (.ite (firstS x.1.2.2.1 (x.2.drop (0 : Int).toNat) 0).isSome (.ite (decide ((firstS x.1.2.2.1 (x.2.drop (0 : Int).toNat) 0).getD 0 < 0)) (.ret (.tup [.lit .i64 (-1), .own 0], intsB x.1.2.2.2))
    (.asrt (inA x.2 ((firstS x.1.2.2.1 (x.2.drop (0 : Int).toNat) 0).getD 0)) (.asrt (inA x.2 ((firstS x.1.2.2.1 (x.2.drop (0 : Int).toNat) 0).getD 0)) (.ret (.tup [.int .i64 (rd .ape x.2 ((firstS x.1.2.2.1 (x.2.drop (0 : Int).toNat) 0).getD 0)).ID, .own 0], intsB x.1.2.2.2)))))
    (.ret (.tup [.lit .i64 (-1), .own 0], intsB x.1.2.2.2)))))
def pickT3 (x : AP2) : Tree (AV × List Blk) := .ite ((x.2.2.length : Int) == 0) (.ret (.tup [.lit .i64 (-1), .own 0], intsB x.2.1.2.2.2)) (.asrt ((x.2.2.length : Int) < 20) (.ite (fitsA x.2.2 x.2.1.1) (.asrt (inA x.2.2 0) (.asrt (inA x.2.2 0) (.ret (.tup [.int .i64 (rd .ape x.2.2 0).ID, .own 0], intsB x.2.1.2.2.2))))
  (.asrt (5 = 5 ∧ TP3 ((x.2.1, x.2.2), 0) = TP3 ((x.2.1, x.2.2), 0)) (.asrt (0 ≤ (0 : Int) ∧ (x.2.2.length : Int) ≤ maxI64 ∧ okI nxtP3 (fun _ _ => (none : Option Unit)) okP3 ((x.2.2.length : Int) - 0).toNat (x.2.1, x.2.2) 0) (pickT4 (p3F x))))))
def pickT2 (x : APk) : Tree (AV × List Blk) := .asrt ((x.1.length : Int) < 20) (.asrt (4 = 4 ∧ TP2 ((sortA x.1, x.2, []), 0) = TP2 ((sortA x.1, x.2, []), 0)) (.asrt (0 ≤ (0 : Int) ∧ ((sortA x.1).length : Int) ≤ maxI64 ∧ okI nxtP2 (fun _ _ => (none : Option Unit)) okP2 (((sortA x.1).length : Int) - 0).toNat (sortA x.1, x.2, []) 0) (pickT3 (p2F x))))
def pickT (A : List Fu.Ape) (cur now : Int) : Tree (AV × List Blk) := .asrt ((A.length : Int) < 17592186044416) (.ite (!mayA A now) (.ret (.tup [.lit .i64 (-1), .nils], [])) (.asrt (3 = 3 ∧ TP1 ((A, now, cur, [], []), 0) = TP1 ((A, now, cur, [], []), 0))
  (.asrt (0 ≤ (0 : Int) ∧ (A.length : Int) ≤ maxI64 ∧ okI nxtP1 (fun _ _ => (none : Option Unit)) okP1 ((A.length : Int) - 0).toNat (A, now, cur, [], []) 0) (pickT2 (p1F A cur now)))))
theorem fPick (A : List Fu.Ape) (cur now : Int) : callC c98 60 58 [.view .ape A, .int .i64 cur, .int .i64 now] = pickT A cur now := by kernel_rfl
theorem putA_len (c : CPk) (a : Fu.Ape) : (putA c a).2.2.2.length ≤ c.2.2.2.length + 1 := by
  unfold putA
  cases decide (laxA a c.1 < 0) <;> simp
theorem goA_len (c : CPk) (a : Fu.Ape) : (goA c a).2.2.2.length ≤ c.2.2.2.length + 1 := by
  unfold goA
  cases (a.ID == c.2.1 || decide (laxA a c.1 > 0)) with
  | true => simp
  | false =>
    simp only [cond_false]
    cases (!(mget c.2.2.1 c.2.1).isSome || beatsV a.V ((mget c.2.2.1 c.2.1).getD ⟨0, 0, 0, 0, 0⟩).V 4) <;> simp
theorem foldP1 {A : List Fu.Ape} (k : Nat) : ∀ (c : CPk) (i : Int), 0 ≤ i → i + k = A.length → c.2.2.2.length + k ≤ 1000 →
    foldI nxtP1 k (A, c) i = (A, (A.drop i.toNat).foldl putA c) ∧ okI nxtP1 (fun _ _ => (none : Option Unit)) okP1 k (A, c) i := by
  induction k with
  | zero => intro c i h0 h1 h2; rw [drop_end (by omega)]; exact ⟨rfl, trivial⟩
  | succ k ih =>
    intro c i h0 h1 h2
    have hd := drop_rd (r := .ape) (xs := A) h0 (by omega)
    have e : nxtP1 (A, c) i = (A, putA c (rd .ape A i)) := by
      unfold nxtP1 putA
      simp only
      cases decide (laxA (rd .ape A i) c.1 < 0) <;> rfl
    have hl := putA_len c (rd .ape A i)
    obtain ⟨k1, k2⟩ := ih (putA c (rd .ape A i)) (i + 1) (by omega) (by omega) (by omega)
    refine ⟨?_, ⟨by show (c.2.2.2.length + 1) * 8 ≤ 140737488355328; omega, fun _ => by rw [e]; exact k2⟩⟩
    unfold foldI
    rw [e, hd, List.foldl_cons]
    exact k1
theorem foldP2 {l : List Fu.Ape} {c : CPk} (k : Nat) : ∀ (th : List Fu.Ape) (i : Int), 0 ≤ i → i + k = l.length → th.length + k ≤ 1000 →
    foldI nxtP2 k (l, c, th) i = (l, c, th ++ (l.drop i.toNat).filter (stillA c.2.2.1)) ∧ okI nxtP2 (fun _ _ => (none : Option Unit)) okP2 k (l, c, th) i := by
  induction k with
  | zero => intro th i h0 h1 h2; rw [drop_end (by omega)]; exact ⟨by simp [foldI], trivial⟩
  | succ k ih =>
    intro th i h0 h1 h2
    have hd := drop_rd (r := .ape) (xs := l) h0 (by omega)
    have e : nxtP2 (l, c, th) i = (l, c, bif stillA c.2.2.1 (rd .ape l i) then th ++ [rd .ape l i] else th) := rfl
    have hl : (bif stillA c.2.2.1 (rd .ape l i) then th ++ [rd .ape l i] else th).length ≤ th.length + 1 := by
      cases stillA c.2.2.1 (rd .ape l i) <;> simp
    obtain ⟨k1, k2⟩ := ih (bif stillA c.2.2.1 (rd .ape l i) then th ++ [rd .ape l i] else th) (i + 1) (by omega) (by omega) (by omega)
    refine ⟨?_, ⟨by show (th.length + 1) * 40 ≤ 140737488355328; omega, fun _ => by rw [e]; exact k2⟩⟩
    unfold foldI
    rw [e, hd, List.filter_cons]
    refine k1.trans ?_
    cases stillA c.2.2.1 (rd .ape l i) <;> simp
theorem foldP3 {th : List Fu.Ape} (k : Nat) : ∀ (c : CPk) (i : Int), 0 ≤ i → i + k = th.length → c.2.2.2.length + k ≤ 1000 →
    foldI nxtP3 k (c, th) i = ((th.drop i.toNat).foldl goA c, th) ∧ okI nxtP3 (fun _ _ => (none : Option Unit)) okP3 k (c, th) i := by
  induction k with
  | zero => intro c i h0 h1 h2; rw [drop_end (by omega)]; exact ⟨rfl, trivial⟩
  | succ k ih =>
    intro c i h0 h1 h2
    have hd := drop_rd (r := .ape) (xs := th) h0 (by omega)
    have e : nxtP3 (c, th) i = (goA c (rd .ape th i), th) := rfl
    have hl := goA_len c (rd .ape th i)
    obtain ⟨k1, k2⟩ := ih (goA c (rd .ape th i)) (i + 1) (by omega) (by omega) (by omega)
    refine ⟨?_, ⟨by show (c.2.2.2.length + 1) * 8 ≤ 140737488355328; omega, fun _ => by rw [e]; exact k2⟩⟩
    unfold foldI
    rw [e, hd, List.foldl_cons]
    exact k1
theorem foldl_len {f : CPk → Fu.Ape → CPk} (h : ∀ c a, (f c a).2.2.2.length ≤ c.2.2.2.length + 1) : ∀ (l : List Fu.Ape) (c : CPk), (l.foldl f c).2.2.2.length ≤ c.2.2.2.length + l.length
  | [], _ => by simp
  | a :: l, c => by
    have h1 := foldl_len h l (f c a)
    have h2 := h c a
    rw [List.foldl_cons, List.length_cons]
    omega
theorem firstS_spec (by' : List (Int × Fu.Ape)) : ∀ (l : List Fu.Ape) (i j : Int), firstS by' l i = some j → i ≤ j ∧ j < i + l.length ∧ stillA by' (rd .ape l (j - i)) = true
  | [], _, _, h => by cases h
  | a :: l, i, j, h => by
    unfold firstS at h
    rw [List.length_cons]
    cases hs : stillA by' a with
    | true =>
      rw [hs] at h
      have : i = j := by simpa using h
      subst this
      refine ⟨Int.le_refl _, by omega, ?_⟩
      rw [show i - i = 0 by omega]
      exact hs
    | false =>
      rw [hs] at h
      obtain ⟨h1, h2, h3⟩ := firstS_spec by' l (i + 1) j h
      refine ⟨by omega, by omega, ?_⟩
      have e : rd .ape (a :: l) (j - i) = rd .ape l (j - (i + 1)) := by
        unfold rd
        rw [show (j - i).toNat = (j - (i + 1)).toNat + 1 by omega]
        rfl
      rw [e]; exact h3
theorem mayA_len {A : List Fu.Ape} {now : Int} (h : mayA A now = true) : A.length ≤ 4 := by
  unfold mayA at h
  simp only [Bool.and_eq_true, decide_eq_true_eq] at h
  omega
def pickRes (p : Int × List Int) : AV × List Blk := (.tup [.int .i64 p.1, .own 0], intsB p.2)
theorem retP {t : AV} {a : Int} {g : List Int} (h : AsArg t (.int .i64 a)) : Rez (.ret (.tup [t, .own 0], intsB g)) (pickRes (a, g)) := .ret (.tup (.cons h (.cons (.refl _) .nil))) rfl
theorem pickT_rez {A : List Fu.Ape} {cur now : Int} (hl : (A.length : Int) < 17592186044416) : Rez (pickT A cur now) (bif mayA A now then pickRes (pickA A cur now) else (.tup [.int .i64 (-1), .nils], [])) := by
  unfold pickA
  refine .asrt hl ?_
  cases hm : mayA A now with
  | false => exact .itet rfl (.ret (.tup (.cons (.lit rfl) (.cons (.refl _) .nil))) rfl)
  | true =>
    have h4 := mayA_len hm
    obtain ⟨a1, a2⟩ := foldP1 (A := A) ((A.length : Int) - 0).toNat (now, cur, [], []) 0 (Int.le_refl _) (by omega) (by simp only [List.length_nil]; omega)
    rw [show (0 : Int).toNat = 0 from rfl, List.drop_zero] at a1
    have e1 : p1F A cur now = (A, pick1 A cur now) := a1
    have g1 := foldl_len putA_len A (now, cur, [], [])
    have hs := sortA_len A
    obtain ⟨b1, b2⟩ := foldP2 (l := sortA A) (c := pick1 A cur now) (((sortA A).length : Int) - 0).toNat [] 0 (Int.le_refl _) (by omega) (by simp only [List.length_nil]; omega)
    rw [show (0 : Int).toNat = 0 from rfl, List.drop_zero, List.nil_append] at b1
    have e2 : p2F (A, pick1 A cur now) = (sortA A, pick1 A cur now, thereA A cur now) := b1
    have ht : (thereA A cur now).length ≤ (sortA A).length := List.length_filter_le _ _
    have hg : (pick1 A cur now).2.2.2.length ≤ 4 := by
      have : (pick1 A cur now).2.2.2.length ≤ ([] : List Int).length + A.length := g1
      simp only [List.length_nil] at this
      omega
    refine .itee rfl (.asrt ⟨rfl, rfl⟩ (.asrt ⟨Int.le_refl _, by unfold maxI64; omega, a2⟩ ?_))
    rw [e1]
    refine .asrt (by show (A.length : Int) < 20; omega) (.asrt ⟨rfl, rfl⟩ (.asrt ⟨Int.le_refl _, by unfold maxI64; show ((sortA A).length : Int) ≤ _; omega, b2⟩ ?_))
    rw [e2]
    simp only [Bool.not_true, cond_false, cond_true]
    generalize hth : thereA A cur now = th at ht ⊢
    cases h0 : ((th.length : Int) == 0) with
    | true => exact .itet h0 (retP (.lit rfl))
    | false =>
      have hne : 0 < th.length := by
        have : (th.length : Int) ≠ 0 := by simpa using h0
        omega
      refine .itee h0 (.asrt (by show (th.length : Int) < 20; omega) ?_)
      have in0 : inA th 0 := ⟨Int.le_refl _, by omega⟩
      simp only [cond_false]
      have en : (pick1 A cur now).1 = now := by
        have : ∀ (l : List Fu.Ape) (c : CPk), (l.foldl putA c).1 = c.1 := by
          intro l
          induction l with
          | nil => intro c; rfl
          | cons a l ih =>
            intro c
            rw [List.foldl_cons, ih]
            unfold putA
            cases decide (laxA a c.1 < 0) <;> rfl
        exact this A _
      cases hf : fitsA th now with
      | true => exact .itet (by show fitsA th (pick1 A cur now).1 = true; rw [en]; exact hf) (.asrt in0 (.asrt in0 (retP (.refl _))))
      | false =>
        refine .itee (by show fitsA th (pick1 A cur now).1 = false; rw [en]; exact hf) ?_
        obtain ⟨c1, c2⟩ := foldP3 (th := th) ((th.length : Int) - 0).toNat (pick1 A cur now) 0 (Int.le_refl _) (by omega) (by omega)
        rw [show (0 : Int).toNat = 0 from rfl, List.drop_zero] at c1
        have e3 : p3F (sortA A, pick1 A cur now, th) = (pick3 A cur now, th) := by unfold pick3; rw [hth]; exact c1
        refine .asrt (by simp) (.asrt ⟨Int.le_refl _, by unfold maxI64; show (th.length : Int) ≤ _; omega, c2⟩ ?_)
        rw [e3]
        generalize pick3 A cur now = d
        simp only [cond_false]
        cases hi : (mget d.2.2.1 d.2.1).isSome with
        | true => exact .itet hi (retP (.refl _))
        | false =>
          refine .itee hi (.asrt ⟨rfl, rfl⟩ (.asrt ⟨Int.le_refl _, by simp only; omega, by simp only; omega⟩ ?_))
          simp only [cond_false]
          rw [show (0 : Int).toNat = 0 from rfl, List.drop_zero]
          cases hj : firstS d.2.2.1 th 0 with
          | none => exact .itee rfl (retP (.lit rfl))
          | some j =>
            obtain ⟨j1, j2, _⟩ := firstS_spec _ _ _ _ hj
            have inj : inA th j := ⟨j1, by omega⟩
            exact .itet rfl (.itee (decide_eq_false (by simp only [Option.getD_some]; omega)) (.asrt inj (.asrt inj (retP (.refl _)))))
def conPick0 : Con := resCon (d3 (dView .ape) dInt dInt) (fun x => (x.1.length : Int) < 17592186044416) fun x => bif mayA x.1 x.2.2 then pickRes (pickA x.1 x.2.1 x.2.2) else (.tup [.int .i64 (-1), .nils], [])
theorem conPick0_valid : ValidCon c98.P 58 conPick0 := resCon_valid c98_good 60 (by kernel_rfl) fun x h => ⟨_, fPick x.1 x.2.1 x.2.2, pickT_rez h⟩
def conPick : Con := resCon (d3 (dView .ape) dInt dInt) (fun x => (x.1.length : Int) < 17592186044416) fun x => pickRes (pickA x.1 x.2.1 x.2.2)
theorem conPick_valid : ValidCon c98.P 58 conPick := conPick0_valid.nilTail fun args r hr => by
  unfold conPick resCon at hr
  unfold conPick0 resCon
  split at hr
  · rename_i x hx
    obtain ⟨h1, h2⟩ := hr
    cases hm : mayA x.1 x.2.2 with
    | true => exact .inl ⟨_, .refl _, h1, by simp only [hm, cond_true]; exact h2⟩
    | false =>
      refine .inr ⟨.int .i64 (-1), [], .int .i64, 3, ?_, h1, ?_⟩
      · rw [← h2]
        have e : pickA x.1 x.2.1 x.2.2 = (-1, []) := by unfold pickA; rw [hm]; rfl
        show pickRes (pickA x.1 x.2.1 x.2.2) = _
        rw [e]
        rfl
      · simp only [hm, cond_false]; rfl
  · exact hr.elim
noncomputable def c99 : Cfg := c98.addCon 58 conPick
theorem c99_good : GoodCfg c99 := c98_good.addCon conPick_valid (by kernel_rfl)
end Go.Fx
