import Derived.Test.YtneflbpekennkaaGreatB40
/- Contracts: one time. -/
namespace Go.Fx
open Go Go.Proofs

/-! ### who is gone -/
def goneF (g : List Int) : AV := .fn (.func 31) [] [.pv [.view (.int .i64) g]]
abbrev AGo := List Fu.Ape × List Int
def TGo (x : AGo × Int) : St := ⟨puts (J 19) [(0, .view .ape x.1.1), (1, goneF x.1.2), (7, .int .i64 x.1.1.length), (8, .int .i64 x.2)], [], 0⟩
def sGo : List Sh := sets (Js 19) [(0, .keep), (1, .keep), (7, .int), (8, .int)]
def eGo : List Sh := sets (Js 19) [(4, .int)]
def RGo (x : AGo × Int) : Ex × St := (.ret, ⟨puts (J 19) [(4, .int .i64 x.2)], [], 0⟩)
def EGo (_ : AGo) : Ex × St := (.exit 0, ⟨J 19, [], 0⟩)
theorem bGo (x : AGo) (i : Int) : roundN c124 60 60 (loopAt c124.P 60 2) (norm2 0 [] [] sGo) (norm2 0 [] [] eGo) (TGo (x, i)) =
    .ite (decide (i < x.1.length)) (.asrt (0 ≤ i ∧ i < x.1.length) (.asrt ((x.2.length : Int) < 17592186044416) (.ite (hasI x.2 (rd .ape x.1 i).ID) (.ret (RGo (x, i))) (.ret (.normal, TGo (x, IntKind.i64.wrap (i + 1))))))) (.ret (EGo x)) := by kernel_rfl
def gGo (σ : St) : Option (AGo × Int) :=
  match nth σ.tmps 0, nth σ.tmps 1, nth σ.tmps 8 with
  | .view .ape A, .fn _ _ [.pv [.view (.int .i64) g]], .int .i64 i => some ((A, g), i)
  | _, _, _ => none
def pGo (x : AGo) (i : Int) : Bool := hasI x.2 (rd .ape x.1 i).ID
def okGo (x : AGo) : Prop := (x.2.length : Int) < 17592186044416
def LGo : LoopCon := searchF 0 (norm2 0 [] [] sGo) TGo gGo (fun x => x.1.length) okGo pGo RGo EGo
theorem lGo (hs : SubOf c124.P 60 (.loop (loopAt c124.P 60 2))) : SoundLoop c124 (loopAt c124.P 60 2) LGo :=
  search_loop (C := c124) (g := 60) (l := 2) c124_good 60 0 _ _ (Weak.norm2 0 [] [] sGo) (Weak.norm2 0 [] [] eGo) hs TGo gGo (fun x => x.1.length) okGo pGo RGo EGo (fun _ => by intro h; cases h) (fun _ => by intro h; cases h)
    (fun x i h0 hi hl ho => .of_eq (bGo x i) (by
      rw [wrap_fits (n := i + 1) (by omega) (by omega)]
      refine (Tree.out_ite_true (decide_eq_true hi)).2 ⟨⟨h0, hi⟩, ho, ?_⟩
      unfold pGo
      cases h : hasI x.2 (rd .ape x.1 i).ID with
      | true => exact (Tree.out_ite_true rfl).2 rfl
      | false => exact (Tree.out_ite_false rfl).2 rfl))
    (fun x i hi => .of_eq (bGo x i) ((Tree.out_ite_false (decide_eq_false (by omega))).2 rfl))
def LGp : LoopCon := orL (fnIs 1 31) LGo LAp
theorem lGp (hs : SubOf c124.P 60 (.loop (loopAt c124.P 60 2))) : SoundLoop c124 (loopAt c124.P 60 2) LGp :=
  orL_sound (lGo hs) (c124_good.loops 60 2 LAp (by kernel_rfl) _ hs (by kernel_rfl))
noncomputable def c125 : Cfg := c124.addLoop 60 2 LGp
theorem c125_good : GoodCfg c125 := c124_good.addLoop (by unfold OneLoop; kernel_rfl) lGp
/-- The place of the first one that is gone; -1, if none is. -/
def goneAt (A : List Fu.Ape) (g : List Int) : Int := (firstP (pGo (A, g)) A.length 0).getD (-1)
def decGone : AV → Option (List Int)
  | .fn (.func k) [] [.pv [v]] => if k = 31 then castView (.int .i64) v else none
  | _ => none
theorem AsArg.pvOne {a b : AV} (h : AsArg a b) : AsArg (.pv [a]) (.pv [b]) := ⟨fun hr => by
  cases hr with
  | pv hs hc hr _ =>
    obtain ⟨v, rfl, h1⟩ := hr.one_inv
    exact .pv hs hc (h.reps h1) .nil⟩
theorem AsArg.fn1 {f : Fn} {a b : AV} (h : AsArg a b) : AsArg (.fn f [] [a]) (.fn f [] [b]) := ⟨fun hr => by
  cases hr with
  | fn _ h1 h2 _ =>
    obtain ⟨v, rfl, h3⟩ := h2.one_inv
    exact .fn _ h1 (h.reps h3) .nil⟩
theorem AsArg.castView {r : RTy} {a : AV} {xs : List r.carrier} (h : castView r a = some xs) : AsArg a (.view r xs) := .view (by
  unfold AV.asView
  split
  · rename_i n cs; cases h
  · exact h)
def dGone : Dc (List Int) := ⟨decGone, goneF, fun v a h => by
  unfold decGone at h
  split at h
  · split at h
    · rename_i hk; subst hk; exact .fn1 (.pvOne (AsArg.castView h))
    · cases h
  · cases h⟩
def goT (A : List Fu.Ape) (g : List Int) : Tree (AV × List Blk) := .asrt (0 = 0 ∧ TGo ((A, g), 0) = TGo ((A, g), 0)) (.asrt ((0 ≤ (0 : Int) ∧ (A.length : Int) < 17592186044416) ∧ okGo (A, g)) (.ite (firstP (pGo (A, g)) ((A.length : Int) - 0).toNat 0).isSome (.ret (.int .i64 ((firstP (pGo (A, g)) ((A.length : Int) - 0).toNat 0).getD 0), [])) (.ret (.lit .i64 (-1), []))))
theorem fGo (A : List Fu.Ape) (g : List Int) : callC c125 60 60 [.view .ape A, goneF g] = goT A g := by kernel_rfl
def conGo : Con := flatCon (d2 (dView .ape) dGone) (fun x => (x.1.length : Int) < 17592186044416 ∧ okGo x) fun x => .int .i64 (goneAt x.1 x.2)
theorem conGo_valid : ValidCon c125.P 60 conGo := flatCon_valid c125_good 60 (by kernel_rfl) fun x h => ⟨_, fGo x.1 x.2, by
  refine .asrt ⟨rfl, rfl⟩ (.asrt ⟨⟨Int.le_refl _, h.1⟩, h.2⟩ ?_)
  unfold goneAt
  rw [show ((x.1.length : Int) - 0).toNat = x.1.length by omega]
  cases hf : firstP (pGo (x.1, x.2)) x.1.length 0 with
  | none => exact .itee rfl (.ret (.lit rfl) rfl)
  | some j => exact .itet rfl (.ret (.eq rfl) rfl)⟩
noncomputable def c126 : Cfg := c125.addQuiet 60 conGo
theorem c126_good : GoodCfg c126 := c125_good.addQuiet conGo_valid flatCon_quiet
/-- Jobs, who is gone, and the jobs' type. -/
abbrev XDl := List Fu.Ape × List Int × TypeId
def TTd (x : (XDl × Int) × Int) : St := ⟨puts (J 42) [(0, .own 0), (1, goneF x.1.1.2.1), (5, .int .i64 x.1.2), (6, .int .i64 x.2)], [(0, .rows .ape x.1.1.2.2 x.1.1.1)], 1⟩
def sTd : List Sh := sets (Js 42) [(0, .keep), (1, .keep), (5, .int), (6, .int)]
def eTd : List Sh := sets (Js 42) [(0, .keep), (5, .int)]
def ETd (x : XDl × Int) : Ex × St := (.exit 0, ⟨puts (J 42) [(0, .own 0), (5, .int .i64 x.2)], [(0, .rows .ape x.1.2.2 x.1.1)], 1⟩)
def setA (x : XDl) (A : List Fu.Ape) : XDl := (A, x.2)
/-- One stays, or not. -/
def nxtTd (x : XDl × Int) (j : Int) : XDl × Int := bif !hasI x.1.2.1 (rd .ape x.1.1 j).ID then (setA x.1 (upd .ape x.1.1 x.2 (rd .ape x.1.1 j)), IntKind.i64.wrap (x.2 + 1)) else x
theorem bTd (x : XDl) (i j : Int) : roundN c126 60 30 (loopAt c126.P 30 5) (norm2 1 [] [0] sTd) (norm2 1 [] [0] eTd) (TTd ((x, i), j)) =
    .ite (decide (j < x.1.length)) (.asrt (0 ≤ j ∧ j < x.1.length) (.asrt (0 ≤ j ∧ j < x.1.length) (.asrt ((x.2.1.length : Int) < 17592186044416) (.ite (!hasI x.2.1 (rd .ape x.1 j).ID)
      (.asrt (0 ≤ i ∧ i < x.1.length) (.asrt (0 ≤ i ∧ i < x.1.length) (.ret (.normal, TTd ((setA x (upd .ape x.1 i (rd .ape x.1 j)), IntKind.i64.wrap (i + 1)), IntKind.i64.wrap (j + 1))))))
      (.ret (.normal, TTd ((x, i), IntKind.i64.wrap (j + 1)))))))) (.ret (ETd (x, i))) := by kernel_rfl
def gTd (σ : St) : Option ((XDl × Int) × Int) :=
  match nth σ.tmps 1, nth σ.tmps 5, nth σ.tmps 6, σ.heap with
  | .fn _ _ [.pv [.view (.int .i64) g]], .int .i64 i, .int .i64 j, [(_, .rows .ape e A)] => some (((A, g, e), i), j)
  | _, _, _, _ => none
def okTd (x : XDl × Int) (_ : Int) : Prop := (0 ≤ x.2 ∧ x.2 < x.1.1.length) ∧ (x.1.2.1.length : Int) < 17592186044416
def LTd0 : LoopCon := boundF 1 (norm2 1 [] [0] sTd) TTd gTd (fun x => x.1.1.length) okTd nxtTd ETd
theorem lTd0 (hs : SubOf c126.P 30 (.loop (loopAt c126.P 30 5))) : SoundLoop c126 (loopAt c126.P 30 5) LTd0 :=
  bound_fold (C := c126) (g := 30) (l := 5) c126_good 60 1 _ _ (Weak.norm2 1 [] [0] sTd) (Weak.norm2 1 [] [0] eTd) hs TTd gTd (fun x => x.1.1.length) okTd nxtTd ETd
    (fun _ => by intro h; cases h) (fun x j => by
      unfold nxtTd
      cases (!hasI x.1.2.1 (rd .ape x.1.1 j).ID) with
      | true => simp [setA, upd]
      | false => rfl)
    (fun x j h0 hj hm hok => .of_eq (bTd x.1 x.2 j) (by
      unfold maxI64 at hm
      rw [wrap_fits (n := j + 1) (by omega) (by omega)]
      refine (Tree.out_ite_true (decide_eq_true hj)).2 ⟨⟨h0, hj⟩, ⟨h0, hj⟩, hok.2, ?_⟩
      unfold nxtTd
      cases h : (!hasI x.1.2.1 (rd .ape x.1.1 j).ID) with
      | true => exact (Tree.out_ite_true rfl).2 ⟨hok.1, hok.1, rfl⟩
      | false => exact (Tree.out_ite_false rfl).2 rfl))
    (fun x j hj => .of_eq (bTd x.1 x.2 j) ((Tree.out_ite_false (decide_eq_false (by omega))).2 rfl))
/-- Those that stay are moved to the front. -/
def nxtDl (g : List Int) (p : List Fu.Ape × Int) (j : Int) : List Fu.Ape × Int := bif !hasI g (rd .ape p.1 j).ID then (upd .ape p.1 p.2 (rd .ape p.1 j), p.2 + 1) else p
def delN (g : List Int) (p : List Fu.Ape × Int) (j : Int) : List Fu.Ape × Int := foldI (nxtDl g) ((p.1.length : Int) - j).toNat p j
def LTd : LoopCon := entry 1 (norm2 1 [] [0] sTd) TTd gTd fun p => .asrt ((0 ≤ p.1.2 ∧ p.1.2 < p.2 ∧ p.2 ≤ p.1.1.1.length) ∧ (p.1.1.1.length : Int) < 17592186044416 ∧ (p.1.1.2.1.length : Int) < 17592186044416)
  (.ret (ETd (setA p.1.1 (delN p.1.1.2.1 (p.1.1.1, p.1.2) p.2).1, (delN p.1.1.2.1 (p.1.1.1, p.1.2) p.2).2)))
theorem foldTd (k : Nat) : ∀ (x : XDl) (i j : Int), 0 ≤ i → i < j → j + k ≤ x.1.length → (x.1.length : Int) < 17592186044416 → (x.2.1.length : Int) < 17592186044416 →
    foldI nxtTd k (x, i) j = (setA x (foldI (nxtDl x.2.1) k (x.1, i) j).1, (foldI (nxtDl x.2.1) k (x.1, i) j).2) ∧ okI nxtTd (fun _ _ => (none : Option Unit)) okTd k (x, i) j := by
  induction k with
  | zero => intro x i j _ _ _ _ _; exact ⟨rfl, trivial⟩
  | succ k ih =>
    intro x i j h0 h1 h2 h3 h4
    have hok : okTd (x, i) j := ⟨⟨h0, by show i < (x.1.length : Int); omega⟩, h4⟩
    unfold foldI
    cases hb : (!hasI x.2.1 (rd .ape x.1 j).ID) with
    | true =>
      have e1 : nxtTd (x, i) j = (setA x (upd .ape x.1 i (rd .ape x.1 j)), i + 1) := by
        unfold nxtTd
        simp only [hb, cond_true]
        rw [wrap_fits (n := i + 1) (by omega) (by omega)]
      have e2 : nxtDl x.2.1 (x.1, i) j = (upd .ape x.1 i (rd .ape x.1 j), i + 1) := by
        unfold nxtDl
        simp only [hb, cond_true]
      have hl : (upd .ape x.1 i (rd .ape x.1 j)).length = x.1.length := by simp [upd]
      obtain ⟨k1, k2⟩ := ih (setA x (upd .ape x.1 i (rd .ape x.1 j))) (i + 1) (j + 1) (by omega) (by omega) (by show j + 1 + (k : Int) ≤ ((upd .ape x.1 i (rd .ape x.1 j)).length : Int); rw [hl]; omega) (by show ((upd .ape x.1 i (rd .ape x.1 j)).length : Int) < _; rw [hl]; exact h3) h4
      rw [e1, e2]
      exact ⟨k1, hok, fun _ => by rw [e1]; exact k2⟩
    | false =>
      have e1 : nxtTd (x, i) j = (x, i) := by unfold nxtTd; simp only [hb, cond_false]
      have e2 : nxtDl x.2.1 (x.1, i) j = (x.1, i) := by unfold nxtDl; simp only [hb, cond_false]
      obtain ⟨k1, k2⟩ := ih x i (j + 1) h0 (by omega) (by omega) h3 h4
      rw [e1, e2]
      exact ⟨k1, hok, fun _ => by rw [e1]; exact k2⟩
theorem lTd (hs : SubOf c126.P 30 (.loop (loopAt c126.P 30 5))) : SoundLoop c126 (loopAt c126.P 30 5) LTd := by
  intro w0 S φ σ a w Q R hx
  refine lTd0 hs w0 S φ σ a w Q R ?_
  obtain ⟨r, hr, hq⟩ := Tree.wp_out.1 hx
  refine Tree.wp_of_out ?_ hq
  unfold LTd entry at hr
  unfold LTd0 boundF entry
  split at hr
  · rename_i p hp
    obtain ⟨h1, ⟨⟨h2, h3, h4⟩, h5, h6⟩, h7⟩ := hr
    obtain ⟨⟨x, i⟩, j⟩ := p
    simp only at h2 h3 h4 h5 h6
    obtain ⟨k1, k2⟩ := foldTd ((x.1.length : Int) - j).toNat x i j h2 h3 (by omega) h5 h6
    simp only [hp]
    refine ⟨h1, ⟨by omega, by unfold maxI64; omega, k2⟩, ?_⟩
    rw [← h7]
    show ETd (foldI nxtTd ((x.1.length : Int) - j).toNat (x, i) j) = _
    rw [k1]
    rfl
  · exact hr.elim
noncomputable def c127 : Cfg := c126.addLoop 30 5 LTd
theorem c127_good : GoodCfg c127 := c126_good.addLoop (by unfold OneLoop; kernel_rfl) lTd
def zeroApe : Fu.Ape := ⟨0, 0, 0, 0, 0⟩
/-- The rows behind it all, those ahead, and so many zeros. -/
def delZ (D : List Fu.Ape) (n : Int) : List Fu.Ape := D.take (D.length - (D.length - n.toNat)) ++ List.replicate (D.length - n.toNat) zeroApe
def delE (D : List Fu.Ape) (n : Int) (e : TypeId) : Tree (AV × Heap × Nat) := .asrt (0 ≤ n ∧ n ≤ D.length ∧ 0 < D.length) (.asrt (n.toNat * RTy.ape.size = (D.length - (D.length - n.toNat)) * RTy.ape.size ∧ D.length - n.toNat ≤ D.length)
  (.asrt (0 ≤ n ∧ n ≤ (delZ D n).length ∧ 0 < (delZ D n).length) (.ret (.own 1, [(1, .rows .ape e ((delZ D n).take n.toNat))], 2))))
def delT (A : List Fu.Ape) (g : List Int) (e : TypeId) : Tree (AV × Heap × Nat) := .asrt ((A.length : Int) < 17592186044416 ∧ okGo (A, g)) (.ite (goneAt A g == -1) (.ret (.own 0, [(0, .rows .ape e A)], 1)) (.asrt (1 = 1 ∧ TTd (((A, g, e), goneAt A g), IntKind.i64.wrap (goneAt A g + 1)) = TTd (((A, g, e), goneAt A g), IntKind.i64.wrap (goneAt A g + 1)))
  (.asrt ((0 ≤ goneAt A g ∧ goneAt A g < IntKind.i64.wrap (goneAt A g + 1) ∧ IntKind.i64.wrap (goneAt A g + 1) ≤ A.length) ∧ (A.length : Int) < 17592186044416 ∧ (g.length : Int) < 17592186044416)
    (delE (delN g (A, goneAt A g) (IntKind.i64.wrap (goneAt A g + 1))).1 (delN g (A, goneAt A g) (IntKind.i64.wrap (goneAt A g + 1))).2 e))))
theorem fDelGo (A : List Fu.Ape) (g : List Int) (e : TypeId) : inlineX c127 (exec c127 60) 30 [.own 0, goneF g] [(0, .rows .ape e A)] 1 = delT A g e := by kernel_rfl
/-- Those that are not gone. -/
def dropA (g : List Int) (A : List Fu.Ape) : List Fu.Ape := A.filter fun a => !hasI g a.ID
theorem foldDl (g : List Int) (k : Nat) : ∀ (A : List Fu.Ape) (i j : Int), 0 ≤ i → i < j → j + k = A.length →
    (foldI (nxtDl g) k (A, i) j).1.length = A.length ∧ (i ≤ (foldI (nxtDl g) k (A, i) j).2 ∧ (foldI (nxtDl g) k (A, i) j).2 ≤ i + k) ∧ (foldI (nxtDl g) k (A, i) j).1.take (foldI (nxtDl g) k (A, i) j).2.toNat = A.take i.toNat ++ dropA g (A.drop j.toNat) := by
  induction k with
  | zero =>
    intro A i j h0 h1 h2
    rw [drop_end (by omega)]
    exact ⟨rfl, ⟨Int.le_refl _, by simp [foldI]⟩, by simp [foldI, dropA]⟩
  | succ k ih =>
    intro A i j h0 h1 h2
    have hd := drop_rd (r := .ape) (xs := A) (i := j) (by omega) (by omega)
    have hd' : dropA g (A.drop j.toNat) = bif !hasI g (rd .ape A j).ID then rd .ape A j :: dropA g (A.drop (j + 1).toNat) else dropA g (A.drop (j + 1).toNat) := by
      rw [hd]
      unfold dropA
      rw [List.filter_cons]
      cases hasI g (rd .ape A j).ID <;> rfl
    rw [hd']
    unfold foldI
    cases hb : (!hasI g (rd .ape A j).ID) with
    | true =>
      have e2 : nxtDl g (A, i) j = (upd .ape A i (rd .ape A j), i + 1) := by
        unfold nxtDl
        simp only [hb, cond_true]
      rw [e2]
      have hl : (upd .ape A i (rd .ape A j)).length = A.length := by simp [upd]
      obtain ⟨k1, k2, k3⟩ := ih (upd .ape A i (rd .ape A j)) (i + 1) (j + 1) (by omega) (by omega) (by rw [hl]; omega)
      refine ⟨k1.trans hl, ⟨by omega, by omega⟩, ?_⟩
      rw [k3]
      have hi : i.toNat < A.length := by omega
      have t1 : (upd .ape A i (rd .ape A j)).take (i + 1).toNat = A.take i.toNat ++ [rd .ape A j] := by
        unfold upd
        rw [show (i + 1).toNat = i.toNat + 1 by omega, List.take_add_one, List.take_set_of_le (Nat.le_refl _), List.getElem?_set_self hi]
        rfl
      have t2 : (upd .ape A i (rd .ape A j)).drop (j + 1).toNat = A.drop (j + 1).toNat := by
        unfold upd
        exact List.drop_set_of_lt (by omega)
      rw [t1, t2]
      simp
    | false =>
      have e2 : nxtDl g (A, i) j = (A, i) := by unfold nxtDl; simp only [hb, cond_false]
      rw [e2]
      obtain ⟨k1, k2, k3⟩ := ih A i (j + 1) h0 (by omega) (by omega)
      exact ⟨k1, ⟨by omega, by omega⟩, k3⟩
theorem goneAt_spec (A : List Fu.Ape) (g : List Int) : (goneAt A g = -1 ∧ dropA g A = A) ∨ ((0 ≤ goneAt A g ∧ goneAt A g < A.length) ∧ dropA g A = A.take (goneAt A g).toNat ++ dropA g (A.drop (goneAt A g + 1).toNat)) := by
  have all : ∀ n : Nat, n ≤ A.length → (∀ k : Int, 0 ≤ k → k < n → pGo (A, g) k = false) → dropA g (A.take n) = A.take n := by
    intro n hn h
    unfold dropA
    rw [List.filter_eq_self]
    intro a ha
    obtain ⟨m, hm, e⟩ := List.getElem_of_mem ha
    rw [List.length_take] at hm
    have h1 := h m (by omega) (by omega)
    have e1 : rd .ape A m = a := by
      rw [← e, List.getElem_take]
      have : m < A.length := by omega
      simp [rd, this]
    unfold pGo at h1
    simp only [e1] at h1
    rw [h1]
    rfl
  unfold goneAt
  cases hf : firstP (pGo (A, g)) A.length 0 with
  | none =>
    left
    refine ⟨rfl, ?_⟩
    have := all A.length (Nat.le_refl _) fun k h1 h2 => firstP_none hf k h1 (by omega)
    rwa [List.take_length] at this
  | some k =>
    right
    obtain ⟨⟨h1, h2⟩, h3, h4⟩ := firstP_some hf
    simp only [Option.getD_some]
    refine ⟨⟨h1, by omega⟩, ?_⟩
    have hk := all k.toNat (by omega) fun i h5 h6 => h4 i h5 (by omega)
    have hd := drop_rd (r := .ape) (xs := A) (i := k) h1 (by omega)
    have e : dropA g A = dropA g (A.take k.toNat) ++ dropA g (A.drop k.toNat) := by
      unfold dropA
      rw [← List.filter_append, List.take_append_drop]
    rw [e, hk, hd]
    congr 1
    unfold dropA
    rw [List.filter_cons]
    unfold pGo at h3
    simp only at h3
    rw [h3]
    rfl
def eatGo : TypeId → List AV → Tree Blk
  | e, [.view .ape A, f] => match decGone f with
    | some g => .asrt ((A.length : Int) < 17592186044416 ∧ (g.length : Int) < 17592186044416) (.ret (.rows .ape e (dropA g A)))
    | none => .fail
  | _, _ => .fail
theorem eatGo_out {r : RTy} {e : TypeId} {xs : List r.carrier} {rest : List AV} {blk : Blk} (h : (eatGo e (.view r xs :: rest)).Out blk) :
    ∃ A f g, r = .ape ∧ HEq xs A ∧ rest = [f] ∧ decGone f = some g ∧ ((A.length : Int) < 17592186044416 ∧ (g.length : Int) < 17592186044416) ∧ blk = Blk.rows .ape e (dropA g A) := by
  match r, rest with
  | .ape, [f] =>
    have h' : (match decGone f with | some g => Tree.asrt ((xs.length : Int) < 17592186044416 ∧ (g.length : Int) < 17592186044416) (Tree.ret (Blk.rows .ape e (dropA g xs))) | none => Tree.fail).Out blk := h
    cases hg : decGone f with
    | none => rw [hg] at h'; exact h'.elim
    | some g =>
      rw [hg] at h'
      exact ⟨xs, f, g, rfl, HEq.rfl, rfl, hg, h'.1, h'.2.symm⟩
  | .ape, [] => exact h.elim
  | .ape, _ :: _ :: _ => exact h.elim
  | .int _, _ => exact h.elim
  | .bool, _ => exact h.elim
  | .str, _ => exact h.elim
  | .ints _, _ => exact h.elim
  | .spec, _ => exact h.elim
  | .spr, _ => exact h.elim
  | .fix, _ => exact h.elim
  | .item, _ => exact h.elim
  | .live, _ => exact h.elim
  | .opt, _ => exact h.elim
  | .task, _ => exact h.elim
  | .aim, _ => exact h.elim
theorem eatGo_valid : ValidEat c127.P 30 eatGo := eat_of (C := c127) c127_good 60 (by kernel_rfl) fun r e xs' rest blk hout => by
  obtain ⟨A, f, g, rfl, e1, rfl, hg, ⟨h1, h2⟩, rfl⟩ := eatGo_out hout
  cases e1
  rcases goneAt_spec A g with ⟨k1, k2⟩ | ⟨⟨k0, k1⟩, k2⟩
  · have key : Gets (inlineX c127 (exec c127 60) 30 [.own 0, goneF g] [(0, .rows .ape e A)] 1) (.own 0, [(0, .rows .ape e A)], 1) := by
      refine .of_eq (fDelGo A g e) ⟨⟨h1, h2⟩, ?_⟩
      rw [k1]
      exact (Tree.out_ite_true rfl).2 rfl
    exact ⟨[goneF g], 0, _, _, .ape, e, A, .cons (dGone.ok _ _ hg) .nil, rfl, key, rfl, rfl, by rw [k2]⟩
  · have hw : IntKind.i64.wrap (goneAt A g + 1) = goneAt A g + 1 := wrap_fits (by omega) (by omega)
    obtain ⟨q1, q2, q3⟩ := foldDl g ((A.length : Int) - (goneAt A g + 1)).toNat A (goneAt A g) (goneAt A g + 1) k0 (by omega) (by omega)
    have eD : delN g (A, goneAt A g) (goneAt A g + 1) = foldI (nxtDl g) ((A.length : Int) - (goneAt A g + 1)).toNat (A, goneAt A g) (goneAt A g + 1) := rfl
    rw [← eD] at q1 q2 q3
    generalize delN g (A, goneAt A g) (goneAt A g + 1) = D at q1 q2 q3 eD
    obtain ⟨D, n⟩ := D
    simp only at q1 q2 q3
    have hz : (delZ D n).take n.toNat = D.take n.toNat := by
      unfold delZ
      rw [show D.length - (D.length - n.toNat) = n.toNat by omega, List.take_append_of_le_length (by rw [List.length_take]; omega), List.take_take, Nat.min_self]
    have hzl : (delZ D n).length = D.length := by
      unfold delZ
      rw [List.length_append, List.length_take, List.length_replicate]
      omega
    have key : Gets (inlineX c127 (exec c127 60) 30 [.own 0, goneF g] [(0, .rows .ape e A)] 1) (.own 1, [(1, .rows .ape e (dropA g A))], 2) := by
      refine .of_eq (fDelGo A g e) ?_
      unfold delT
      rw [hw]
      refine ⟨⟨h1, h2⟩, (Tree.out_ite_false (by rw [beq_eq_false_iff_ne]; omega)).2 ⟨⟨rfl, rfl⟩, ⟨⟨k0, by omega, by omega⟩, h1, h2⟩, ?_⟩⟩
      have eD' : delN g (A, goneAt A g) (goneAt A g + 1) = (D, n) := eD ▸ rfl
      rw [eD']
      show (delE D n e).Out _
      unfold delE
      refine ⟨⟨by omega, by omega, by omega⟩, ⟨by rw [show D.length - (D.length - n.toNat) = n.toNat by omega], by omega⟩, ⟨by omega, by rw [hzl]; omega, by rw [hzl]; omega⟩, ?_⟩
      rw [hz, q3, ← k2]
      rfl
    have hget : Heap.get [(1, Blk.rows .ape e (dropA g A))] 1 = some (.rows .ape e (dropA g A)) := rfl
    refine ⟨[goneF g], 1, [(1, .rows .ape e (dropA g A))], 2, .ape, e, dropA g A, .cons (dGone.ok _ _ hg) .nil, ?_, ?_, hget, ?_, ?_⟩
    · rfl
    · exact key
    · rfl
    · rfl
noncomputable def c128 : Cfg := c127.addEat 30 eatGo
theorem c128_good : GoodCfg c128 := c127_good.addEat eatGo_valid
end Go.Fx
