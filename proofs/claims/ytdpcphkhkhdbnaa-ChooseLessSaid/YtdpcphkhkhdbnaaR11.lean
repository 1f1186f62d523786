import Derived.Test.YtdpcphkhkhdbnaaR10
import Derived.Test.YtdpcphkhkhdbnaaPlT
/- The law ChooseLess. -/
namespace Go.Fx
open Go Go.Proofs

/-- A world, who runs, who is gone, and those that are not gone. -/
abbrev ALs := Fu.World × (Int × Int) × List Int × List Fu.Ape
def hLs (x : ALs) : Heap := [(0, .cells (encW x.1)), (1, .rows (.int .i64) 3 x.2.2.1), (2, .cells [.int .i64 x.2.1.1, .int .i64 x.2.1.2]), (3, .cells [.int .i64 x.1.Now, .view .task x.1.T, .own 4, .int .i64 x.1.Cur]), (4, .rows .ape 63 x.2.2.2)]
abbrev ALi := ALs × Int × Bool
def TLi (x : ALi × Int) : St := ⟨puts (J 81) [(1, .ptr 0 0), (4, .ptr 2 0), (5, .own 1), (6, .ptr 3 0), (7, .int .i64 x.1.2.1), (8, .bool x.1.2.2), (9, .int .i64 x.2)], hLs x.1.1, 5⟩
def sLi : List Sh := sets (Js 81) [(1, .keep), (4, .keep), (5, .keep), (6, .keep), (7, .int), (8, .bool), (9, .int)]
def eLi : List Sh := sets (Js 81) [(1, .keep), (4, .keep), (5, .keep), (6, .keep), (7, .int), (8, .bool)]
def ELi (x : ALi) : Ex × St := (.exit 2, ⟨puts (J 81) [(1, .ptr 0 0), (4, .ptr 2 0), (5, .own 1), (6, .ptr 3 0), (7, .int .i64 x.2.1), (8, .bool x.2.2)], hLs x.1, 5⟩)
def nxtLi (x : ALi) (k : Int) : ALi := (x.1, x.2.1, x.2.2 || rd (.int .i64) x.1.2.2.1 k == (rd .ape x.1.1.A x.2.1).ID)
theorem bLi (x : ALi) (k : Int) : roundN c136 60 10 (loopAt c136.P 10 12) (norm2 5 [] [0, 1, 2, 3, 4] sLi) (norm2 5 [] [0, 1, 2, 3, 4] eLi) (TLi (x, k)) =
    .ite (decide (k < (x.1.2.2.1.length : Int))) (.asrt (x.2.2 = false → 0 ≤ k ∧ k < (x.1.2.2.1.length : Int)) (.asrt (x.2.2 = false → 0 ≤ k ∧ k < (x.1.2.2.1.length : Int)) (.asrt (x.2.2 = false → 0 ≤ x.2.1 ∧ x.2.1 < x.1.1.A.length) (.ret (.normal, TLi (nxtLi x k, IntKind.i64.wrap (k + 1))))))) (.ret (ELi x)) := by kernel_rfl
def gLi (σ : St) : Option (ALi × Int) :=
  match nth σ.tmps 7, nth σ.tmps 8, nth σ.tmps 9, σ.heap with
  | .int .i64 i, .bool is, .int .i64 k, [(_, .cells [.int .i64 a, .view .task t, .view .ape q, .int .i64 c]), (_, .rows (.int .i64) _ g), (_, .cells [.int .i64 b, .int .i64 d]), _, (_, .rows .ape _ o)] => some (((⟨a, t, q, c⟩, (b, d), g, o), i, is), k)
  | _, _, _, _ => none
def okLi (x : ALi) (_ : Int) : Prop := 0 ≤ x.2.1 ∧ x.2.1 < x.1.1.A.length
def LLi : LoopCon := boundF 5 (norm2 5 [] [0, 1, 2, 3, 4] sLi) TLi gLi (fun x => (x.1.2.2.1.length : Int)) okLi nxtLi ELi
theorem lLi (hs : SubOf c136.P 10 (.loop (loopAt c136.P 10 12))) : SoundLoop c136 (loopAt c136.P 10 12) LLi :=
  bound_fold (C := c136) (g := 10) (l := 12) c136_good 60 5 _ _ (Weak.norm2 5 [] [0, 1, 2, 3, 4] sLi) (Weak.norm2 5 [] [0, 1, 2, 3, 4] eLi) hs TLi gLi (fun x => (x.1.2.2.1.length : Int)) okLi nxtLi ELi
    (fun _ => by intro h; cases h) (fun _ _ => rfl)
    (fun x k h0 hk hm hok => .of_eq (bLi x k) (by
      unfold maxI64 at hm
      rw [wrap_fits (n := k + 1) (by omega) (by omega)]
      exact (Tree.out_ite_true (decide_eq_true hk)).2 ⟨fun _ => ⟨h0, hk⟩, fun _ => ⟨h0, hk⟩, fun _ => hok, rfl⟩))
    (fun x k hk => .of_eq (bLi x k) ((Tree.out_ite_false (decide_eq_false (by omega))).2 rfl))
noncomputable def c137 : Cfg := c136.addLoop 10 12 LLi
theorem c137_good : GoodCfg c137 := c136_good.addLoop (by unfold OneLoop; kernel_rfl) lLi
def TLs (x : ALs × Int) : St := ⟨puts (J 81) [(1, .ptr 0 0), (4, .ptr 2 0), (5, .own 1), (6, .ptr 3 0), (7, .int .i64 x.2)], hLs x.1, 5⟩
def sLs : List Sh := sets (Js 81) [(1, .keep), (4, .keep), (5, .keep), (6, .keep), (7, .int)]
def eLs : List Sh := sets (Js 81) [(4, .keep), (6, .keep)]
def fLs (ss : List Sh) (σ : St) : St := norm2 4 [.cell 3 2] [0, 1, 2, 3, 4] ss (ownCell 3 2 .ape 63 σ)
theorem weak_fLs (ss : List Sh) (σ : St) : Weak 4 σ (fLs ss σ) := (Weak.ownCell 4 3 2 .ape 63 σ).trans (Weak.norm2 4 [.cell 3 2] [0, 1, 2, 3, 4] ss _)
def ELs (x : ALs) : Ex × St := (.exit 0, ⟨puts (J 81) [(4, .ptr 2 0), (6, .ptr 3 0)], hLs x, 5⟩)
def lsF (x : ALs) (i : Int) : ALi := foldI nxtLi ((x.2.2.1.length : Int) - 0).toNat (x, i, false) 0
def stepLs (y : ALi) : Tree (Ex × St) := .ite (!y.2.2) (.asrt (0 ≤ y.2.1 ∧ y.2.1 < y.1.1.A.length) (.asrt ((y.1.2.2.2 ++ [rd .ape y.1.1.A y.2.1]).length * 40 ≤ 140737488355328) (.ret (.normal, TLs ((y.1.1, y.1.2.1, y.1.2.2.1, y.1.2.2.2 ++ [rd .ape y.1.1.A y.2.1]), IntKind.i64.wrap (y.2.1 + 1))))))
  (.ret (.normal, TLs (y.1, IntKind.i64.wrap (y.2.1 + 1))))
theorem bLs (x : ALs) (i : Int) : roundN c137 60 10 (loopAt c137.P 10 8) (fLs sLs) (fLs eLs) (TLs (x, i)) =
    .ite (decide (i < x.1.A.length)) (.asrt (5 = 5 ∧ TLi ((x, i, false), 0) = TLi ((x, i, false), 0)) (.asrt (0 ≤ (0 : Int) ∧ (x.2.2.1.length : Int) ≤ maxI64 ∧ okI nxtLi (fun _ _ => (none : Option Unit)) okLi ((x.2.2.1.length : Int) - 0).toNat (x, i, false) 0) (stepLs (lsF x i)))) (.ret (ELs x)) := by kernel_rfl
def goneB (g : List Int) (a : Fu.Ape) : Bool := g.any fun k => k == a.ID
theorem foldLi {x : ALs} {i : Int} (hi : 0 ≤ i ∧ i < x.1.A.length) (k : Nat) : ∀ (b : Bool) (j : Int), 0 ≤ j → j + k = (x.2.2.1.length : Int) →
    foldI nxtLi k (x, i, b) j = (x, i, b || (x.2.2.1.drop j.toNat).any fun n => n == (rd .ape x.1.A i).ID) ∧ okI nxtLi (fun _ _ => (none : Option Unit)) okLi k (x, i, b) j := by
  induction k with
  | zero =>
    intro b j h0 h1
    have e : x.2.2.1.drop j.toNat = [] := by rw [List.drop_eq_nil_iff]; omega
    rw [e]
    exact ⟨by simp [foldI], trivial⟩
  | succ k ih =>
    intro b j h0 h1
    have hd : x.2.2.1.drop j.toNat = rd (.int .i64) x.2.2.1 j :: x.2.2.1.drop (j + 1).toNat := drop_rd (r := .int .i64) (xs := x.2.2.1) h0 (by show j < (x.2.2.1.length : Int); omega)
    obtain ⟨k1, k2⟩ := ih (b || rd (.int .i64) x.2.2.1 j == (rd .ape x.1.A i).ID) (j + 1) (by omega) (by omega)
    refine ⟨?_, ⟨hi, fun _ => k2⟩⟩
    unfold foldI
    rw [hd, List.any_cons, ← Bool.or_assoc]
    exact k1
theorem lsF_eq {x : ALs} {i : Int} (hi : 0 ≤ i ∧ i < x.1.A.length) : lsF x i = (x, i, goneB x.2.2.1 (rd .ape x.1.A i)) ∧ okI nxtLi (fun _ _ => (none : Option Unit)) okLi ((x.2.2.1.length : Int) - 0).toNat (x, i, false) 0 := by
  obtain ⟨k1, k2⟩ := foldLi hi ((x.2.2.1.length : Int) - 0).toNat false 0 (Int.le_refl _) (by omega)
  rw [show (0 : Int).toNat = 0 from rfl, List.drop_zero, Bool.false_or] at k1
  exact ⟨k1, k2⟩
def gLs (σ : St) : Option (ALs × Int) :=
  match nth σ.tmps 7, σ.heap with
  | .int .i64 i, [(_, .cells [.int .i64 a, .view .task t, .view .ape q, .int .i64 c]), (_, .rows (.int .i64) _ g), (_, .cells [.int .i64 b, .int .i64 d]), _, (_, .rows .ape _ o)] => some ((⟨a, t, q, c⟩, (b, d), g, o), i)
  | _, _ => none
def nxtLs (x : ALs) (i : Int) : ALs := (x.1, x.2.1, x.2.2.1, bif goneB x.2.2.1 (rd .ape x.1.A i) then x.2.2.2 else x.2.2.2 ++ [rd .ape x.1.A i])
def okLs (x : ALs) (_ : Int) : Prop := (x.2.2.1.length : Int) ≤ maxI64 ∧ (x.2.2.2.length + 1) * 40 ≤ 140737488355328
def LLs : LoopCon := boundF 4 (fLs sLs) TLs gLs (fun x => x.1.A.length) okLs nxtLs ELs
theorem lLs (hs : SubOf c137.P 10 (.loop (loopAt c137.P 10 8))) : SoundLoop c137 (loopAt c137.P 10 8) LLs :=
  bound_fold (C := c137) (g := 10) (l := 8) c137_good 60 4 _ _ (weak_fLs sLs) (weak_fLs eLs) hs TLs gLs (fun x => x.1.A.length) okLs nxtLs ELs
    (fun _ => by intro h; cases h) (fun _ _ => rfl)
    (fun x i h0 hi hm hok => .of_eq (bLs x i) (by
      obtain ⟨k1, k2⟩ := lsF_eq (x := x) ⟨h0, hi⟩
      rw [k1]
      unfold stepLs
      simp only
      unfold maxI64 at hm
      rw [wrap_fits (n := i + 1) (by omega) (by omega)]
      refine (Tree.out_ite_true (decide_eq_true hi)).2 ⟨by simp, ⟨Int.le_refl _, hok.1, k2⟩, ?_⟩
      unfold nxtLs
      cases h : goneB x.2.2.1 (rd .ape x.1.A i) with
      | true => exact (Tree.out_ite_false rfl).2 rfl
      | false => exact (Tree.out_ite_true rfl).2 ⟨⟨h0, hi⟩, by rw [List.length_append]; exact hok.2, rfl⟩))
    (fun x i hi => .of_eq (bLs x i) ((Tree.out_ite_false (decide_eq_false (by omega))).2 rfl))
noncomputable def c138 : Cfg := c137.addLoop 10 8 LLs
theorem c138_good : GoodCfg c138 := c137_good.addLoop (by unfold OneLoop; kernel_rfl) lLs
def lsAll (w : Fu.World) : ALs := foldI nxtLs ((w.A.length : Int) - 0).toNat (w, whoW w, (pickW w).2, []) 0
def lsE (x : ALs) : Tree (AV × List Blk) := .asrt (okWho { x.1 with A := x.2.2.2 }) (.ite (x.2.1.1 == 2) (.ret (.bool ((whoW { x.1 with A := x.2.2.2 }).1 == 2), [])) (.ret (.bool ((whoW { x.1 with A := x.2.2.2 }).1 == x.2.1.1 && (whoW { x.1 with A := x.2.2.2 }).2 == x.2.1.2), [])))
def lsT (w : Fu.World) : Tree (AV × List Blk) := .asrt (smallW w) (.ite (!mayW w) (.ret (.blit true, [])) (.asrt (okWho w) (.asrt (4 = 4 ∧ TLs ((w, whoW w, (pickW w).2, []), 0) = TLs ((w, whoW w, (pickW w).2, []), 0))
  (.asrt (0 ≤ (0 : Int) ∧ (w.A.length : Int) ≤ maxI64 ∧ okI nxtLs (fun _ _ => (none : Option Unit)) okLs ((w.A.length : Int) - 0).toNat (w, whoW w, (pickW w).2, []) 0) (lsE (lsAll w))))))
theorem fLs18 (w : Fu.World) : callC c138 60 10 [.agg (encW w)] = lsT w := by kernel_rfl
theorem foldLs {w : Fu.World} {p : Int × Int} {g : List Int} (hg : g.length ≤ 8) (k : Nat) : ∀ (o : List Fu.Ape) (i : Int), 0 ≤ i → i + k = w.A.length → o.length + k ≤ 100 →
    foldI nxtLs k (w, p, g, o) i = (w, p, g, o ++ (w.A.drop i.toNat).filter fun a => !goneB g a) ∧ okI nxtLs (fun _ _ => (none : Option Unit)) okLs k (w, p, g, o) i := by
  induction k with
  | zero => intro o i h0 h1 h2; rw [drop_end (xs := w.A) (by omega)]; exact ⟨by simp [foldI], trivial⟩
  | succ k ih =>
    intro o i h0 h1 h2
    have hd := drop_rd (r := .ape) (xs := w.A) h0 (by omega)
    have e : nxtLs (w, p, g, o) i = (w, p, g, bif goneB g (rd .ape w.A i) then o else o ++ [rd .ape w.A i]) := rfl
    have hl : (bif goneB g (rd .ape w.A i) then o else o ++ [rd .ape w.A i]).length ≤ o.length + 1 := by
      cases goneB g (rd .ape w.A i) <;> simp
    obtain ⟨k1, k2⟩ := ih (bif goneB g (rd .ape w.A i) then o else o ++ [rd .ape w.A i]) (i + 1) (by omega) (by omega) (by omega)
    refine ⟨?_, ⟨⟨by unfold maxI64; show (g.length : Int) ≤ _; omega, by show (o.length + 1) * 40 ≤ 140737488355328; omega⟩, fun _ => by rw [e]; exact k2⟩⟩
    unfold foldI
    rw [e]
    refine k1.trans ?_
    rw [hd, List.filter_cons]
    cases goneB g (rd .ape w.A i) <;> simp
/-- A world without those that are gone. -/
def lessA (w : Fu.World) : Fu.World := { w with A := w.A.filter fun a => !goneB (pickW w).2 a }
theorem once_less {w : Fu.World} (hm : mayA w.A w.Now = true) : (onceW (lessA w)).2 = (onceW w).2 := by
  obtain ⟨h1, h2, h3, h4, h5⟩ := mayA_iff.1 hm
  have hsub : List.Sublist (lessA w).A w.A := List.filter_sublist
  have hx : mayA (lessA w).A (lessA w).Now = true := mayA_iff.2 ⟨fun a ha => h1 a (hsub.subset ha), ids_sub hsub h2, by have := hsub.length_le; omega, h4, h5⟩
  show ((pickW (lessA w)).1 != -1) = ((pickW w).1 != -1)
  rcases pick_spec (cur := w.Cur) hm with ⟨k1, _, k3⟩ | ⟨a, ha, k1, k2, k3, k4⟩
  · have k1 : (pickW w).1 = -1 := k1
    rcases pick_spec (cur := (lessA w).Cur) hx with ⟨j1, _⟩ | ⟨b, hb, _, _, j3, _⟩
    · have j1 : (pickW (lessA w)).1 = -1 := j1
      rw [k1, j1]
    · exfalso
      have : lateA w.Now b = true := k3 b (hsub.subset hb)
      have j3 : lateA w.Now b = false := j3
      rw [this] at j3; cases j3
  · have k1 : (pickW w).1 = a.ID := k1
    have hin : a ∈ (lessA w).A := by
      refine List.mem_filter.2 ⟨ha, ?_⟩
      have : goneB (pickW w).2 a = false := by
        unfold goneB
        rw [List.any_eq_false]
        intro n hn e
        have e : n = a.ID := by simpa using e
        exact k2 (e ▸ hn)
      rw [this]; rfl
    rcases pick_spec (cur := (lessA w).Cur) hx with ⟨_, _, j3⟩ | ⟨b, _, j1, _, _, j4⟩
    · exfalso
      have : lateA w.Now a = true := j3 a hin
      rw [this] at k3; cases k3
    · have j1 : (pickW (lessA w)).1 = b.ID := j1
      have e1 : ((pickW (lessA w)).1 != -1) = true := by rw [j1]; simp; omega
      have e2 : ((pickW w).1 != -1) = true := by rw [k1]; simp; omega
      rw [e1, e2]
theorem lsT_tru {w : Fu.World} (h : smallW w) : Tru (lsT w) := by
  have hA := h.2
  refine .asrt h (.ite (fun _ => .yes) fun hm => ?_)
  have hm : mayW w = true := by simpa using hm
  have hma := (mayW_iff.1 hm).2.2.2.1
  have h4 := mayA_len hma
  have hok := okWho_may h (mayW_live hm)
  obtain ⟨k1, k2⟩ := foldLs (w := w) (p := whoW w) (pick_gone hma) ((w.A.length : Int) - 0).toNat [] 0 (Int.le_refl _) (by omega) (by simp only [List.length_nil]; omega)
  rw [show (0 : Int).toNat = 0 from rfl, List.drop_zero, List.nil_append] at k1
  have e : lsAll w = (w, whoW w, (pickW w).2, (lessA w).A) := k1
  have hl : (lessA w).A.length ≤ w.A.length := List.length_filter_le _ _
  have hokx : okWho (lessA w) := ⟨⟨h.1, by show ((lessA w).A.length : Int) * 40 ≤ _; omega⟩, hok.2⟩
  refine .asrt hok (.asrt ⟨rfl, rfl⟩ (.asrt ⟨Int.le_refl _, by unfold maxI64; omega, k2⟩ ?_))
  rw [e]
  have ho := once_less hma
  have e1 : mustW (lessA w) = mustW w := rfl
  have e2 : mayBand (lessA w) = mayBand w := rfl
  show Tru (.asrt (okWho (lessA w)) (.ite ((whoW w).1 == 2) (.ret (.bool ((whoW (lessA w)).1 == 2), [])) (.ret (.bool ((whoW (lessA w)).1 == (whoW w).1 && (whoW (lessA w)).2 == (whoW w).2), []))))
  refine .asrt hokx (.ite (fun hb => .of ?_) fun hb => .of ?_)
  · unfold whoW at hb ⊢
    rw [e1, ho]
    cases hmu : (mustW w).2 with
    | true => rw [hmu] at hb; cases hb
    | false =>
      rw [hmu] at hb
      cases hon : (onceW w).2 with
      | true => rfl
      | false => rw [hon] at hb; cases hmb : (mayBand w).2 <;> rw [hmb] at hb <;> cases hb
  · unfold whoW at hb ⊢
    rw [e1, e2, ho]
    cases hmu : (mustW w).2 with
    | true => simp
    | false =>
      rw [hmu] at hb
      cases hon : (onceW w).2 with
      | true => rw [hon] at hb; cases hb
      | false => cases (mayBand w).2 <;> simp
theorem conLs_valid : ValidCon c138.P 10 (lawCon good1W) := lawCon_of (n := 60) c138_good (by kernel_rfl) fun args ⟨w, h1, h2⟩ => by
  subst h1
  exact ⟨_, fLs18 w, lsT_tru h2⟩
end Go.Fx
