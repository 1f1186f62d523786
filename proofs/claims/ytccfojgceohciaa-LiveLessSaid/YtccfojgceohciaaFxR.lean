/- Ways that are joined. -/
import Derived.Test.YtccfojgceohciaaFxQ
namespace Go.Fx
open Go Go.RowKit

/-! ### leaves -/
def Tree.Leaf {α : Type} : Tree α → α → Prop
  | .ret a, x => a = x
  | .fail, _ => False
  | .ite _ t e, x => t.Leaf x ∨ e.Leaf x
  | .asrt _ t, x => t.Leaf x
theorem Tree.leaf_of_out {α : Type} {t : Tree α} {x : α} (h : t.Out x) : t.Leaf x := by
  induction t with
  | ret a => exact h
  | fail => exact h
  | ite c t e iht ihe =>
    cases c with
    | true => exact .inl (iht (by simpa [Tree.Out] using h))
    | false => exact .inr (ihe (by simpa [Tree.Out] using h))
  | asrt p t ih => exact ih h.2
theorem Tree.leaf_bind {α β : Type} {t : Tree α} {f : α → Tree β} {x : β} : (t.bind f).Leaf x ↔ ∃ a, t.Leaf a ∧ (f a).Leaf x := by
  induction t with
  | ret a => exact ⟨fun h => ⟨a, rfl, h⟩, fun ⟨b, hb, h⟩ => by cases hb; exact h⟩
  | fail => exact ⟨fun h => h.elim, fun ⟨_, h, _⟩ => h.elim⟩
  | ite c t e iht ihe =>
    simp only [Tree.bind, Tree.Leaf, iht, ihe]
    exact ⟨fun h => h.elim (fun ⟨a, h1, h2⟩ => ⟨a, .inl h1, h2⟩) (fun ⟨a, h1, h2⟩ => ⟨a, .inr h1, h2⟩), fun ⟨a, h1, h2⟩ => h1.imp (fun h => ⟨a, h, h2⟩) (fun h => ⟨a, h, h2⟩)⟩
  | asrt p t ih => exact ih

/-! ### two values in one -/
section
variable {w : World} {S : Nat → Prop} {φ : Env}

theorem joinAny_reps (c : Bool) {x y : AV} {v : Value} (h : Reps w S φ [bif c then x else y] [v]) : Reps w S φ [joinAny c x y] [v] := by
  unfold joinAny joinAV
  split <;> try exact .any _ .nil
  · rename_i a b
    cases a <;> cases b <;> cases c <;> simp only [cond_true, cond_false] at h <;> cases h <;> first | exact .blit _ .nil | exact .bool _ .nil
  · split
    · rename_i hk
      subst hk
      split
      · rename_i hxy
        subst hxy
        cases c <;> exact h
      · cases c <;> simp only [cond_true, cond_false] at h <;> cases h <;> exact .int _ _ .nil
    · exact .any _ .nil
  · split
    · rename_i hk
      subst hk
      cases c <;> simp only [cond_true, cond_false] at h <;> cases h <;> exact .int _ _ .nil
    · exact .any _ .nil
  · split
    · rename_i hk
      subst hk
      cases c <;> simp only [cond_true, cond_false] at h <;> cases h <;> exact .int _ _ .nil
    · exact .any _ .nil
  · split
    · rename_i hk
      subst hk
      cases c <;> simp only [cond_true, cond_false] at h <;> cases h <;> exact .int _ _ .nil
    · exact .any _ .nil
  · cases c <;> simp only [cond_true, cond_false] at h <;> cases h <;> exact .bool _ .nil
  · rename_i a; cases c <;> cases a <;> simp only [cond_true, cond_false] at h <;> cases h <;> exact .bool _ .nil
  · rename_i a; cases c <;> cases a <;> simp only [cond_true, cond_false] at h <;> cases h <;> exact .bool _ .nil
  · rename_i a; cases c <;> cases a <;> simp only [cond_true, cond_false] at h <;> cases h <;> exact .bool _ .nil
  · rename_i a; cases c <;> cases a <;> simp only [cond_true, cond_false] at h <;> cases h <;> exact .bool _ .nil
  · cases c <;> exact h

theorem zipJoin_reps (c : Bool) : ∀ {xs ys : List AV} {vs : List Value}, xs.length = ys.length → Reps w S φ (bif c then xs else ys) vs → Reps w S φ (List.zipWith (joinAny c) xs ys) vs
  | [], [], vs, _, h => by cases c <;> exact h
  | x :: xs, y :: ys, vs, hl, h => by
    have h' : Reps w S φ ((bif c then x else y) :: (bif c then xs else ys)) vs := by cases c <;> exact h
    obtain ⟨v, vs, rfl, h1, h2⟩ := h'.uncons
    exact Reps.cons (joinAny_reps c h1) (zipJoin_reps c (by simpa using hl) h2)

/-- The conditions of all ways, and what stands for each one. -/
theorem collapse_spec {ts0 : List AV} : ∀ {t : Tree (List AV)}, (∀ l, t.Leaf l → l.length = ts0.length) → (collapse ts0 t).2.length = ts0.length ∧
    ((∀ p ∈ (collapse ts0 t).1, p) → ∃ l, t.Out l ∧ ∀ {w : World} {S : Nat → Prop} {φ : Env} {vs : List Value}, Reps w S φ l vs → Reps w S φ (collapse ts0 t).2 vs)
  | .ret l, h => ⟨h l rfl, fun _ => ⟨l, rfl, fun h => h⟩⟩
  | .fail, _ => ⟨rfl, fun h => (h False (by simp [collapse])).elim⟩
  | .asrt p t, h => by
    obtain ⟨h1, h2⟩ := collapse_spec (ts0 := ts0) (t := t) h
    refine ⟨h1, fun hp => ?_⟩
    obtain ⟨l, h3, h4⟩ := h2 fun q hq => hp q (by simp [collapse, hq])
    exact ⟨l, ⟨hp p (by simp [collapse]), h3⟩, h4⟩
  | .ite c t e, h => by
    obtain ⟨h1, h2⟩ := collapse_spec (ts0 := ts0) (t := t) fun l hl => h l (.inl hl)
    obtain ⟨h3, h4⟩ := collapse_spec (ts0 := ts0) (t := e) fun l hl => h l (.inr hl)
    refine ⟨by simp [collapse, h1, h3], fun hp => ?_⟩
    cases c with
    | true =>
      obtain ⟨l, h5, h6⟩ := h2 fun q hq => hp (true = true → q) (by simp only [collapse, List.mem_append, List.mem_map]; exact .inl ⟨q, hq, rfl⟩) rfl
      exact ⟨l, by simpa [Tree.Out] using h5, fun hr => zipJoin_reps true (by rw [h1, h3]) (h6 hr)⟩
    | false =>
      obtain ⟨l, h5, h6⟩ := h4 fun q hq => hp (false = false → q) (by simp only [collapse, List.mem_append, List.mem_map]; exact .inr ⟨q, hq, rfl⟩) rfl
      exact ⟨l, by simpa [Tree.Out] using h5, fun hr => zipJoin_reps false (by rw [h1, h3]) (h6 hr)⟩

theorem asrts_wp {α : Type} {Q : α → Prop} : ∀ {ps : List Prop} {t : Tree α}, (asrts ps t).wp Q → (∀ p ∈ ps, p) ∧ t.wp Q
  | [], _, h => ⟨by simp, h⟩
  | p :: ps, t, h => by
    obtain ⟨h1, h2⟩ := asrts_wp h.2
    exact ⟨fun q hq => by rcases List.mem_cons.1 hq with rfl | hq; exact h.1; exact h1 q hq, h2⟩
theorem asrts_leaf {α : Type} {x : α} : ∀ {ps : List Prop} {t : Tree α}, (asrts ps t).Leaf x ↔ t.Leaf x
  | [], _ => Iff.rfl
  | _ :: ps, t => asrts_leaf (ps := ps) (t := t)

/-- The slots that are written come from the one list, the others from the other. -/
theorem mergeT_reps (ds : List Nat) : ∀ (i : Nat) {xs ys zs : List AV} {vs : List Value}, xs.length = ys.length → zs.length = xs.length → Reps w S φ ys vs → Reps w S φ zs vs → (∀ j, memNat (i + j) ds = false → zs[j]? = xs[j]?) → Reps w S φ (mergeT ds i xs ys) vs
  | _, [], [], zs, vs, _, _, h, _, _ => h
  | i, x :: xs, y :: ys, [], vs, _, hl, _, _, _ => by simp at hl
  | i, x :: xs, y :: ys, z :: zs, vs, hl, hl', h, hz, hn => by
    obtain ⟨v, vs, rfl, h1, h2⟩ := h.uncons
    obtain ⟨v', vs', e, h3, h4⟩ := hz.uncons
    cases e
    have ih := mergeT_reps ds (i + 1) (xs := xs) (ys := ys) (zs := zs) (by simpa using hl) (by simpa using hl') h2 h4 (fun j hj => by
      have := hn (j + 1) (by rw [show i + (j + 1) = i + 1 + j by omega]; exact hj)
      simpa using this)
    unfold mergeT
    cases hm : memNat i ds with
    | true => exact Reps.cons h1 ih
    | false =>
      have := hn 0 (by simpa using hm)
      simp at this
      subst this
      exact Reps.cons h3 ih
theorem mergeT_spec (ds : List Nat) : ∀ (i : Nat) (xs ys : List AV), xs.length = ys.length → (mergeT ds i xs ys).length = xs.length ∧ ∀ j, memNat (i + j) ds = false → (mergeT ds i xs ys)[j]? = xs[j]?
  | _, [], [], _ => ⟨rfl, fun _ _ => rfl⟩
  | i, x :: xs, y :: ys, hl => by
    obtain ⟨h1, h2⟩ := mergeT_spec ds (i + 1) xs ys (by simpa using hl)
    refine ⟨by simp [mergeT, h1], fun j hj => ?_⟩
    unfold mergeT
    cases j with
    | zero => simp at hj; simp [hj]
    | succ j => simpa using h2 j (by rw [show i + 1 + j = i + (j + 1) by omega]; exact hj)

end

/-! ### code that changes slots alone -/
structure QuietOK (C : Cfg) : Prop where
  quiet : ∀ f, memNat f C.quiet = true → (findPcon C.pcon f).isSome = true ∨ ∃ con, findCon C.con f = some con ∧ ∀ args r, (con args).Leaf r → r.2 = []

section
variable {C : Cfg}

theorem neutral_op (QK : QuietOK C) {o : Oper} (h : neutralOp C o = true) (base : Nat) {ρ : Operand → AV} (hρ : ∀ f, ρ (.func f) = .fn (.func f) [] []) (look : Nat → Option Blk) :
    effOp C o ρ = false ∧ ∀ r, (resD C base o ρ look).Leaf r → r.2 = [] := by
  have vv : ∀ (t : Tree AV) (r : AV × List Blk), (t.bind fun a => Tree.ret (a, ([] : List Blk))).Leaf r → r.2 = [] := by
    intro t r hr
    obtain ⟨a, _, rfl⟩ := Tree.leaf_bind.1 hr
    rfl
  obtain ⟨dst, op, type, pos, after, guard⟩ := o
  cases op <;> simp only [neutralOp, Bool.false_eq_true] at h
  case call c =>
    split at h
    · rename_i hc
      refine ⟨by simp [effOp, hc], fun r hr => ?_⟩
      simp only [resD, hc] at hr
      split at hr
      · exact vv _ _ hr
      · exact hr.elim
    · rename_i hc
      refine ⟨by simp [effOp, hc], fun r hr => ?_⟩
      simp only [resD, hc] at hr
      split at hr
      · exact vv _ _ hr
      · exact hr.elim
    · rename_i hc
      refine ⟨by simp [effOp, hc], fun r hr => ?_⟩
      simp only [resD, hc] at hr
      split at hr
      · exact vv _ _ hr
      · exact hr.elim
    · rename_i f hc
      have hcall : callTo C.P ρ c = some (f, [] ++ c.args.toList.map ρ ++ []) := by simp [callTo, hc, hρ]
      rcases QK.quiet f h with h1 | ⟨con, h1, h2⟩
      · refine ⟨?_, fun r hr => ?_⟩
        · simp only [effOp, hc, hcall]
          cases hp : findPcon C.pcon f with
          | none => rw [hp] at h1; cases h1
          | some p => simp
        · simp only [resD, hc, hcall] at hr
          cases hp : findPcon C.pcon f with
          | none => rw [hp] at h1; cases h1
          | some p => rw [hp] at hr; exact vv _ _ hr
      · refine ⟨by simp [effOp, hc, hcall, h1], fun r hr => ?_⟩
        simp only [resD, hc, hcall] at hr
        split at hr
        · exact vv _ _ hr
        · rw [h1] at hr
          simp only at hr
          split at hr
          · obtain ⟨q, hq, rfl⟩ := Tree.leaf_bind.1 hr
            simp [h2 _ _ hq]
          · split at hr
            · obtain ⟨q, hq, hq2⟩ := Tree.leaf_bind.1 hr
              split at hq2
              · cases hq2; simp [h2 _ _ hq]
              · exact hq2.elim
            · exact hr.elim
    · cases h
  all_goals exact ⟨rfl, vv _⟩

end
end Go.Fx
