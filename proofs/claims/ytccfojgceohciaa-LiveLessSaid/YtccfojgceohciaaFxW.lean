/- Helpers for a seat's own texts. -/
import Derived.Test.YtccfojgceohciaaFxV
namespace Go.Fx
open Go Go.RowKit

def entersB (P : Program) (g : Nat) : Bool :=
  match P.funcs[g]? with
  | some fn => !(fn.name == "runtime.NumGoroutine") && !fn.body.isNone
  | none => false
theorem enters_of {P : Program} {g : Nat} (h : entersB P g = true) : Enters P g := by
  unfold entersB at h
  split at h
  · rename_i fn hfn
    simp only [Bool.and_eq_true, Bool.not_eq_true'] at h
    exact ⟨fn, hfn, h.1, h.2⟩
  · cases h

/-- A state without its junk, its blocks under fixed numbers. -/
def norm (n0 : Nat) (ks : List Nat) (ss : List Sh) (σ : St) : St := let σ := canon n0 ks σ; ⟨gens ss σ.tmps, σ.heap, σ.next⟩
theorem Weak.norm (n0 : Nat) (ks : List Nat) (ss : List Sh) (σ : St) : Weak n0 σ (norm n0 ks ss σ) := (Weak.canon n0 ks σ).trans (Weak.gens n0 ss _)
theorem Weak.norm_eq {n0 : Nat} {σ σ' : St} (ks : List Nat) (ss : List Sh) (h : Fx.norm n0 ks ss σ = σ') : Weak n0 σ σ' := h ▸ Weak.norm n0 ks ss σ

section
variable {w : World} {S : Nat → Prop} {φ : Env}
/-- 'wp' and 'Out', shut (a goal that shows a call's tree is not to be opened by a look). -/
structure Holds {α : Type} (t : Tree α) (Q : α → Prop) : Prop where
  wp : t.wp Q
structure Gets {α : Type} (t : Tree α) (x : α) : Prop where
  out : t.Out x
theorem Holds.of_eq {α : Type} {t t' : Tree α} {Q : α → Prop} (h : t = t') (h' : t'.wp Q) : Holds t Q := ⟨h ▸ h'⟩
theorem Gets.of_eq {α : Type} {t t' : Tree α} {x : α} (h : t = t') (h' : t'.Out x) : Gets t x := ⟨h ▸ h'⟩

/-- What a contract may take an argument for. -/
structure AsArg (a a' : AV) : Prop where
  reps : ∀ {w : World} {S : Nat → Prop} {φ : Env} {v : Value}, Reps w S φ [a] [v] → Reps w S φ [a'] [v]
theorem AsArg.refl (a : AV) : AsArg a a := ⟨fun h => h⟩
theorem AsArg.i {a : AV} {n : Int} (h : a.i = some n) : AsArg a (.int .i64 n) := ⟨fun hr => by
  cases asIntK_inv h hr
  exact .int _ _ .nil⟩
theorem AsArg.ik {k : IntKind} {a : AV} {n : Int} (h : a.asIntK k = some n) : AsArg a (.int k n) := ⟨fun hr => by
  cases asIntK_inv h hr
  exact .int _ _ .nil⟩
theorem AsArg.view {a : AV} {r : RTy} {xs : List r.carrier} (h : a.asView r = some xs) : AsArg a (.view r xs) := ⟨fun hr => by
  unfold AV.asView at h
  split at h
  · rename_i n cs
    cases hr with
    | lv0 a c =>
      unfold decRows at h
      split at h
      · cases h; exact .view0 _ _ rfl _ _ .nil
      · cases h
    | lv _ c h0 hs hc hr =>
      obtain ⟨h8, h9⟩ := decRows_reps h hr
      subst h8
      exact .view _ _ _ h0 hs hc h9 .nil
  · unfold castView at h
    split at h
    · obtain ⟨rfl, rfl⟩ := castL_inv h
      exact hr
    · cases h
      cases hr with
      | nils a => exact .view0 _ _ rfl _ _ .nil
    · cases h⟩
inductive AsArgs : List AV → List AV → Prop
  | nil : AsArgs [] []
  | cons {a a' as as'} (h : AsArg a a') (t : AsArgs as as') : AsArgs (a :: as) (a' :: as')
theorem AsArgs.reps {as as' : List AV} (h : AsArgs as as') {vs : List Value} (hr : Reps w S φ as vs) : Reps w S φ as' vs := by
  induction h generalizing vs with
  | nil => exact hr
  | cons h _ ih =>
    obtain ⟨v, us, rfl, h1, h2⟩ := hr.uncons
    exact Reps.cons (h.reps h1) (ih h2)
end

theorem AsArg.blit {b c : Bool} (h : b = c) : AsArg (.blit b) (.bool c) := ⟨fun hr => by subst h; cases hr; exact .bool _ .nil⟩
theorem AsArg.lit {k : IntKind} {n m : Int} (h : n = m) : AsArg (.lit k n) (.int k m) := ⟨fun hr => by subst h; cases hr; exact .int _ _ .nil⟩
theorem AsArg.eq {a b : AV} (h : a = b) : AsArg a b := h ▸ AsArg.refl a
theorem AsArg.bool {a : AV} {b : Bool} (h : a.b = some b) : AsArg a (.bool b) := ⟨fun hr => by
  cases a <;> simp only [AV.b, Option.some.injEq, reduceCtorEq] at h
  · subst h; cases hr; exact .bool _ .nil
  · subst h; exact hr⟩
theorem AsArg.tup {as bs : List AV} (h : AsArgs as bs) : AsArg (.tup as) (.tup bs) := ⟨fun hr => by
  cases hr with
  | tup hr => exact .tup (h.reps hr) .nil⟩
theorem AsArg.agg {as bs : List AV} (h : AsArgs as bs) : AsArg (.agg as) (.agg bs) := ⟨fun hr => by
  cases hr with
  | agg hr => exact .agg (h.reps hr) .nil⟩
theorem AsArgs.refl : ∀ as : List AV, AsArgs as as
  | [] => .nil
  | a :: as => .cons (.refl a) (AsArgs.refl as)

/-- A contract out of a call's tree. -/
theorem con_of {C : Cfg} (G : GoodCfg C) {g n : Nat} {con : Con} (he : entersB C.P g = true) (h : ∀ args r, (con args).Out r → ∃ args' v, AsArgs args args' ∧ AsArg v r.1 ∧ Gets (callC C n g args') (v, r.2)) : ValidCon C.P g con := by
  have V : ValidCon C.P g (callC C n g) := con_of_call G (enters_of he) fun args r hr => ⟨args, hr, fun _ _ _ _ hv => hv⟩
  refine ⟨enters_of he, fun args r hr w S vals hS hv => ?_⟩
  obtain ⟨args', v, h1, h2, h3⟩ := h args r hr
  refine (V.2 args' (v, r.2) h3.out w S vals hS (h1.reps hv)).mono ?_
  rintro e w' ⟨x, ψ, rfl, hp⟩
  exact ⟨x, ψ, rfl, ⟨hp.ext, h2.reps hp.val, hp.blks⟩⟩

theorem subOf_of {P : Program} {g l : Nat} (h : SubOf P g (.loop (loopAt P g l))) : SubOf P g (loopAt P g l) := h.sub (.loop (.refl _))

theorem wrap_fits {n : Int} (h1 : -9223372036854775808 ≤ n) (h2 : n ≤ 9223372036854775807) : IntKind.i64.wrap n = n := by
  have e : IntKind.i64.wrap n = if 9223372036854775808 ≤ n % 18446744073709551616 then n % 18446744073709551616 - 18446744073709551616 else n % 18446744073709551616 := by
    simp [IntKind.wrap, IntKind.bits, IntKind.signed]
  rw [e]
  split <;> omega
theorem wrap_u8 (n : Int) : IntKind.u8.wrap n = n % 256 := by
  simp [IntKind.wrap, IntKind.bits, IntKind.signed]
theorem wrap_wf_i64 (n : Int) : -9223372036854775808 ≤ IntKind.i64.wrap n ∧ IntKind.i64.wrap n ≤ 9223372036854775807 := by
  have e : IntKind.i64.wrap n = if 9223372036854775808 ≤ n % 18446744073709551616 then n % 18446744073709551616 - 18446744073709551616 else n % 18446744073709551616 := by
    simp [IntKind.wrap, IntKind.bits, IntKind.signed]
  rw [e]
  split <;> omega

/-- Two ways, by whether there is something. -/
def optT {α β : Type} (d : β) (o : Option β) (f : β → Tree α) (t : Tree α) : Tree α := .ite o.isSome (f (o.getD d)) t
theorem optT_out {α β : Type} {d : β} {o : Option β} {f : β → Tree α} {t : Tree α} {r : α} : (optT d o f t).Out r ↔ (match o with | some x => (f x).Out r | none => t.Out r) := by
  cases o <;> simp [optT, Tree.Out]

/-! ### a loop's round, its end states without their junk -/
def roundT (C : Cfg) (n g : Nat) (body : Code) (n0 : Nat) (ks : List Nat) (ss es : List Sh) (σ : St) : Tree (Ex × St) :=
  (exec C n g body σ).bind fun r => match r.1 with
    | .normal => .ret (.normal, norm n0 ks ss r.2)
    | e => .ret (e, norm n0 ks es r.2)

/-- What a round comes to, for a loop that comes to r from x on. -/
def Rnd {X : Type} (T : X → St) (m : X → Nat) (Lx : X → Tree (Ex × St)) (x : X) (r r1 : Ex × St) : Prop :=
  match r1.1 with
  | .normal => ∃ x', r1.2 = T x' ∧ m x' < m x ∧ (Lx x').Out r
  | e => r = (e, r1.2)
theorem Rnd.go {X : Type} {T : X → St} {m : X → Nat} {Lx : X → Tree (Ex × St)} {x : X} {r : Ex × St} (x' : X) (hm : m x' < m x) (h : (Lx x').Out r) : Rnd T m Lx x r (.normal, T x') := ⟨x', rfl, hm, h⟩
theorem Rnd.out {X : Type} {T : X → St} {m : X → Nat} {Lx : X → Tree (Ex × St)} {x : X} {r : Ex × St} {id : Nat} {σ : St} (h : (.exit id, σ) = r) : Rnd T m Lx x r (.exit id, σ) := h.symm
theorem Rnd.ret {X : Type} {T : X → St} {m : X → Nat} {Lx : X → Tree (Ex × St)} {x : X} {r : Ex × St} {σ : St} (h : (.ret, σ) = r) : Rnd T m Lx x r (.ret, σ) := h.symm

theorem loop_rule2 {C : Cfg} (G : GoodCfg C) {g l : Nat} (n n0 : Nat) (ks : List Nat) (ss es : List Sh) (hs : SubOf C.P g (.loop (loopAt C.P g l))) {X : Type} (T : X → St) (Lx : X → Tree (Ex × St)) (m : X → Nat)
    (hstep : ∀ x r, (Lx x).Out r → Holds (roundT C n g (loopAt C.P g l) n0 ks ss es (T x)) (Rnd T m Lx x r))
    {L : LoopCon} (hL : ∀ σ r, (L σ).Out r → σ.next = n0 ∧ ∃ x, norm n0 ks ss σ = T x ∧ (Lx x).Out r) : SoundLoop C (loopAt C.P g l) L := by
  refine loop_rule G (subOf_of hs) T Lx m (n := n) (n0 := n0) (fun x r hr => ?_) (fun σ r hr => ?_)
  · have h := (hstep x r hr).wp
    unfold roundT at h
    rw [Tree.wp_bind] at h
    obtain ⟨r1, h1, h2⟩ := Tree.wp_out.1 h
    refine ⟨r1, h1, ?_⟩
    obtain ⟨e, σ1⟩ := r1
    cases e with
    | normal =>
      obtain ⟨x', h3, h4, h5⟩ := h2
      exact ⟨x', h3 ▸ Weak.norm n0 ks ss σ1, h4, h5⟩
    | _ => have h2' : r = _ := h2; subst h2'; exact ⟨rfl, Weak.norm n0 ks es σ1⟩
  · obtain ⟨h1, x, h2, h3⟩ := hL σ r hr
    exact ⟨h1, x, h2 ▸ Weak.norm n0 ks ss σ, h3⟩

def J (n : Nat) : List AV := List.replicate n .any
def puts : List AV → List (Nat × AV) → List AV
  | ts, [] => ts
  | ts, (d, v) :: l => puts (setNth ts d v) l
def Js (n : Nat) : List Sh := List.replicate n .any
def sets : List Sh → List (Nat × Sh) → List Sh
  | ts, [] => ts
  | ts, (d, v) :: l => sets (ts.set d v) l

theorem Tree.out_asrt {α : Type} {p : Prop} {t : Tree α} {x : α} : (Tree.asrt p t).Out x ↔ p ∧ t.Out x := Iff.rfl
theorem Tree.out_ret {α : Type} {a x : α} : (Tree.ret a).Out x ↔ a = x := Iff.rfl
theorem Tree.wp_ite {α : Type} {c : Bool} {t e : Tree α} {Q : α → Prop} : (Tree.ite c t e).wp Q ↔ (c = true → t.wp Q) ∧ (c = false → e.wp Q) := Iff.rfl
theorem Tree.wp_asrt {α : Type} {p : Prop} {t : Tree α} {Q : α → Prop} : (Tree.asrt p t).wp Q ↔ p ∧ t.wp Q := Iff.rfl
theorem Tree.wp_ret {α : Type} {a : α} {Q : α → Prop} : (Tree.ret a).wp Q ↔ Q a := Iff.rfl

theorem drop_rd {r : RTy} {xs : List r.carrier} {i : Int} (h0 : 0 ≤ i) (h1 : i < xs.length) : xs.drop i.toNat = rd r xs i :: xs.drop (i + 1).toNat := by
  have hlt : i.toNat < xs.length := by omega
  have hr : rd r xs i = xs[i.toNat] := by simp [rd, hlt]
  rw [hr, show (i + 1).toNat = i.toNat + 1 by omega, List.getElem_cons_drop]
theorem drop_end {α : Type} {xs : List α} {i : Int} (h1 : (xs.length : Int) ≤ i) : xs.drop i.toNat = [] := List.drop_eq_nil_of_le (by omega)
theorem Tree.out_ite {α : Type} {c : Bool} {t e : Tree α} {x : α} : (Tree.ite c t e).Out x ↔ (if c = true then t.Out x else e.Out x) := Iff.rfl
theorem Tree.out_ite_true {α : Type} {c : Bool} {t e : Tree α} {x : α} (h : c = true) : (Tree.ite c t e).Out x ↔ t.Out x := by rw [Tree.out_ite, if_pos h]
theorem Tree.out_ite_false {α : Type} {c : Bool} {t e : Tree α} {x : α} (h : c = false) : (Tree.ite c t e).Out x ↔ e.Out x := by rw [Tree.out_ite, if_neg (by rw [h]; decide)]

/-! ### a function that hands on a pointer, moved -/
def ptrCon (f : Nat → Nat) : List AV → Option AV
  | [.ptr b off] => some (.ptr b (f off))
  | _ => none
theorem pcon_of {C : Cfg} (G : GoodCfg C) {g n : Nat} (he : entersB C.P g = true) {f : Nat → Nat} (h : ∀ b off, ∃ q, Gets (inlineX C (exec C n) g [.ptr b off] [] (b + 1)) (.ptr b (f off), q)) : ValidPcon C.P g (ptrCon f) := by
  refine ⟨enters_of he, fun args r hr w S φ vals hv => ?_⟩
  unfold ptrCon at hr
  split at hr
  · rename_i b off
    cases hr
    obtain ⟨v, rfl, hv⟩ := hv.one_inv
    cases hv with
    | ptr hp =>
      obtain ⟨s, B, h1, h2, rfl⟩ := hp
      obtain ⟨q, hq⟩ := h b off
      let φb : Env := fun id => if id = b then some s.kill else none
      have hb : φb b = some s.kill := by simp [φb]
      have dead : ∀ id B c n, φb id = some ⟨true, some B, c, n⟩ → False := by
        intro id B c n hid
        simp only [φb] at hid
        split at hid
        · simp [Slot.kill] at hid
        · cases hid
      have R : RepH w (fun _ => False) φb [] w :=
        { heap := fun _ _ h => nomatch h
          inj := fun _ _ _ _ _ _ _ h => (dead _ _ _ _ h).elim
          rng := fun _ ⟨_, _, _, h⟩ => (dead _ _ _ _ h).elim
          below := Below.refl _ _
          sb := fun _ h => h.elim }
      refine (inlineX_sound (exec_sound G n).1 R (fun id hid => by simp only [φb]; rw [if_neg (by omega)]) (vals := [_]) (.ptr ⟨s.kill, B, hb, h2, rfl⟩ .nil) (T := fun e w' => ∃ x, e = .returned x ∧ Below w.heap.size w w' ∧ Reps w' S φ [.ptr b (f off)] [x]) (Tree.wp_of_out hq.out fun x w' φ' hp => ?_)).2
      refine ⟨x, rfl, hp.mem.below, ?_⟩
      have hval := hp.val
      cases hval with
      | ptr hp' =>
        obtain ⟨s', B', h3, h4, rfl⟩ := hp'
        have hs : s'.blk = s.blk := by
          rcases hp.after.mono.dom b _ hb with h5 | h5 <;> (rw [h5] at h3; cases h3; rfl)
        rw [hs, h2] at h4
        cases h4
        exact .ptr ⟨s, B, h1, h2, rfl⟩ .nil
  · cases hr

end Go.Fx
