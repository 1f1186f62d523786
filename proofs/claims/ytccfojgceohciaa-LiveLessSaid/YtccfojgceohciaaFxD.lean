/- What abstract values say of values and worlds. -/
import Derived.Test.YtccfojgceohciaaFxC
namespace Go.Fx
open Go Go.RowKit

/-! ### trees -/
theorem Tree.wp_mono {α : Type} {t : Tree α} {Q Q' : α → Prop} (h : t.wp Q) (hq : ∀ a, Q a → Q' a) : t.wp Q' := by
  induction t with
  | ret a => exact hq a h
  | fail => exact h
  | ite c t e iht ihe => exact ⟨fun hc => iht (h.1 hc), fun hc => ihe (h.2 hc)⟩
  | asrt p t ih => exact ⟨h.1, ih h.2⟩

theorem Tree.wp_bind {α β : Type} {t : Tree α} {f : α → Tree β} {Q : β → Prop} : (t.bind f).wp Q ↔ t.wp fun a => (f a).wp Q := by
  induction t with
  | ret a => exact Iff.rfl
  | fail => exact Iff.rfl
  | ite c t e iht ihe => simp only [Tree.bind, Tree.wp, iht, ihe]
  | asrt p t ih => simp only [Tree.bind, Tree.wp, ih]

theorem Tree.wp_map {α β : Type} {t : Tree α} {f : α → β} {Q : β → Prop} : (t.map f).wp Q ↔ t.wp fun a => Q (f a) := Tree.wp_bind

theorem Tree.wp_out {α : Type} {t : Tree α} {Q : α → Prop} : t.wp Q ↔ ∃ a, t.Out a ∧ Q a := by
  induction t with
  | ret a => exact ⟨fun h => ⟨a, rfl, h⟩, fun ⟨b, hb, h⟩ => by cases hb; exact h⟩
  | fail => exact ⟨fun h => h.elim, fun ⟨_, h, _⟩ => h.elim⟩
  | ite c t e iht ihe =>
    simp only [Tree.wp, Tree.Out]
    cases c with
    | true => simp [iht]
    | false => simp [ihe]
  | asrt p t ih =>
    simp only [Tree.wp, Tree.Out, ih]
    exact ⟨fun ⟨hp, a, h, q⟩ => ⟨a, ⟨hp, h⟩, q⟩, fun ⟨a, ⟨hp, h⟩, q⟩ => ⟨hp, a, h, q⟩⟩

theorem Tree.out_unique {α : Type} {t : Tree α} {a b : α} (ha : t.Out a) (hb : t.Out b) : a = b := by
  induction t with
  | ret x => exact ha.symm.trans hb
  | fail => exact ha.elim
  | ite c t e iht ihe => cases c with
    | true => simp only [Tree.Out] at ha hb; exact iht (by simpa using ha) (by simpa using hb)
    | false => simp only [Tree.Out] at ha hb; exact ihe (by simpa using ha) (by simpa using hb)
  | asrt p t ih => exact ih ha.2 hb.2

theorem Tree.wp_of_out {α : Type} {t : Tree α} {Q : α → Prop} {a : α} (h : t.Out a) (hq : Q a) : t.wp Q := Tree.wp_out.2 ⟨a, h, hq⟩

theorem Tree.out_of_wp {α : Type} {t : Tree α} {a : α} (h : t.wp (fun x => x = a)) : t.Out a := by
  obtain ⟨b, hb, rfl⟩ := Tree.wp_out.1 h
  exact hb

theorem need_wp {α : Type} {l : Bool} {p : Prop} [Decidable p] {t : Tree α} {Q : α → Prop} (h : (need l p t).wp Q) : p ∧ t.wp Q := by
  cases l with
  | true =>
    by_cases hp : p
    · simp only [need, if_pos hp] at h; exact ⟨hp, h⟩
    · simp only [need, if_neg hp] at h; exact h.elim
  | false => exact h

theorem ofOption_wp {α : Type} {o : Option α} {Q : α → Prop} (h : (Tree.ofOption o).wp Q) : ∃ a, o = some a ∧ Q a := by
  cases o with
  | none => exact h.elim
  | some a => exact ⟨a, rfl, h⟩

/-! ### environments -/
structure Slot where
  alive : Bool
  blk : Option Nat
  cap : Nat
  len : Nat
def Slot.kill (s : Slot) : Slot := { s with alive := false }
abbrev Env := Nat → Option Slot
def Env.none : Env := fun _ => Option.none
def Own (φ : Env) (B : Nat) : Prop := ∃ id cap len, φ id = some ⟨true, some B, cap, len⟩
def Stab (w : World) (S : Nat → Prop) (φ : Env) (B : Nat) : Prop := B < w.heap.size ∧ ¬ S B ∧ ¬ Own φ B
def cellsAt (w : World) (B o : Nat) (us : List Value) : Prop := ∀ j u, us[j]? = some u → w.cell? ⟨B, o + j, none⟩ = some u

def PtrOK (φ : Env) (b off : Nat) (v : Value) : Prop := ∃ s B, φ b = some s ∧ s.blk = some B ∧ v = .pointer (some ⟨B, off, none⟩)
def RptrOK (φ : Env) (b : Nat) (r : RTy) (i : Int) (off : Nat) (v : Value) : Prop := ∃ s B, φ b = some s ∧ s.blk = some B ∧ v = .pointer (some ⟨B, i.toNat * r.size + off, none⟩)
def baseOf (B : Option Nat) : Option Addr := B.map fun b => ⟨b, 0, none⟩
def Slot.fits (s : Slot) (v : Value) : Prop :=
  match s.blk with
  | some B => v = .slice (some ⟨B, 0, none⟩) s.len s.cap
  | none => ∃ a, v = .slice a 0 0
def OwnOK (φ : Env) (b : Nat) (v : Value) : Prop := ∃ s, φ b = some s ∧ s.fits v
theorem Slot.fits_slice {s : Slot} {v : Value} (h : s.fits v) : ∃ a len cap, v = .slice a len cap := by
  unfold Slot.fits at h
  split at h
  · exact ⟨_, _, _, h⟩
  · obtain ⟨a, h⟩ := h; exact ⟨_, _, _, h⟩
def SlcOK (φ : Env) (b off n sz : Nat) (v : Value) : Prop :=
  ∃ s B c, φ b = some s ∧ s.blk = some B ∧ ((n = 0 ∧ ∃ a, v = .slice a 0 c) ∨ (n ≤ c ∧ (off = 0 → n * sz = s.len → c = n) ∧ v = .slice (some ⟨B, off, none⟩) n c))
def MapOK (φ : Env) (b : Nat) (v : Value) : Prop := ∃ s B, φ b = some s ∧ s.blk = some B ∧ v = .map (some B)

inductive Reps (w : World) (S : Nat → Prop) (φ : Env) : List AV → List Value → Prop
  | nil : Reps w S φ [] []
  | any {as vs} (v : Value) : Reps w S φ as vs → Reps w S φ (.any :: as) (v :: vs)
  | lit {as vs} (k : IntKind) (n : Int) : Reps w S φ as vs → Reps w S φ (.lit k n :: as) (.int k n :: vs)
  | int {as vs} (k : IntKind) (n : Int) : Reps w S φ as vs → Reps w S φ (.int k n :: as) (.int k n :: vs)
  | blit {as vs} (b : Bool) : Reps w S φ as vs → Reps w S φ (.blit b :: as) (.bool b :: vs)
  | bool {as vs} (b : Bool) : Reps w S φ as vs → Reps w S φ (.bool b :: as) (.bool b :: vs)
  | str {as vs} (s : ByteArray) : Reps w S φ as vs → Reps w S φ (.str s.data.toList :: as) (.string s :: vs)
  | nilp {as vs} : Reps w S φ as vs → Reps w S φ (.nilp :: as) (.pointer none :: vs)
  | ptr {as vs b off v} (h : PtrOK φ b off v) : Reps w S φ as vs → Reps w S φ (.ptr b off :: as) (v :: vs)
  | rptr {as vs b r i off v} (h : RptrOK φ b r i off v) : Reps w S φ as vs → Reps w S φ (.rptr b r i off :: as) (v :: vs)
  | pv {as vs cs us B o} (hs : Stab w S φ B) (hc : cellsAt w B o us) (hr : Reps w S φ cs us) : Reps w S φ as vs → Reps w S φ (.pv cs :: as) (.pointer (some ⟨B, o, none⟩) :: vs)
  | nils {as vs} (a : Option Addr) : Reps w S φ as vs → Reps w S φ (.nils :: as) (.slice a 0 0 :: vs)
  | own {as vs b v} (h : OwnOK φ b v) : Reps w S φ as vs → Reps w S φ (.own b :: as) (v :: vs)
  | slc {as vs b off n sz v} (h : SlcOK φ b off n sz v) : Reps w S φ as vs → Reps w S φ (.slc b off n sz :: as) (v :: vs)
  | view0 {as vs} (r : RTy) (xs : List r.carrier) (hx : xs = []) (a : Option Addr) (c : Nat) : Reps w S φ as vs → Reps w S φ (.view r xs :: as) (.slice a 0 c :: vs)
  | view {as vs us B o} (r : RTy) (xs : List r.carrier) (c : Nat) (hc0 : xs.length ≤ c) (hs : Stab w S φ B) (hc : cellsAt w B o us) (hr : Reps w S φ (xs.flatMap r.enc) us) :
      Reps w S φ as vs → Reps w S φ (.view r xs :: as) (.slice (some ⟨B, o, none⟩) xs.length c :: vs)
  | lv0 {as vs cs} (a : Option Addr) (c : Nat) : Reps w S φ as vs → Reps w S φ (.lv 0 cs :: as) (.slice a 0 c :: vs)
  | lv {as vs cs us B o} (n c : Nat) (hc0 : n ≤ c) (hs : Stab w S φ B) (hc : cellsAt w B o us) (hr : Reps w S φ cs us) :
      Reps w S φ as vs → Reps w S φ (.lv n cs :: as) (.slice (some ⟨B, o, none⟩) n c :: vs)
  | fn {as vs a1 a2 u1 u2} (f : Fn) (h1 : Reps w S φ a1 u1) (h2 : Reps w S φ a2 u2) : Reps w S φ as vs → Reps w S φ (.fn f a1 a2 :: as) (.func f u1.toArray u2.toArray :: vs)
  | nilfn {as vs} : Reps w S φ as vs → Reps w S φ (.nilfn :: as) (.nilFunc :: vs)
  | iface {as vs a v} (t : TypeId) (h : Reps w S φ [a] [v]) : Reps w S φ as vs → Reps w S φ (.iface t a :: as) (.iface t v :: vs)
  | niliface {as vs} : Reps w S φ as vs → Reps w S φ (.niliface :: as) (.nilIface :: vs)
  | map {as vs b v} (h : MapOK φ b v) : Reps w S φ as vs → Reps w S φ (.map b :: as) (v :: vs)
  | nilmap {as vs} : Reps w S φ as vs → Reps w S φ (.nilmap :: as) (.map none :: vs)
  | agg {as vs cs us} (h : Reps w S φ cs us) : Reps w S φ as vs → Reps w S φ (.agg cs :: as) (.agg us.toArray :: vs)
  | tup {as vs cs us} (h : Reps w S φ cs us) : Reps w S φ as vs → Reps w S φ (.tup cs :: as) (.tuple us.toArray :: vs)

section
variable {w : World} {S : Nat → Prop} {φ : Env}

theorem Reps.len {as : List AV} {vs : List Value} (h : Reps w S φ as vs) : as.length = vs.length := by
  induction h <;> simp_all

theorem Reps.cons {a : AV} {v : Value} {as : List AV} {vs : List Value} (h : Reps w S φ [a] [v]) (h' : Reps w S φ as vs) : Reps w S φ (a :: as) (v :: vs) := by
  cases h with
  | any => exact .any _ h'
  | lit => exact .lit _ _ h'
  | int => exact .int _ _ h'
  | blit => exact .blit _ h'
  | bool => exact .bool _ h'
  | str => exact .str _ h'
  | nilp => exact .nilp h'
  | ptr h => exact .ptr h h'
  | rptr h => exact .rptr h h'
  | pv a b c => exact .pv a b c h'
  | nils => exact .nils _ h'
  | own h => exact .own h h'
  | slc h => exact .slc h h'
  | view0 _ _ hx => exact .view0 _ _ hx _ _ h'
  | view _ _ _ a b c d => exact .view _ _ _ a b c d h'
  | lv0 => exact .lv0 _ _ h'
  | lv _ _ a b c d => exact .lv _ _ a b c d h'
  | fn _ a b => exact .fn _ a b h'
  | nilfn => exact .nilfn h'
  | iface _ h => exact .iface _ h h'
  | niliface => exact .niliface h'
  | map h => exact .map h h'
  | nilmap => exact .nilmap h'
  | agg h => exact .agg h h'
  | tup h => exact .tup h h'

theorem Reps.uncons {a : AV} {as : List AV} {vs : List Value} (h : Reps w S φ (a :: as) vs) : ∃ v us, vs = v :: us ∧ Reps w S φ [a] [v] ∧ Reps w S φ as us := by
  cases h with
  | any _ h' => exact ⟨_, _, rfl, .any _ .nil, h'⟩
  | lit _ _ h' => exact ⟨_, _, rfl, .lit _ _ .nil, h'⟩
  | int _ _ h' => exact ⟨_, _, rfl, .int _ _ .nil, h'⟩
  | blit _ h' => exact ⟨_, _, rfl, .blit _ .nil, h'⟩
  | bool _ h' => exact ⟨_, _, rfl, .bool _ .nil, h'⟩
  | str _ h' => exact ⟨_, _, rfl, .str _ .nil, h'⟩
  | nilp h' => exact ⟨_, _, rfl, .nilp .nil, h'⟩
  | ptr h h' => exact ⟨_, _, rfl, .ptr h .nil, h'⟩
  | rptr h h' => exact ⟨_, _, rfl, .rptr h .nil, h'⟩
  | pv a b c h' => exact ⟨_, _, rfl, .pv a b c .nil, h'⟩
  | nils _ h' => exact ⟨_, _, rfl, .nils _ .nil, h'⟩
  | own h h' => exact ⟨_, _, rfl, .own h .nil, h'⟩
  | slc h h' => exact ⟨_, _, rfl, .slc h .nil, h'⟩
  | view0 _ _ hx _ _ h' => exact ⟨_, _, rfl, .view0 _ _ hx _ _ .nil, h'⟩
  | view _ _ _ a b c d h' => exact ⟨_, _, rfl, .view _ _ _ a b c d .nil, h'⟩
  | lv0 _ _ h' => exact ⟨_, _, rfl, .lv0 _ _ .nil, h'⟩
  | lv _ _ a b c d h' => exact ⟨_, _, rfl, .lv _ _ a b c d .nil, h'⟩
  | fn _ a b h' => exact ⟨_, _, rfl, .fn _ a b .nil, h'⟩
  | nilfn h' => exact ⟨_, _, rfl, .nilfn .nil, h'⟩
  | iface _ h h' => exact ⟨_, _, rfl, .iface _ h .nil, h'⟩
  | niliface h' => exact ⟨_, _, rfl, .niliface .nil, h'⟩
  | map h h' => exact ⟨_, _, rfl, .map h .nil, h'⟩
  | nilmap h' => exact ⟨_, _, rfl, .nilmap .nil, h'⟩
  | agg h h' => exact ⟨_, _, rfl, .agg h .nil, h'⟩
  | tup h h' => exact ⟨_, _, rfl, .tup h .nil, h'⟩

theorem Reps.nil_inv {vs : List Value} (h : Reps w S φ [] vs) : vs = [] := by cases h; rfl
theorem Reps.one_inv {a : AV} {vs : List Value} (h : Reps w S φ [a] vs) : ∃ v, vs = [v] ∧ Reps w S φ [a] [v] := by
  obtain ⟨v, us, rfl, h1, h2⟩ := h.uncons
  cases h2.nil_inv
  exact ⟨v, rfl, h1⟩

theorem Reps.app {as bs : List AV} : ∀ {vs us : List Value}, Reps w S φ as vs → Reps w S φ bs us → Reps w S φ (as ++ bs) (vs ++ us) := by
  induction as with
  | nil => intro vs us h h'; cases h.nil_inv; exact h'
  | cons a as ih =>
    intro vs us h h'
    obtain ⟨v, ws, rfl, h1, h2⟩ := h.uncons
    exact h1.cons (ih h2 h')

theorem Reps.unapp {as bs : List AV} : ∀ {vs : List Value}, Reps w S φ (as ++ bs) vs → ∃ us ws, vs = us ++ ws ∧ Reps w S φ as us ∧ Reps w S φ bs ws := by
  induction as with
  | nil => intro vs h; exact ⟨[], vs, rfl, .nil, h⟩
  | cons a as ih =>
    intro vs h
    obtain ⟨v, us, rfl, h1, h2⟩ := h.uncons
    obtain ⟨us', ws, rfl, h3, h4⟩ := ih h2
    exact ⟨v :: us', ws, rfl, h1.cons h3, h4⟩

theorem Reps.takeDrop (n : Nat) {as : List AV} : ∀ {vs : List Value}, Reps w S φ as vs → Reps w S φ (as.take n) (vs.take n) ∧ Reps w S φ (as.drop n) (vs.drop n) := by
  induction as generalizing n with
  | nil => intro vs h; cases h.nil_inv; simp; exact .nil
  | cons a as ih =>
    intro vs h
    cases n with
    | zero => simpa using ⟨.nil, h⟩
    | succ n =>
      obtain ⟨v, us, rfl, h1, h2⟩ := h.uncons
      obtain ⟨h3, h4⟩ := ih n h2
      simpa using ⟨h1.cons h3, h4⟩
theorem Reps.take (n : Nat) {as : List AV} {vs : List Value} (h : Reps w S φ as vs) : Reps w S φ (as.take n) (vs.take n) := (h.takeDrop n).1
theorem Reps.drop (n : Nat) {as : List AV} {vs : List Value} (h : Reps w S φ as vs) : Reps w S φ (as.drop n) (vs.drop n) := (h.takeDrop n).2

theorem Reps.get {as : List AV} {vs : List Value} (h : Reps w S φ as vs) {n : Nat} {a : AV} (ha : as[n]? = some a) : ∃ v, vs[n]? = some v ∧ Reps w S φ [a] [v] := by
  induction as generalizing vs n with
  | nil => simp at ha
  | cons b as ih =>
    obtain ⟨v, us, rfl, h1, h2⟩ := h.uncons
    cases n with
    | zero => simp at ha; subst ha; exact ⟨v, rfl, h1⟩
    | succ n => simpa using ih h2 (by simpa using ha)

theorem Reps.nth {as : List AV} {vs : List Value} (h : Reps w S φ as vs) (n : Nat) : Reps w S φ [nth as n] [vs.getD n undef] := by
  induction as generalizing vs n with
  | nil => cases h.nil_inv; simp [Fx.nth]; exact .any _ .nil
  | cons b as ih =>
    obtain ⟨v, us, rfl, h1, h2⟩ := h.uncons
    cases n with
    | zero => simpa [Fx.nth] using h1
    | succ n => simpa [Fx.nth] using ih h2 n

theorem Reps.setNth {as : List AV} {vs : List Value} (h : Reps w S φ as vs) (n : Nat) {a : AV} {v : Value} (hv : Reps w S φ [a] [v]) : Reps w S φ (setNth as n a) (vs.set n v) := by
  induction as generalizing vs n with
  | nil => cases h.nil_inv; simp [Fx.setNth]; exact .nil
  | cons b as ih =>
    obtain ⟨u, us, rfl, h1, h2⟩ := h.uncons
    cases n with
    | zero => simpa [Fx.setNth] using hv.cons h2
    | succ n => simpa [Fx.setNth] using h1.cons (ih h2 n)

theorem Reps.anys : ∀ (n : Nat) (v : Value), Reps w S φ (List.replicate n .any) (List.replicate n v)
  | 0, _ => .nil
  | n + 1, v => .any v (Reps.anys n v)
end

/-! ### later worlds -/
structure Mono (w : World) (S : Nat → Prop) (φ : Env) (w' : World) (S' : Nat → Prop) (φ' : Env) : Prop where
  dom : ∀ b s, φ b = some s → φ' b = some s ∨ φ' b = some s.kill
  stab : ∀ B, Stab w S φ B → Stab w' S' φ' B ∧ w'.heap[B]? = w.heap[B]?

theorem Mono.refl (w : World) (S : Nat → Prop) (φ : Env) : Mono w S φ w S φ := ⟨fun _ _ h => .inl h, fun _ h => ⟨h, rfl⟩⟩
theorem Mono.trans {w w' w'' : World} {S S' S'' : Nat → Prop} {φ φ' φ'' : Env} (h : Mono w S φ w' S' φ') (h' : Mono w' S' φ' w'' S'' φ'') : Mono w S φ w'' S'' φ'' := by
  refine ⟨fun b s hb => ?_, fun B hB => ?_⟩
  · rcases h.dom b s hb with h1 | h1
    · exact h'.dom b s h1
    · rcases h'.dom b _ h1 with h2 | h2
      · exact .inr h2
      · exact .inr h2
  · obtain ⟨h1, h2⟩ := h.stab B hB
    obtain ⟨h3, h4⟩ := h'.stab B h1
    exact ⟨h3, h4.trans h2⟩

theorem cellsAt.of_block {w w' : World} {B o : Nat} {us : List Value} (h : cellsAt w B o us) (hb : w'.heap[B]? = w.heap[B]?) : cellsAt w' B o us :=
  fun j u hj => (World.cell?_of_block (w := w) (w' := w') (a := ⟨B, o + j, none⟩) hb).trans (h j u hj)

theorem Reps.mono {w w' : World} {S S' : Nat → Prop} {φ φ' : Env} (m : Mono w S φ w' S' φ') {as : List AV} {vs : List Value} (h : Reps w S φ as vs) : Reps w' S' φ' as vs := by
  induction h with
  | nil => exact .nil
  | any _ _ ih => exact .any _ ih
  | lit _ _ _ ih => exact .lit _ _ ih
  | int _ _ _ ih => exact .int _ _ ih
  | blit _ _ ih => exact .blit _ ih
  | bool _ _ ih => exact .bool _ ih
  | str _ _ ih => exact .str _ ih
  | nilp _ ih => exact .nilp ih
  | ptr h _ ih =>
    obtain ⟨s, B, h1, h2, h3⟩ := h
    refine .ptr ?_ ih
    rcases m.dom _ _ h1 with h4 | h4
    · exact ⟨s, B, h4, h2, h3⟩
    · exact ⟨s.kill, B, h4, h2, h3⟩
  | rptr h _ ih =>
    obtain ⟨s, B, h1, h2, h3⟩ := h
    refine .rptr ?_ ih
    rcases m.dom _ _ h1 with h4 | h4
    · exact ⟨s, B, h4, h2, h3⟩
    · exact ⟨s.kill, B, h4, h2, h3⟩
  | pv hs hc _ _ ih1 ih2 => exact .pv (m.stab _ hs).1 (hc.of_block (m.stab _ hs).2) ih1 ih2
  | nils _ _ ih => exact .nils _ ih
  | own h _ ih =>
    obtain ⟨s, h1, h2⟩ := h
    refine .own ?_ ih
    rcases m.dom _ _ h1 with h4 | h4
    · exact ⟨s, h4, h2⟩
    · exact ⟨s.kill, h4, h2⟩
  | slc h _ ih =>
    obtain ⟨s, B, c, h1, h2⟩ := h
    refine .slc ?_ ih
    rcases m.dom _ _ h1 with h4 | h4
    · exact ⟨s, B, c, h4, h2⟩
    · exact ⟨s.kill, B, c, h4, h2⟩
  | view0 _ _ hx _ _ _ ih => exact .view0 _ _ hx _ _ ih
  | view _ _ _ hc0 hs hc _ _ ih1 ih2 => exact .view _ _ _ hc0 (m.stab _ hs).1 (hc.of_block (m.stab _ hs).2) ih1 ih2
  | lv0 _ _ _ ih => exact .lv0 _ _ ih
  | lv _ _ hc0 hs hc _ _ ih1 ih2 => exact .lv _ _ hc0 (m.stab _ hs).1 (hc.of_block (m.stab _ hs).2) ih1 ih2
  | fn _ _ _ _ ih1 ih2 ih3 => exact .fn _ ih1 ih2 ih3
  | nilfn _ ih => exact .nilfn ih
  | iface _ _ _ ih1 ih2 => exact .iface _ ih1 ih2
  | niliface _ ih => exact .niliface ih
  | map h _ ih =>
    obtain ⟨s, B, h1, h2, h3⟩ := h
    refine .map ?_ ih
    rcases m.dom _ _ h1 with h4 | h4
    · exact ⟨s, B, h4, h2, h3⟩
    · exact ⟨s.kill, B, h4, h2, h3⟩
  | nilmap _ ih => exact .nilmap ih
  | agg _ _ ih1 ih2 => exact .agg ih1 ih2
  | tup _ _ ih1 ih2 => exact .tup ih1 ih2

/-! ### blocks -/
/-- A map's entry's value. -/
def ValRep (w : World) (S : Nat → Prop) (φ : Env) (r : RTy) (x : r.carrier) (v : Value) : Prop :=
  match r.isAgg with
  | true => ∃ us, v = .agg us ∧ Reps w S φ (r.enc x) us.toList
  | false => Reps w S φ (r.enc x) [v] ∧ v.oneCell' = true
def IMapRep (w : World) (S : Nat → Prop) (φ : Env) (r : RTy) : List (Int × r.carrier) → List MapEntry → Prop
  | [], [] => True
  | (k, x) :: es, m :: ms => m.key = .int .i64 k ∧ ValRep w S φ r x m.val ∧ IMapRep w S φ r es ms
  | _, _ => False
def LMapRep (w : World) (S : Nat → Prop) (φ : Env) : List (AV × AV) → List MapEntry → Prop
  | [], [] => True
  | (k, x) :: es, m :: ms => (∃ j, k = .lit .i64 j ∧ m.key = .int .i64 j) ∧ Reps w S φ [x] [m.val] ∧ LMapRep w S φ es ms
  | _, _ => False

def BlkRep (w : World) (S : Nat → Prop) (φ : Env) (B : Option Nat) (cap len : Nat) : Blk → Prop
  | .cells cs => ∃ B' us e, B = some B' ∧ w.heap[B']? = some (.cells us e (0, 0)) ∧ us.size = len ∧ Reps w S φ cs us.toList
  | .rows r e xs => len = xs.length ∧ ∃ us, w.ownsRow 0 e r.size (.slice (baseOf B) len cap) len us ∧ Reps w S φ (xs.flatMap r.enc) us ∧ ∀ u ∈ us, u.oneCell' = true
  | .imap r es => ∃ B' ms clock, B = some B' ∧ w.heap[B']? = some (.map ms clock) ∧ IMapRep w S φ r es ms.toList
  | .lmap es => ∃ B' ms clock, B = some B' ∧ w.heap[B']? = some (.map ms clock) ∧ LMapRep w S φ es ms.toList

theorem IMapRep.mono {w w' : World} {S S' : Nat → Prop} {φ φ' : Env} (m : Mono w S φ w' S' φ') {r : RTy} : ∀ {es : List (Int × r.carrier)} {ms : List MapEntry}, IMapRep w S φ r es ms → IMapRep w' S' φ' r es ms
  | [], [], _ => trivial
  | (k, x) :: es, m' :: ms, ⟨h1, h2, h3⟩ => by
    refine ⟨h1, ?_, IMapRep.mono m h3⟩
    unfold ValRep at h2 ⊢
    split at h2
    · obtain ⟨us, hu, hr⟩ := h2; exact ⟨us, hu, hr.mono m⟩
    · exact ⟨h2.1.mono m, h2.2⟩
theorem LMapRep.mono {w w' : World} {S S' : Nat → Prop} {φ φ' : Env} (m : Mono w S φ w' S' φ') : ∀ {es : List (AV × AV)} {ms : List MapEntry}, LMapRep w S φ es ms → LMapRep w' S' φ' es ms
  | [], [], _ => trivial
  | (_, _) :: _, _ :: _, ⟨h1, h2, h3⟩ => ⟨h1, h2.mono m, LMapRep.mono m h3⟩

theorem BlkRep.mono {w w' : World} {S S' : Nat → Prop} {φ φ' : Env} (m : Mono w S φ w' S' φ') {B : Option Nat} {cap len : Nat} {blk : Blk} (h : BlkRep w S φ B cap len blk)
    (hB : ∀ b, B = some b → w'.heap[b]? = w.heap[b]?) : BlkRep w' S' φ' B cap len blk := by
  cases blk with
  | cells cs =>
    obtain ⟨B', us, e, rfl, h1, h2, h3⟩ := h
    exact ⟨B', us, e, rfl, (hB B' rfl).trans h1, h2, h3.mono m⟩
  | rows r e xs =>
    obtain ⟨h1, us, ⟨h2, h3⟩, h4, h5⟩ := h
    refine ⟨h1, us, ⟨h2, ?_⟩, h4.mono m, h5⟩
    rcases h3 with h3 | ⟨g, c, cur, hv, hg, hh, r⟩
    · exact .inl h3
    · refine .inr ⟨g, c, cur, hv, hg, ?_, r⟩
      cases B with
      | none => simp [baseOf] at hv
      | some b =>
        have : b = g := by simp [baseOf] at hv; exact hv.1
        subst this
        exact (hB b rfl).trans hh
  | imap r es =>
    obtain ⟨B', ms, clock, rfl, h1, h2⟩ := h
    exact ⟨B', ms, clock, rfl, (hB B' rfl).trans h1, h2.mono m⟩
  | lmap es =>
    obtain ⟨B', ms, clock, rfl, h1, h2⟩ := h
    exact ⟨B', ms, clock, rfl, (hB B' rfl).trans h1, h2.mono m⟩

def HeapRep (w : World) (S : Nat → Prop) (φ : Env) (look : Nat → Option Blk) : Prop :=
  ∀ b blk, look b = some blk → ∃ B cap len, φ b = some ⟨true, B, cap, len⟩ ∧ BlkRep w S φ B cap len blk

def InjE (φ : Env) : Prop := ∀ b b' B c n c' n', φ b = some ⟨true, some B, c, n⟩ → φ b' = some ⟨true, some B, c', n'⟩ → b = b'

end Go.Fx
