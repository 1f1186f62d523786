/- Soundness of contracts that are called, and of blocks that are made. -/
import Derived.Test.YtccfojgceohciaaFxG
namespace Go.Fx
open Go Go.RowKit

/-! ### what an operation leaves -/
structure Ext (w : World) (φ : Env) (base n : Nat) (w' : World) (φ' : Env) : Prop where
  below : Below w.heap.size w w'
  same : ∀ id, ¬ (base ≤ id ∧ id < base + n) → φ' id = φ id
  new : ∀ id s, base ≤ id → id < base + n → φ' id = some s → ∀ B, s.blk = some B → w.heap.size ≤ B ∧ B < w'.heap.size
  inj : ∀ id id' s s' B, base ≤ id → id < base + n → base ≤ id' → id' < base + n → φ' id = some s → φ' id' = some s' → s.blk = some B → s'.blk = some B → s.alive = true → s'.alive = true → id = id'

structure ResPost (w : World) (S : Nat → Prop) (φ : Env) (base : Nat) (v : AV) (bs : List Blk) (x : Value) (w' : World) (φ' : Env) : Prop where
  ext : Ext w φ base bs.length w' φ'
  val : Reps w' S φ' [v] [x]
  blks : ∀ j blk, bs[j]? = some blk → ∃ B cap len, φ' (base + j) = some ⟨true, B, cap, len⟩ ∧ BlkRep w' S φ' B cap len blk

def FreshE (φ : Env) (base n : Nat) : Prop := ∀ id, base ≤ id → id < base + n → φ id = none

theorem Ext.mono {w w' : World} {S : Nat → Prop} {φ φ' : Env} {base n : Nat} (h : Ext w φ base n w' φ') (hf : FreshE φ base n) : Mono w S φ w' S φ' := by
  refine ⟨fun b s hb => .inl ?_, fun B hB => ?_⟩
  · rw [h.same b, hb]
    intro hr
    rw [hf b hr.1 hr.2] at hb
    cases hb
  · obtain ⟨h1, h2, h3⟩ := hB
    refine ⟨⟨Nat.lt_of_lt_of_le h1 h.below.size, h2, ?_⟩, h.below.block B h1⟩
    rintro ⟨id, cap, len, hid⟩
    by_cases hr : base ≤ id ∧ id < base + n
    · have := h.new id _ hr.1 hr.2 hid B rfl
      omega
    · rw [h.same id hr] at hid
      exact h3 ⟨id, cap, len, hid⟩

theorem Ext.refl (w : World) (φ : Env) (base : Nat) : Ext w φ base 0 w φ :=
  ⟨Below.refl _ _, fun _ _ => rfl, fun _ _ h1 h2 => absurd h2 (by omega), fun _ _ _ _ _ h1 h2 => absurd h2 (by omega)⟩

section
variable {P : Program} {w : World} {S : Nat → Prop} {φ : Env}

/-- One step that only computes. -/
theorem pure_step {o : Oper} {a : Act} {K : Act → World → Prop} {Q : Exit → Act → World → Prop} {t : Tree AV} {s : Sem Value} {base : Nat}
    (he : execOp a.eval o = (do pure (.value (← s)))) (hg : Gives P w S φ t s)
    (h : (t.bind fun a => Tree.ret (a, ([] : List Blk))).wp fun r => FreshE φ base r.2.length ∧ ∀ x w' φ', ResPost w S φ base r.1 r.2 x w' φ' → K (a.put o.dst x) w') : o.wp P a w K Q := by
  rw [Tree.wp_bind] at h
  obtain ⟨z, v, hs, hq, hr⟩ := hg _ h
  unfold Oper.wp
  rw [he, Sem.run_bind, hs]
  simp only [Result.andThen_ok, Sem.run_pure, Oper.upon_value]
  exact hq.2 z w φ ⟨Ext.refl _ _ _, hr, fun j blk hj => by simp at hj⟩

/-! ### one new block -/
def updE (φ : Env) (id : Nat) (s : Slot) : Env := fun j => if j = id then some s else φ j

theorem updE_self (φ : Env) (id : Nat) (s : Slot) : updE φ id s id = some s := by simp [updE]
theorem updE_ne (φ : Env) {id j : Nat} (s : Slot) (h : j ≠ id) : updE φ id s j = φ j := by simp [updE, h]

theorem ext_new (o : Obj) (base cap len : Nat) : Ext w φ base 1 (w.alloc o) (updE φ base ⟨true, some w.heap.size, cap, len⟩) := by
  refine ⟨(Below.refl _ _).alloc (Nat.le_refl _) _, fun id h => updE_ne _ _ (by omega), fun id s h1 h2 h3 B hB => ?_, fun id id' s s' B h1 h2 h3 h4 => by omega⟩
  have : id = base := by omega
  subst this
  rw [updE_self] at h3
  cases h3
  cases hB
  simp

theorem alloc_heap (o : Obj) : (w.alloc o).heap[w.heap.size]? = some o := heap_alloc_new w o

/-- A new block of cells. -/
theorem new_cells {base : Nat} (hf : FreshE φ base 1) {cs : List AV} {us : Array Value} (hr : Reps w S φ cs us.toList) (e : TypeId) :
    Ext w φ base 1 (w.alloc (.cells us e)) (updE φ base ⟨true, some w.heap.size, 0, us.size⟩) ∧
    ∀ j blk, [Blk.cells cs][j]? = some blk → ∃ B cap len, updE φ base ⟨true, some w.heap.size, 0, us.size⟩ (base + j) = some ⟨true, B, cap, len⟩ ∧
      BlkRep (w.alloc (.cells us e)) S (updE φ base ⟨true, some w.heap.size, 0, us.size⟩) B cap len blk := by
  have hx := ext_new (w := w) (φ := φ) (.cells us e) base 0 us.size
  refine ⟨hx, fun j blk hj => ?_⟩
  cases j with
  | succ j => simp at hj
  | zero =>
    simp at hj
    subst hj
    exact ⟨_, _, _, updE_self _ _ _, _, us, e, rfl, alloc_heap _, rfl, hr.mono (hx.mono hf)⟩

/-! ### values without references of the call's own -/
theorem enc_pure : ∀ (r : RTy) (x : r.carrier), AV.pureL (r.enc x) = true
  | .int _, _ => rfl
  | .bool, _ => rfl
  | .str, _ => rfl
  | .ints _, _ => rfl
  | .spec, _ => rfl
  | .spr, _ => rfl
  | .fix, _ => rfl
  | .item, _ => rfl
  | .live, _ => rfl
  | .ape, _ => rfl
  | .opt, _ => rfl
  | .task, _ => rfl
  | .aim, _ => rfl
theorem pureL_app : ∀ (as bs : List AV), AV.pureL (as ++ bs) = (AV.pureL as && AV.pureL bs)
  | [], bs => by simp [AV.pureL]
  | a :: as, bs => by simp [AV.pureL, pureL_app as bs, Bool.and_assoc]
theorem flatMap_pure (r : RTy) : ∀ xs : List r.carrier, AV.pureL (xs.flatMap r.enc) = true
  | [] => rfl
  | x :: xs => by simp [List.flatMap_cons, pureL_app, enc_pure, flatMap_pure r xs]

/-- Values without such references mean the same anywhere. -/
theorem pure_reps {S' : Nat → Prop} {φ' : Env} (hst : ∀ B, Stab w S φ B → Stab w S' φ' B) {as : List AV} {vs : List Value} (h : Reps w S φ as vs) (hp : AV.pureL as = true) : Reps w S' φ' as vs := by
  induction h with
  | nil => exact .nil
  | any _ _ ih => exact .any _ (ih (by simpa [AV.pureL, AV.pureV] using hp))
  | lit _ _ _ ih => exact .lit _ _ (ih (by simpa [AV.pureL, AV.pureV] using hp))
  | int _ _ _ ih => exact .int _ _ (ih (by simpa [AV.pureL, AV.pureV] using hp))
  | blit _ _ ih => exact .blit _ (ih (by simpa [AV.pureL, AV.pureV] using hp))
  | bool _ _ ih => exact .bool _ (ih (by simpa [AV.pureL, AV.pureV] using hp))
  | str _ _ ih => exact .str _ (ih (by simpa [AV.pureL, AV.pureV] using hp))
  | nilp _ ih => exact .nilp (ih (by simpa [AV.pureL, AV.pureV] using hp))
  | ptr h _ ih => simp [AV.pureL, AV.pureV] at hp
  | rptr h _ ih => simp [AV.pureL, AV.pureV] at hp
  | pv hs hc _ _ ih1 ih2 =>
    simp only [AV.pureL, AV.pureV, Bool.and_eq_true] at hp
    exact .pv (hst _ hs) hc (ih1 hp.1) (ih2 hp.2)
  | nils _ _ ih => exact .nils _ (ih (by simpa [AV.pureL, AV.pureV] using hp))
  | own h _ ih => simp [AV.pureL, AV.pureV] at hp
  | slc h _ ih => simp [AV.pureL, AV.pureV] at hp
  | view0 _ _ hx _ _ _ ih => exact .view0 _ _ hx _ _ (ih (by simpa [AV.pureL, AV.pureV] using hp))
  | view _ _ _ hc0 hs hc _ _ ih1 ih2 => exact .view _ _ _ hc0 (hst _ hs) hc (ih1 (flatMap_pure _ _)) (ih2 (by simpa [AV.pureL, AV.pureV] using hp))
  | lv0 _ _ _ ih =>
    simp only [AV.pureL, AV.pureV, Bool.and_eq_true] at hp
    exact .lv0 _ _ (ih hp.2)
  | lv _ _ hc0 hs hc _ _ ih1 ih2 =>
    simp only [AV.pureL, AV.pureV, Bool.and_eq_true] at hp
    exact .lv _ _ hc0 (hst _ hs) hc (ih1 hp.1) (ih2 hp.2)
  | fn _ _ _ _ ih1 ih2 ih3 =>
    simp only [AV.pureL, AV.pureV, Bool.and_eq_true] at hp
    exact .fn _ (ih1 hp.1.1) (ih2 hp.1.2) (ih3 hp.2)
  | nilfn _ ih => exact .nilfn (ih (by simpa [AV.pureL, AV.pureV] using hp))
  | iface _ _ _ ih1 ih2 =>
    simp only [AV.pureL, AV.pureV, Bool.and_eq_true] at hp
    exact .iface _ (ih1 (by simp [AV.pureL, hp.1])) (ih2 hp.2)
  | niliface _ ih => exact .niliface (ih (by simpa [AV.pureL, AV.pureV] using hp))
  | map h _ ih => simp [AV.pureL, AV.pureV] at hp
  | nilmap _ ih => exact .nilmap (ih (by simpa [AV.pureL, AV.pureV] using hp))
  | agg _ _ ih1 ih2 =>
    simp only [AV.pureL, AV.pureV, Bool.and_eq_true] at hp
    exact .agg (ih1 hp.1) (ih2 hp.2)
  | tup _ _ ih1 ih2 =>
    simp only [AV.pureL, AV.pureV, Bool.and_eq_true] at hp
    exact .tup (ih1 hp.1) (ih2 hp.2)

/-! ### lowering -/
theorem stab_none {B : Nat} (hs : Stab w S φ B) : Stab w S Env.none B := ⟨hs.1, hs.2.1, fun ⟨_, _, _, h⟩ => by cases h⟩

theorem lower_reps {look : Nat → Option Blk} (HL : HeapRep w S φ look) (hdisj : ∀ B, Own φ B → ¬ S B) : ∀ d,
    (∀ a a' v, lowerV look d a = some a' → Reps w S φ [a] [v] → Reps w S Env.none [a'] [v]) ∧
    (∀ as as' vs, lowerL look d as = some as' → Reps w S φ as vs → Reps w S Env.none as' vs) := by
  have hnone : ∀ B, Stab w S φ B → Stab w S Env.none B := fun B hs => stab_none hs
  have hown : ∀ {b : Nat} {B cap len : Nat}, φ b = some ⟨true, some B, cap, len⟩ → B < w.heap.size → Stab w S Env.none B :=
    fun hb hB => ⟨hB, hdisj _ ⟨_, _, _, hb⟩, fun ⟨_, _, _, h⟩ => by cases h⟩
  have hsize : ∀ {B : Nat} {o : Obj}, w.heap[B]? = some o → B < w.heap.size := by
    intro B o h
    rcases Nat.lt_or_ge B w.heap.size with h' | h'
    · exact h'
    · rw [Array.getElem?_eq_none h'] at h; cases h
  intro d
  induction d with
  | zero => exact ⟨fun a a' v h => by simp [lowerV] at h, fun as as' vs h => by simp [lowerL] at h⟩
  | succ d ih =>
    obtain ⟨ih1, ih2⟩ := ih
    refine ⟨fun a a' v h hr => ?_, fun as as' vs h hr => ?_⟩
    · unfold lowerV at h
      split at h
      · rename_i b
        split at h <;> try (cases h; done)
        rename_i r e xs hl
        cases h
        cases hr with
        | own h =>
          obtain ⟨s, h1, hv⟩ := h
          obtain ⟨B', cap, len, h3, rfl, us, h4, h5, h6⟩ := HL _ _ hl
          rw [h1] at h3
          cases h3
          cases B' with
          | none =>
            obtain ⟨a0, rfl⟩ : ∃ a, v = .slice a 0 0 := hv
            have h7 := h4.2
            rcases h7 with ⟨h7, h8⟩ | ⟨g, c, cur, hv, _⟩
            · have : xs = [] := List.eq_nil_of_length_eq_zero h8
              subst this
              exact .view0 _ _ rfl _ _ .nil
            · simp [baseOf] at hv
          | some B =>
            simp only [Slot.fits] at hv
            subst hv
            obtain ⟨h40, h7⟩ := h4
            have h4' : w.ownsRow 0 e r.size (.slice (baseOf (some B)) xs.length cap) xs.length us := ⟨h40, h7⟩
            rcases h7 with ⟨h7, _⟩ | ⟨g, c, cur, hv, _, hh, h8, _⟩
            · simp [baseOf] at h7
            · simp [baseOf] at hv
              obtain ⟨rfl, rfl⟩ := hv
              exact .view _ _ _ h8 (hown h1 (hsize hh)) (ownsRow_cells h4') (pure_reps hnone h5 (flatMap_pure _ _)) .nil
      · rename_i b off n sz
        split at h <;> try (cases h; done)
        rename_i cs hl
        split at h <;> try (cases h; done)
        rename_i hle
        split at h <;> try (cases h; done)
        rename_i l hll
        cases h
        cases hr with
        | slc h =>
          obtain ⟨s, B, c, h1, h2, h3⟩ := h
          obtain ⟨B', cap, len, h4, B'', us, e, rfl, h5, h6, h7⟩ := HL _ _ hl
          rw [h1] at h4
          cases h4
          cases h2
          rcases h3 with ⟨rfl, a, rfl⟩ | ⟨h3, _, rfl⟩
          · exact .lv0 _ _ .nil
          · exact .lv _ _ h3 (hown h1 (hsize h5)) (by have := ((cellsAt_block h5).drop off).take (n * sz); simpa using this) (ih2 _ _ _ hll ((h7.drop off).take (n * sz))) .nil
      · rename_i b off
        split at h <;> try (cases h; done)
        rename_i cs hl
        split at h <;> try (cases h; done)
        rename_i hle
        split at h <;> try (cases h; done)
        rename_i l hll
        cases h
        cases hr with
        | ptr h =>
          obtain ⟨s, B, h1, h2, rfl⟩ := h
          obtain ⟨B', cap, len, h4, B'', us, e, rfl, h5, h6, h7⟩ := HL _ _ hl
          rw [h1] at h4
          cases h4
          cases h2
          exact .pv (hown h1 (hsize h5)) (by have := (cellsAt_block h5).drop off; simpa using this) (ih2 _ _ _ hll (h7.drop off)) .nil
      · cases h
      · cases h; exact .any _ .nil
      · rename_i cs
        split at h <;> try (cases h; done)
        rename_i l hll
        cases h
        cases hr with
        | pv hs hc hr => exact .pv (hnone _ hs) hc (ih2 _ _ _ hll hr) .nil
      · rename_i n cs
        split at h <;> try (cases h; done)
        rename_i l hll
        cases h
        cases hr with
        | lv0 => exact .lv0 _ _ .nil
        | lv _ _ h0 hs hc hr => exact .lv _ _ h0 (hnone _ hs) hc (ih2 _ _ _ hll hr) .nil
      · split at h <;> try (cases h; done)
        rename_i x y hx hy
        cases h
        cases hr with
        | fn _ h1 h2 => exact .fn _ (ih2 _ _ _ hx h1) (ih2 _ _ _ hy h2) .nil
      · split at h <;> try (cases h; done)
        rename_i x hx
        cases h
        cases hr with
        | iface _ h1 => exact .iface _ (ih1 _ _ _ hx h1) .nil
      · split at h <;> try (cases h; done)
        rename_i l hll
        cases h
        cases hr with
        | agg h1 => exact .agg (ih2 _ _ _ hll h1) .nil
      · split at h <;> try (cases h; done)
        rename_i l hll
        cases h
        cases hr with
        | tup h1 => exact .tup (ih2 _ _ _ hll h1) .nil
      · cases h
        cases a <;> first
          | (cases hr with
             | view0 _ _ hx => exact .view0 _ _ hx _ _ .nil
             | view _ _ _ h0 hs hc hr => exact .view _ _ _ h0 (hnone _ hs) hc (pure_reps hnone hr (flatMap_pure _ _)) .nil)
          | exact pure_reps hnone hr rfl
          | exact (‹∀ (b : Nat) (r : RTy) (i : Int) (off : Nat), AV.rptr _ _ _ _ = AV.rptr b r i off → False› _ _ _ _ rfl).elim
          | exact (‹∀ (b off n sz : Nat), AV.slc _ _ _ _ = AV.slc b off n sz → False› _ _ _ _ rfl).elim
          | simp_all
    · cases as with
      | nil =>
        simp only [lowerL, Option.some.injEq] at h
        subst h
        cases hr.nil_inv
        exact .nil
      | cons a as =>
        simp only [lowerL] at h
        split at h <;> try (cases h; done)
        rename_i x xs hx hxs
        cases h
        obtain ⟨v, vs, rfl, h1, h2⟩ := hr.uncons
        exact (ih1 _ _ _ hx h1).cons (ih2 _ _ _ hxs h2)


/-! ### results, put among what is there -/
theorem enc_free {r : RTy} (h : r.free = true) (x : r.carrier) : AV.viewFreeL (r.enc x) = true := by
  cases r <;> first | (cases h; done) | rfl
theorem viewFreeL_app : ∀ (as bs : List AV), AV.viewFreeL (as ++ bs) = (AV.viewFreeL as && AV.viewFreeL bs)
  | [], bs => by simp [AV.viewFreeL]
  | a :: as, bs => by simp [AV.viewFreeL, viewFreeL_app as bs, Bool.and_assoc]
theorem flatMap_free {r : RTy} (h : r.free = true) : ∀ xs : List r.carrier, AV.viewFreeL (xs.flatMap r.enc) = true
  | [] => rfl
  | x :: xs => by simp [List.flatMap_cons, viewFreeL_app, enc_free h, flatMap_free h xs]

theorem enc_shift (k : Nat) : ∀ (r : RTy) (x : r.carrier), AV.shiftL k (r.enc x) = r.enc x
  | .int _, _ => rfl
  | .bool, _ => rfl
  | .str, _ => rfl
  | .ints _, _ => rfl
  | .spec, _ => rfl
  | .spr, _ => rfl
  | .fix, _ => rfl
  | .item, _ => rfl
  | .live, _ => rfl
  | .ape, _ => rfl
  | .opt, _ => rfl
  | .task, _ => rfl
  | .aim, _ => rfl
theorem shiftL_app (k : Nat) : ∀ (as bs : List AV), AV.shiftL k (as ++ bs) = AV.shiftL k as ++ AV.shiftL k bs
  | [], bs => by simp [AV.shiftL]
  | a :: as, bs => by simp [AV.shiftL, shiftL_app k as bs]
theorem flatMap_shift (k : Nat) (r : RTy) : ∀ xs : List r.carrier, AV.shiftL k (xs.flatMap r.enc) = xs.flatMap r.enc
  | [] => rfl
  | x :: xs => by simp [List.flatMap_cons, shiftL_app, enc_shift, flatMap_shift k r xs]

theorem shift_reps {w' : World} {S' : Nat → Prop} {ψ φ'' : Env} {base : Nat} (hd : ∀ id s, ψ id = some s → φ'' (base + id) = some s) {as : List AV} {vs : List Value} (h : Reps w' S' ψ as vs)
    (hv : AV.viewFreeL as = true ∨ ∀ B, Stab w' S' ψ B → Stab w' S φ'' B) : Reps w' S φ'' (AV.shiftL base as) vs := by
  have sub : ∀ {x : AV} {l : List AV}, (AV.viewFreeL (x :: l) = true ∨ ∀ B, Stab w' S' ψ B → Stab w' S φ'' B) → (AV.viewFreeL l = true ∨ ∀ B, Stab w' S' ψ B → Stab w' S φ'' B) := by
    intro x l h
    rcases h with h | h
    · simp only [AV.viewFreeL, Bool.and_eq_true] at h; exact .inl h.2
    · exact .inr h
  induction h with
  | nil => exact .nil
  | any _ _ ih => exact .any _ (ih (sub hv))
  | lit _ _ _ ih => exact .lit _ _ (ih (sub hv))
  | int _ _ _ ih => exact .int _ _ (ih (sub hv))
  | blit _ _ ih => exact .blit _ (ih (sub hv))
  | bool _ _ ih => exact .bool _ (ih (sub hv))
  | str _ _ ih => exact .str _ (ih (sub hv))
  | nilp _ ih => exact .nilp (ih (sub hv))
  | ptr h _ ih => obtain ⟨s, B, h1, h2⟩ := h; exact .ptr ⟨s, B, hd _ _ h1, h2⟩ (ih (sub hv))
  | rptr h _ ih => obtain ⟨s, B, h1, h2⟩ := h; exact .rptr ⟨s, B, hd _ _ h1, h2⟩ (ih (sub hv))
  | pv hs hc _ _ ih1 ih2 =>
    rcases hv with hv | hv
    · simp [AV.viewFreeL, AV.viewFree] at hv
    · exact .pv (hv _ hs) hc (ih1 (.inr hv)) (ih2 (.inr hv))
  | nils _ _ ih => exact .nils _ (ih (sub hv))
  | own h _ ih => obtain ⟨s, h1, h2⟩ := h; exact .own ⟨s, hd _ _ h1, h2⟩ (ih (sub hv))
  | slc h _ ih => obtain ⟨s, B, c, h1, h2⟩ := h; exact .slc ⟨s, B, c, hd _ _ h1, h2⟩ (ih (sub hv))
  | view0 _ _ hx _ _ _ ih => exact .view0 _ _ hx _ _ (ih (sub hv))
  | view r xs _ hc0 hs hc _ _ ih1 ih2 =>
    rcases hv with hv | hv
    · simp [AV.viewFreeL, AV.viewFree] at hv
    · have := ih1 (.inr hv)
      rw [flatMap_shift] at this
      exact .view _ _ _ hc0 (hv _ hs) hc this (ih2 (.inr hv))
  | lv0 _ _ _ ih => exact .lv0 _ _ (ih (sub hv))
  | lv _ _ hc0 hs hc _ _ ih1 ih2 =>
    rcases hv with hv | hv
    · simp [AV.viewFreeL, AV.viewFree] at hv
    · exact .lv _ _ hc0 (hv _ hs) hc (ih1 (.inr hv)) (ih2 (.inr hv))
  | fn _ _ _ _ ih1 ih2 ih3 =>
    refine .fn _ (ih1 ?_) (ih2 ?_) (ih3 (sub hv))
    · rcases hv with hv | hv
      · simp only [AV.viewFreeL, AV.viewFree, Bool.and_eq_true] at hv; exact .inl hv.1.1
      · exact .inr hv
    · rcases hv with hv | hv
      · simp only [AV.viewFreeL, AV.viewFree, Bool.and_eq_true] at hv; exact .inl hv.1.2
      · exact .inr hv
  | nilfn _ ih => exact .nilfn (ih (sub hv))
  | iface _ _ _ ih1 ih2 =>
    refine .iface _ (ih1 ?_) (ih2 (sub hv))
    rcases hv with hv | hv
    · simp only [AV.viewFreeL, AV.viewFree, Bool.and_eq_true] at hv; exact .inl (by simp [AV.viewFreeL, hv.1])
    · exact .inr hv
  | niliface _ ih => exact .niliface (ih (sub hv))
  | map h _ ih => obtain ⟨s, B, h1, h2⟩ := h; exact .map ⟨s, B, hd _ _ h1, h2⟩ (ih (sub hv))
  | nilmap _ ih => exact .nilmap (ih (sub hv))
  | agg _ _ ih1 ih2 =>
    refine .agg (ih1 ?_) (ih2 (sub hv))
    rcases hv with hv | hv
    · simp only [AV.viewFreeL, AV.viewFree, Bool.and_eq_true] at hv; exact .inl hv.1
    · exact .inr hv
  | tup _ _ ih1 ih2 =>
    refine .tup (ih1 ?_) (ih2 (sub hv))
    rcases hv with hv | hv
    · simp only [AV.viewFreeL, AV.viewFree, Bool.and_eq_true] at hv; exact .inl hv.1
    · exact .inr hv

theorem shift_blk {w' : World} {S' : Nat → Prop} {ψ φ'' : Env} {base : Nat} (hd : ∀ id s, ψ id = some s → φ'' (base + id) = some s) {B : Option Nat} {cap len : Nat} {blk : Blk} (h : BlkRep w' S' ψ B cap len blk)
    (hv : blkFree blk = true ∨ ∀ B, Stab w' S' ψ B → Stab w' S φ'' B) : BlkRep w' S φ'' B cap len (blk.shift base) := by
  cases blk with
  | cells cs =>
    obtain ⟨B', us, e, rfl, h1, h2, h3⟩ := h
    exact ⟨B', us, e, rfl, h1, h2, shift_reps hd h3 (hv.imp (fun h => h) id)⟩
  | rows r e xs =>
    obtain ⟨h1, us, h2, h3, h4⟩ := h
    have := shift_reps (S := S) hd h3 (hv.imp (fun h => flatMap_free h xs) id)
    rw [flatMap_shift] at this
    exact ⟨h1, us, h2, this, h4⟩
  | imap r es =>
    obtain ⟨B', ms, clock, rfl, h1, h2⟩ := h
    refine ⟨B', ms, clock, rfl, h1, ?_⟩
    have key : ∀ {es : List (Int × r.carrier)} {ms : List MapEntry}, IMapRep w' S' ψ r es ms → IMapRep w' S φ'' r es ms := by
      intro es
      induction es with
      | nil => intro ms h; cases ms <;> exact h
      | cons p es ih =>
        intro ms h
        obtain ⟨k, x⟩ := p
        cases ms with
        | nil => exact h
        | cons m ms =>
          obtain ⟨h1, h2, h3⟩ := h
          refine ⟨h1, ?_, ih h3⟩
          have he : ∀ {us : List Value}, Reps w' S' ψ (r.enc x) us → Reps w' S φ'' (r.enc x) us := by
            intro us h
            have := shift_reps (S := S) hd h (hv.imp (fun h => enc_free h x) id)
            rwa [enc_shift] at this
          unfold ValRep at h2 ⊢
          split at h2
          · obtain ⟨us, hu, hr⟩ := h2; exact ⟨us, hu, he hr⟩
          · exact ⟨he h2.1, h2.2⟩
    exact key h2
  | lmap es =>
    obtain ⟨B', ms, clock, rfl, h1, h2⟩ := h
    refine ⟨B', ms, clock, rfl, h1, ?_⟩
    have hst : ∀ B, Stab w' S' ψ B → Stab w' S φ'' B := hv.resolve_left (by simp [blkFree])
    have key : ∀ {es : List (AV × AV)} {ms : List MapEntry}, LMapRep w' S' ψ es ms → LMapRep w' S φ'' (es.map fun (a, b) => (a.shift base, b.shift base)) ms := by
      intro es
      induction es with
      | nil => intro ms h; cases ms <;> exact h
      | cons p es ih =>
        intro ms h
        obtain ⟨k, x⟩ := p
        cases ms with
        | nil => exact h
        | cons m ms =>
          obtain ⟨⟨j, rfl, h1⟩, h2, h3⟩ := h
          refine ⟨⟨j, rfl, h1⟩, ?_, ih h3⟩
          have := shift_reps (S := S) hd h2 (.inr hst)
          simpa [AV.shiftL] using this
    exact key h2

/-- The environment with what a contract made. -/
def joinE (φ : Env) (base n : Nat) (ψ : Env) : Env := fun id => if base ≤ id ∧ id < base + n then ψ (id - base) else φ id

theorem post_join {S' : Nat → Prop} {base : Nat} {v : AV} {bs : List Blk} {x : Value} {w' : World} {ψ : Env} (h : ResPost w S' Env.none 0 v bs x w' ψ)
    (hv : (v.viewFree = true ∧ bs.all blkFree = true) ∨ (∀ B, S' B ↔ (S B ∨ Own φ B))) :
    ResPost w S φ base (v.shift base) (bs.map (Blk.shift base)) x w' (joinE φ base bs.length ψ) := by
  have hdom : ∀ id s, ψ id = some s → id < bs.length := by
    intro id s hs
    rcases Nat.lt_or_ge id bs.length with h' | h'
    · exact h'
    · rw [h.ext.same id (by omega)] at hs; cases hs
  have hd : ∀ id s, ψ id = some s → joinE φ base bs.length ψ (base + id) = some s := by
    intro id s hs
    have := hdom id s hs
    simp [joinE, this, hs]
  have hst : (∀ B, S' B ↔ (S B ∨ Own φ B)) → ∀ B, Stab w' S' ψ B → Stab w' S (joinE φ base bs.length ψ) B := by
    intro hS B hB
    refine ⟨hB.1, fun hs => hB.2.1 ((hS B).2 (.inl hs)), ?_⟩
    rintro ⟨id, cap, len, hid⟩
    unfold joinE at hid
    split at hid
    · exact hB.2.2 ⟨_, _, _, hid⟩
    · exact hB.2.1 ((hS B).2 (.inr ⟨_, _, _, hid⟩))
  have hlen : (bs.map (Blk.shift base)).length = bs.length := by simp
  refine ⟨?_, ?_, ?_⟩
  · rw [hlen]
    refine ⟨h.ext.below, fun id hn => by simp [joinE, hn], fun id s h1 h2 h3 B hB => ?_, fun id id' s s' B h1 h2 h3 h4 h5 h6 h7 h8 h9 h10 => ?_⟩
    · simp only [joinE, h1, h2, and_self, if_true] at h3
      exact h.ext.new (id - base) s (by omega) (by omega) h3 B hB
    · simp only [joinE, h1, h2, h3, h4, and_self, if_true] at h5 h6
      have := h.ext.inj (id - base) (id' - base) s s' B (by omega) (by omega) (by omega) (by omega) h5 h6 h7 h8 h9 h10
      omega
  · have := shift_reps (S := S) hd h.val (hv.imp (fun h => by simp [AV.viewFreeL, h.1]) hst)
    simpa [AV.shiftL] using this
  · intro j blk hj
    rw [List.getElem?_map] at hj
    cases hb : bs[j]? with
    | none => simp [hb] at hj
    | some b =>
      simp [hb] at hj
      subst hj
      obtain ⟨B, cap, len, h1, h2⟩ := h.blks j b hb
      rw [Nat.zero_add] at h1
      refine ⟨B, cap, len, hd _ _ h1, shift_blk hd h2 (hv.imp (fun h => ?_) hst)⟩
      exact List.all_eq_true.1 h.2 b (List.mem_of_getElem? hb)

end

/-! ### contracts -/
/-- A function that can be entered. -/
def Enters (P : Program) (g : Nat) : Prop := ∃ fn, P.funcs[g]? = some fn ∧ (fn.name == "runtime.NumGoroutine") = false ∧ fn.body.isNone = false
/-- A contract that holds. -/
def ValidCon (P : Program) (g : Nat) (c : Con) : Prop :=
  Enters P g ∧ ∀ args r, (c args).Out r → ∀ w S vals, (∀ B, S B → B < w.heap.size) → Reps w S Env.none args vals →
    Calls P g vals.toArray w fun e w' => ∃ x ψ, e = .returned x ∧ ResPost w S Env.none 0 r.1 r.2 x w' ψ
def ValidPcon (P : Program) (g : Nat) (f : List AV → Option AV) : Prop :=
  Enters P g ∧ ∀ args r, f args = some r → ∀ w S φ vals, Reps w S φ args vals →
    Calls P g vals.toArray w fun e w' => ∃ x, e = .returned x ∧ Below w.heap.size w w' ∧ Reps w' S φ [r] [x]

theorem findCon_mem : ∀ {l : List (Nat × Con)} {g : Nat} {c : Con}, findCon l g = some c → (g, c) ∈ l
  | [], _, _, h => by cases h
  | (b, x) :: l, g, c, h => by
    unfold findCon at h
    cases hb : Nat.beq b g with
    | true =>
      rw [hb] at h
      cases h
      have : b = g := by simpa using hb
      subst this
      simp
    | false =>
      rw [hb] at h
      exact List.mem_cons_of_mem _ (findCon_mem h)
theorem findPcon_mem : ∀ {l : List (Nat × (List AV → Option AV))} {g : Nat} {c : List AV → Option AV}, findPcon l g = some c → (g, c) ∈ l
  | [], _, _, h => by cases h
  | (b, x) :: l, g, c, h => by
    unfold findPcon at h
    cases hb : Nat.beq b g with
    | true =>
      rw [hb] at h
      cases h
      have : b = g := by simpa using hb
      subst this
      simp
    | false =>
      rw [hb] at h
      exact List.mem_cons_of_mem _ (findPcon_mem h)

theorem callFunc_run {P : Program} {w : World} {g : Nat} (h : Enters P g) (args : Array Value) : (callFunc g args).run P w = .ok (.enter g args) w := by
  obtain ⟨fn, h1, h2, h3⟩ := h
  have h2' : ¬ fn.name = "runtime.NumGoroutine" := by simpa using h2
  have h3' : ¬ fn.body = none := by intro e; rw [e] at h3; cases h3
  simp [callFunc, h1, h2', h3']

/-- Whom a call enters, and with what. -/
theorem callTo_run {P : Program} {w : World} {S : Nat → Prop} {φ : Env} {ρ : Operand → AV} {a : Act} {o : Oper} {c : Call} (ho : o.op = .call c) (hops : ∀ x ∈ o.op.operands, Reps w S φ [ρ x] [a.eval x])
    {g : Nat} {args : List AV} (h : callTo P ρ c = some (g, args)) (hg : Enters P g) :
    ∃ vals, (execOp a.eval o).run P w = .ok (.enter g vals.toArray) w ∧ Reps w S φ args vals := by
  have hargs : Reps w S φ (c.args.toList.map ρ) (c.args.toList.map a.eval) := by
    have : ∀ x ∈ c.args.toList, Reps w S φ [ρ x] [a.eval x] := fun x hx => hops x (by simp [ho, Op.operands, Call.operands, Array.mem_toList_iff.1 hx])
    revert this
    generalize c.args.toList = l
    intro this
    induction l with
    | nil => exact .nil
    | cons x l ih => exact (this x (by simp)).cons (ih fun y hy => this y (by simp [hy]))
  unfold callTo at h
  split at h
  · rename_i f hc
    have hf : Reps w S φ [ρ f] [a.eval f] := hops f (by simp [ho, Op.operands, Call.operands, hc])
    split at h
    · rename_i g' first captured hρ
      cases h
      rw [hρ] at hf
      generalize hv : a.eval f = fv at hf
      cases hf with
      | fn _ h1 h2 =>
        rename_i u1 u2 _
        refine ⟨u1 ++ c.args.toList.map a.eval ++ u2, ?_, (h1.app hargs).app h2⟩
        have e : (u1.toArray ++ c.args.map a.eval) ++ u2.toArray = (u1 ++ c.args.toList.map a.eval ++ u2).toArray := by
          apply Array.ext'
          simp
        simp only [execOp, ho, Sem.run_bind, resolve, hc, hv, Deferred.ofValue, Sem.run_pure, Result.andThen_ok, invoke]
        rw [e, callFunc_run hg]
    · rename_i t path g' pointer first captured hρ
      split at h
      · rename_i hpath
        split at h <;> try (cases h; done)
        rename_i x rest hx
        split at h <;> try (cases h; done)
        rename_i x' hx'
        cases h
        rw [hρ] at hf
        generalize hv : a.eval f = fv at hf
        cases hf with
        | fn _ h1 h2 =>
          rename_i u1 u2 _
          have h3 := h1.app hargs
          rw [hx] at h3
          obtain ⟨xv, restv, e, h4, h5⟩ := h3.uncons
          have ex : x' = x := by
            unfold recvAt at hx'
            split at hx' <;> first | (cases hx'; rfl) | cases hx'
          subst ex
          refine ⟨xv :: restv, ?_, h4.cons h5⟩
          have e' : u1.toArray ++ c.args.map a.eval = (xv :: restv).toArray := by
            rw [← e]
            apply Array.ext'
            simp
          have hpath' : path.toList = [] := by
            have : path = #[] := by simpa using hpath
            simp [this]
          have hrecv : (receiverVia t xv path pointer).run P w = .ok xv w := by
            unfold recvAt at hx'
            split at hx' <;> try (cases hx'; done)
            · rename_i e1 hu
              simp [receiverVia, hpath', follow, receiverAt, und_run hu, Place.get]
            · rename_i d _ hnp hu
              cases d <;> first
                | (exact absurd rfl (hnp _))
                | simp [receiverVia, hpath', follow, receiverAt, und_run hu, Place.get]
          simp only [execOp, ho, Sem.run_bind, resolve, hc, hv, Deferred.ofValue, Sem.run_pure, Result.andThen_ok, invoke]
          rw [e']
          simp [hrecv, callFunc_run hg]
      · cases h
    · cases h
  · rename_i recv name hc
    have hf : Reps w S φ [ρ recv] [a.eval recv] := hops recv (by simp [ho, Op.operands, Call.operands, hc])
    split at h
    · rename_i t v hρ
      split at h <;> try (cases h; done)
      rename_i i hi
      split at h <;> try (cases h; done)
      rename_i m hm
      split at h <;> try (cases h; done)
      rename_i g' pointer hmf
      split at h <;> try (cases h; done)
      rename_i hpath
      split at h <;> try (cases h; done)
      rename_i x hx
      cases h
      rw [hρ] at hf
      generalize hv : a.eval recv = fv at hf
      cases hf with
      | iface _ h1 =>
        rename_i xv _
        have ex : x = v := by
          unfold recvAt at hx
          split at hx <;> first | (cases hx; rfl) | cases hx
        subst ex
        refine ⟨xv :: c.args.toList.map a.eval, ?_, h1.cons hargs⟩
        have hpath' : m.path.toList = [] := by
          have : m.path = #[] := by simpa using hpath
          simp [this]
        have hrecv : ∀ wr, (receiverAt t (.val xv) pointer wr).run P w = .ok xv w := by
          intro wr
          unfold recvAt at hx
          split at hx <;> try (cases hx; done)
          · rename_i e1 hu
            simp [receiverAt, und_run hu, Place.get]
          · rename_i d _ hnp hu
            cases d <;> first
              | (exact absurd rfl (hnp _))
              | simp [receiverAt, und_run hu, Place.get]
        have hmeth : (method (P.types.size + Made.depth) t xv name).run P w = .ok (g, xv) w := by
          obtain ⟨n, hn⟩ : ∃ n, P.types.size + Made.depth = n + 1 := ⟨P.types.size + 99, by simp [Made.depth]⟩
          rw [hn]
          simp [method, info_run hi, hm, hpath', follow, hmf, hrecv]
        have e' : #[xv] ++ c.args.map a.eval = (xv :: c.args.toList.map a.eval).toArray := by
          apply Array.ext'
          simp
        have e0 : (#[Value.iface t xv] ++ c.args.map a.eval)[0]? = some (.iface t xv) := by rw [Array.getElem?_append_left (by simp)]; rfl
        have e1 : (#[Value.iface t xv] ++ c.args.map a.eval).extract 1 (#[Value.iface t xv] ++ c.args.map a.eval).size = c.args.map a.eval := by
          apply Array.ext'
          simp
          rw [List.take_of_length_le (by simp)]
        simp only [execOp, ho, Sem.run_bind, resolve, hc, hv, Sem.run_pure, Result.andThen_ok, invoke, e0, e1]
        simp only [callMethod, Sem.run_bind, run_program, Result.andThen_ok, hmeth]
        rw [e', callFunc_run hg]
    · cases h
  · cases h

end Go.Fx
