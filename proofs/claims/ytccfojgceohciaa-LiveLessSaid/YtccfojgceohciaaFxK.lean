/- What is there is changed: append. -/
import Derived.Test.YtccfojgceohciaaFxJ
import Derived.Laws.AppendOwn
namespace Go.Fx
open Go Go.RowKit

/-! ### a block that takes another one's place -/
def killO (φ : Env) : Option Nat → Env
  | none => φ
  | some b => fun j => if j = b then (φ b).map Slot.kill else φ j
def movedE (φ : Env) (k : Option Nat) (g : Nat) (s : Slot) : Env := updE (killO φ k) g s

structure Moved (w w' : World) (φ : Env) (k Bn : Option Nat) : Prop where
  os : w'.os = w.os
  tape : w'.tape = w.tape
  output : w'.output = w.output
  size : w.heap.size ≤ w'.heap.size
  same : ∀ j, j < w.heap.size → Bn ≠ some j → w'.heap[j]? = w.heap[j]?
  at_ : ∀ B, Bn = some B → B < w'.heap.size ∧ (w.heap.size ≤ B ∨ ∃ b cap len, k = some b ∧ φ b = some ⟨true, some B, cap, len⟩)

section
variable {P : Program} {w0 w w' : World} {S : Nat → Prop} {φ : Env} {h : Heap} {k Bn : Option Nat} {g cap len : Nat}

theorem killO_own {id B c n : Nat} (hid : killO φ k id = some ⟨true, some B, c, n⟩) : φ id = some ⟨true, some B, c, n⟩ ∧ k ≠ some id := by
  unfold killO at hid
  split at hid
  · exact ⟨hid, by simp⟩
  · rename_i b
    split at hid
    · rename_i e
      cases hb : φ b with
      | none => simp [hb] at hid
      | some s => simp [hb, Slot.kill] at hid
    · rename_i e
      exact ⟨hid, by simpa using fun e' => e e'.symm⟩
theorem killO_dom {id : Nat} {s : Slot} (hid : φ id = some s) : killO φ k id = some s ∨ killO φ k id = some s.kill := by
  unfold killO
  split
  · exact .inl hid
  · rename_i b
    split
    · rename_i e; subst e; right; simp [hid]
    · exact .inl hid
theorem killO_none {id : Nat} (hid : φ id = none) : killO φ k id = none := by
  unfold killO
  split
  · exact hid
  · rename_i b
    split
    · rename_i e; subst e; simp [hid]
    · exact hid

theorem movedE_own {id B c n : Nat} {s : Slot} (hid : movedE φ k g s id = some ⟨true, some B, c, n⟩) : (id = g ∧ s = ⟨true, some B, c, n⟩) ∨ (φ id = some ⟨true, some B, c, n⟩ ∧ k ≠ some id ∧ id ≠ g) := by
  unfold movedE updE at hid
  split at hid
  · rename_i e; exact .inl ⟨e, by simpa using hid⟩
  · rename_i e
    obtain ⟨h1, h2⟩ := killO_own hid
    exact .inr ⟨h1, h2, e⟩

theorem Moved.mono (m : Moved w w' φ k Bn) (hg : φ g = none) : Mono w S φ w' S (movedE φ k g ⟨true, Bn, cap, len⟩) := by
  refine ⟨fun b s hb => ?_, fun B hB => ?_⟩
  · have hne : b ≠ g := fun e => by subst e; rw [hg] at hb; cases hb
    unfold movedE
    rw [updE_ne _ _ hne]
    exact killO_dom hb
  · have hne : Bn ≠ some B := by
      intro e
      rcases (m.at_ B e).2 with h1 | ⟨b, c, l, _, h1⟩
      · have := hB.1; omega
      · exact hB.2.2 ⟨_, _, _, h1⟩
    refine ⟨⟨Nat.lt_of_lt_of_le hB.1 m.size, hB.2.1, ?_⟩, m.same B hB.1 hne⟩
    rintro ⟨id, c, l, hid⟩
    rcases movedE_own hid with ⟨_, h1⟩ | ⟨h1, _⟩
    · simp at h1; exact hne h1.1
    · exact hB.2.2 ⟨_, _, _, h1⟩

theorem Moved.rep (R : RepH w0 S φ h w) (m : Moved w w' φ k Bn) (hg : φ g = none) {blk : Blk} (hblk : BlkRep w' S (movedE φ k g ⟨true, Bn, cap, len⟩) Bn cap len blk) :
    RepH w0 S (movedE φ k g ⟨true, Bn, cap, len⟩) ((delOpt h k).ins g blk) w' := by
  have mo : Mono w S φ w' S (movedE φ k g ⟨true, Bn, cap, len⟩) := m.mono hg
  have hgn : (delOpt h k).get g = none := by
    have h1 : h.get g = none := by
      cases hgg : h.get g with
      | none => rfl
      | some b => obtain ⟨_, _, _, h2, _⟩ := R.heap _ _ hgg; rw [hg] at h2; cases h2
    cases k with
    | none => exact h1
    | some b => simp [delOpt, Heap.get_del, h1]
  have hsame : ∀ {id B c l : Nat}, φ id = some ⟨true, some B, c, l⟩ → k ≠ some id → Bn ≠ some B := by
    intro id B c l h1 h2 e
    rcases (m.at_ B e).2 with h3 | ⟨b, c', l', h3, h4⟩
    · have := R.get_lt h1; omega
    · have := R.inj _ _ _ _ _ _ _ h1 h4
      subst this
      exact h2 h3
  refine ⟨?_, ?_, ?_, ?_, R.sb⟩
  · intro id b hb
    rw [Heap.get_ins blk id hgn] at hb
    split at hb
    · rename_i e
      subst e
      cases hb
      exact ⟨_, _, _, updE_self _ _ _, hblk⟩
    · rename_i hne
      have hb' : h.get id = some b ∧ k ≠ some id := by
        cases k with
        | none => exact ⟨hb, by simp⟩
        | some b' =>
          simp only [delOpt, Heap.get_del] at hb
          split at hb
          · cases hb
          · rename_i e; exact ⟨hb, by simpa using fun e' => e e'.symm⟩
      obtain ⟨B, c, l, h1, h2⟩ := R.heap _ _ hb'.1
      refine ⟨B, c, l, ?_, h2.mono mo fun j hj => ?_⟩
      · unfold movedE
        rw [updE_ne _ _ hne]
        unfold killO
        split
        · exact h1
        · rename_i b' 
          have : id ≠ b' := by simpa using fun e' => hb'.2 (by rw [e'])
          simp [this, h1]
      · subst hj
        exact m.same j (R.get_lt h1) (hsame h1 hb'.2)
  · intro b b' B c n c' n' h1 h2
    rcases movedE_own h1 with ⟨e1, h3⟩ | ⟨h3, h4, _⟩ <;> rcases movedE_own h2 with ⟨e2, h5⟩ | ⟨h5, h6, _⟩
    · rw [e1, e2]
    · simp at h3; exact absurd h3.1 (hsame h5 h6)
    · simp at h5; exact absurd h5.1 (hsame h3 h4)
    · exact R.inj _ _ _ _ _ _ _ h3 h5
  · rintro B ⟨id, c, l, hid⟩
    rcases movedE_own hid with ⟨e1, h3⟩ | ⟨h3, h4, _⟩
    · simp at h3
      have h5 := m.at_ B h3.1
      refine ⟨?_, h5.1⟩
      rcases h5.2 with h6 | ⟨b, c', l', _, h6⟩
      · exact Nat.le_trans R.below.size h6
      · exact (R.rng B ⟨_, _, _, h6⟩).1
    · have := R.rng B ⟨_, _, _, h3⟩
      exact ⟨this.1, Nat.lt_of_lt_of_le this.2 m.size⟩
  · refine R.below.trans ⟨m.os, m.tape, m.output, m.size, fun j hj => m.same j (Nat.lt_of_lt_of_le hj R.below.size) fun e => ?_⟩
    rcases (m.at_ j e).2 with h6 | ⟨b, c', l', _, h6⟩
    · have := R.below.size; omega
    · have := (R.rng j ⟨_, _, _, h6⟩).1; omega

/-! ### what is appended -/
theorem enc_one (r : RTy) (x : r.carrier) : allOne (r.enc x) = true := by cases r <;> rfl
theorem allOne_app : ∀ as bs : List AV, allOne (as ++ bs) = (allOne as && allOne bs)
  | [], bs => by simp [allOne]
  | a :: as, bs => by simp [allOne, allOne_app as bs, Bool.and_assoc]
theorem flatMap_one (r : RTy) : ∀ xs : List r.carrier, allOne (xs.flatMap r.enc) = true
  | [] => rfl
  | x :: xs => by simp [List.flatMap_cons, allOne_app, enc_one, flatMap_one r xs]

theorem src_run {look : Nat → Option Blk} (HL : HeapRep w S φ look) {r : RTy} {x : AV} {ys : List r.carrier} {xv : Value} (h : srcRows look r x = some ys) (hx : Reps w S φ [x] [xv]) :
    (ys = [] ∧ ∃ a c, xv = .slice a 0 c) ∨ ∃ B o c us, xv = .slice (some ⟨B, o, none⟩) ys.length c ∧ cellsAt w B o us ∧ Reps w S φ (ys.flatMap r.enc) us := by
  have hview : ∀ {v : AV} {xs : List r.carrier}, castView r v = some xs → Reps w S φ [v] [xv] → (xs = [] ∧ ∃ a c, xv = .slice a 0 c) ∨ ∃ B o c us, xv = .slice (some ⟨B, o, none⟩) xs.length c ∧ cellsAt w B o us ∧ Reps w S φ (xs.flatMap r.enc) us := by
    intro v xs h hr
    unfold castView at h
    split at h
    · obtain ⟨rfl, rfl⟩ := castL_inv h
      cases hr with
      | view0 _ _ hx0 a c => exact .inl ⟨hx0, a, c, rfl⟩
      | view _ _ c _ hs hc hr => exact .inr ⟨_, _, c, _, rfl, hc, hr⟩
    · cases h
      cases hr with
      | nils a => exact .inl ⟨rfl, a, 0, rfl⟩
    · cases h
  unfold srcRows at h
  split at h
  · rename_i b
    split at h
    · rename_i r' e xs hl
      obtain ⟨rfl, rfl⟩ := castL_inv h
      cases hx with
      | own hx =>
        obtain ⟨s, h1, h2⟩ := hx
        obtain ⟨B', cap, len, h3, rfl, us, h4, h5, h6⟩ := HL _ _ hl
        rw [h1] at h3
        cases h3
        cases B' with
        | none =>
          obtain ⟨a0, rfl⟩ : ∃ a, xv = .slice a 0 0 := h2
          rcases h4.2 with ⟨h7, h8⟩ | ⟨g, c, cur, hv, _⟩
          · exact .inl ⟨List.eq_nil_of_length_eq_zero h8, a0, 0, rfl⟩
          · simp [baseOf] at hv
        | some B =>
          simp only [Slot.fits] at h2
          subst h2
          exact .inr ⟨B, 0, cap, us, rfl, ownsRow_cells h4, h5⟩
    · cases h
  · rename_i b off n sz
    split at h
    · rename_i cs hl
      split at h
      · rename_i hc
        obtain ⟨rfl, hle⟩ := hc
        cases hx with
        | slc hx =>
          obtain ⟨s, B, c, h1, h2, h3⟩ := hx
          obtain ⟨B', cap, len, h4, B'', us, e, rfl, h5, h6, h7⟩ := HL _ _ hl
          rw [h1] at h4
          cases h4
          cases h2
          obtain ⟨h8, h9⟩ := decRows_reps h ((h7.drop off).take (n * r.size))
          subst h8
          rcases h3 with ⟨h3, a, rfl⟩ | ⟨h3, _, rfl⟩
          · exact .inl ⟨List.eq_nil_of_length_eq_zero h3, a, c, rfl⟩
          · exact .inr ⟨B, off, c, _, rfl, by have := ((cellsAt_block h5).drop off).take (ys.length * r.size); simpa using this, h9⟩
      · cases h
    · cases h
  · rename_i v _ _
    unfold AV.asView at h
    split at h
    · rename_i n cs
      cases hx with
      | lv0 a c =>
        unfold decRows at h
        split at h
        · cases h; exact .inl ⟨rfl, a, c, rfl⟩
        · cases h
      | lv n' c _ hs hc hr =>
        obtain ⟨h8, h9⟩ := decRows_reps h hr
        subst h8
        exact .inr ⟨_, _, c, _, rfl, hc, h9⟩
    · exact hview h hx

theorem append_nothing {t ty e : TypeId} {i : TypeInfo} (ht : P.underlying t = some (.slice e)) (hi : P.info? e = some i) (a a' : Option Addr) (n c c' : Nat) (hle : n ≤ c) :
    (Builtin.append_ #[t, t] ty #[.slice a n c, .slice a' 0 c']).run P w = .ok (.slice a n c) w := by
  have e1 : (Builtin.firstCells i.size 0 (.slice a' 0 c')).run P w = .ok #[] w := by
    cases a' <;> simp [Builtin.firstCells, loadCells, loadCellsFrom]
  cases a <;> simp [Builtin.append_, run_underlying ht, sizeOf, typeInfo, hi, Builtin.lenOf, hle, e1, storeCells]


/-- What an append leaves. -/
structure AppPost (w : World) (S : Nat → Prop) (φ : Env) (k : Option Nat) (g : Nat) (blk : Blk) (x : Value) (w' : World) (Bn : Option Nat) (cap len : Nat) : Prop where
  moved : Moved w w' φ k Bn
  fits : Slot.fits ⟨true, Bn, cap, len⟩ x
  blk : BlkRep w' S (movedE φ k g ⟨true, Bn, cap, len⟩) Bn cap len blk

theorem grown_post {r : RTy} {e : TypeId} (hg : φ g = none) {xs : List r.carrier} {us : List Value} (hu : Reps w S φ (xs.flatMap r.enc) us)
    {z : Value} (hzs : z.cells.size = r.size) {cap : Nat} (hc : xs.length ≤ cap) (hcm : cap ≤ maxLen) :
    AppPost w S φ k g (.rows r e xs) (.slice (some ⟨w.heap.size, 0, none⟩) xs.length cap) (w.drew.alloc (.cells (us.toArray ++ Builtin.zeroCells z.cells (cap - xs.length)) e)) (some w.heap.size) cap xs.length := by
  have m : Moved w (w.drew.alloc (.cells (us.toArray ++ Builtin.zeroCells z.cells (cap - xs.length)) e)) φ k (some w.heap.size) := by
    refine ⟨rfl, rfl, rfl, by simp, fun j hj _ => heap_alloc_old w.drew _ (r := j) hj, fun B hB => ?_⟩
    cases hB
    exact ⟨by simp, .inl (Nat.le_refl _)⟩
  have hul : us.length = xs.length * r.size := by rw [← hu.len, flatMap_len]
  refine ⟨m, rfl, rfl, us, ⟨hul, .inr ⟨w.heap.size, cap, _, rfl, Nat.zero_le _, heap_alloc_new w.drew _, hc, hcm, ?_, ?_⟩⟩, hu.mono (m.mono hg), allOne_reps hu (flatMap_one r xs)⟩
  · simp only [Array.size_append, List.size_toArray, size_zeroCells, hzs, hul, ← Nat.add_mul]
    congr 1
    omega
  · simp only [Array.toList_append]
    rw [← hul]
    exact List.take_left

/-- What is known of a slice's elements' type. -/
structure ElemOK (P : Program) (t e : TypeId) (r : RTy) (inf : TypeInfo) (zv : Value) : Prop where
  und : P.underlying t = some (.slice e)
  info : P.info? e = some inf
  zero : inf.zero = some zv
  size : inf.size = r.size
  zsize : zv.cells.size = r.size
  bytes : 0 < inf.bytes

theorem ElemOK.small {t e : TypeId} {r : RTy} {inf : TypeInfo} {zv : Value} (E : ElemOK P t e r inf zv) {n : Nat} (hn : n * inf.bytes ≤ 140737488355328) : n ≤ maxLen := by
  have : n * 1 ≤ n * inf.bytes := Nat.mul_le_mul_left _ E.bytes
  simp only [maxLen]
  omega

theorem cellsAt.add {B o : Nat} {us : List Value} (h : cellsAt w B o us) : ∀ j u, us[j]? = some u → w.cell? ((⟨B, o, none⟩ : Addr).add j) = some u := by
  intro j u hu
  have : (⟨B, o, none⟩ : Addr).add j = ⟨B, o + j, none⟩ := by unfold Addr.add; split <;> simp_all
  rw [this]
  exact h j u hu

theorem app_start {t e ty : TypeId} {r : RTy} {inf : TypeInfo} {zv : Value} (E : ElemOK P t e r inf zv) {ys : List r.carrier} {xv : Value}
    (hX : (ys = [] ∧ ∃ a c, xv = .slice a 0 c) ∨ ∃ B o c us, xv = .slice (some ⟨B, o, none⟩) ys.length c ∧ cellsAt w B o us ∧ Reps w S φ (ys.flatMap r.enc) us)
    (hg : φ g = none) {a0 : Option Addr} (hb : ys.length * inf.bytes ≤ 140737488355328) :
    ∃ v w' Bn cap len, (Builtin.append_ #[t, t] ty #[.slice a0 0 0, xv]).run P w = .ok v w' ∧ AppPost w S φ k g (.rows r e ys) v w' Bn cap len := by
  rcases hX with ⟨rfl, a, c, rfl⟩ | ⟨B, o, c, us, rfl, hcell, hrep⟩
  · exact ⟨_, _, none, 0, 0, append_nothing E.und E.info a0 a 0 0 c (Nat.le_refl _), ⟨⟨rfl, rfl, rfl, Nat.le_refl _, fun _ _ _ => rfl, fun _ hB => by cases hB⟩, ⟨a0, rfl⟩, rfl, [], ⟨by simp, .inl ⟨rfl, rfl⟩⟩, .nil, by simp⟩⟩
  · by_cases hy : ys = []
    · subst hy
      exact ⟨_, _, none, 0, 0, append_nothing E.und E.info a0 _ 0 0 c (Nat.le_refl _), ⟨⟨rfl, rfl, rfl, Nat.le_refl _, fun _ _ _ => rfl, fun _ hB => by cases hB⟩, ⟨a0, rfl⟩, rfl, [], ⟨by simp, .inl ⟨rfl, rfl⟩⟩, .nil, by simp⟩⟩
    · have hn0 : 0 < ys.length := List.length_pos_iff.2 hy
      have hm := E.small hb
      have hul : us.length = ys.length * inf.size := by rw [← hrep.len, flatMap_len, E.size]
      have hP := grown_post (k := k) (e := e) hg hrep E.zsize (grownCap_ge w ys.length 0 e) (grownCap_le_maxLen w ys.length 0 e hm)
      cases a0 with
      | none =>
        have hr := run_append_nil (P := P) w t ty e inf zv E.und E.info E.zero ⟨B, o, none⟩ ys.length c us hul hcell.add hn0 (by simp only [maxLen] at hm; omega) (by omega)
        exact ⟨_, _, _, _, _, hr, hP⟩
      | some a1 =>
        have hr := run_append_grow (P := P) w t ty e inf zv E.und E.info E.zero a1 0 0 [] (by simp) (by simp) ⟨B, o, none⟩ ys.length c us hul hcell.add (by omega) (by simp only [maxLen] at hm; omega)
          (growslice_fits (by omega) (by simpa using hb))
        have e0 : ([] : List Value).toArray ++ us.toArray = us.toArray := by simp
        simp only [Nat.zero_add, e0] at hr
        exact ⟨_, _, _, _, _, hr, hP⟩

theorem app_own {t e ty : TypeId} {r : RTy} {inf : TypeInfo} {zv : Value} (E : ElemOK P t e r inf zv) (hlt : ∀ {b B cap len}, φ b = some ⟨true, some B, cap, len⟩ → B < w.heap.size) {xs ys : List r.carrier} {xv sv : Value}
    (hX : (ys = [] ∧ ∃ a c, xv = .slice a 0 c) ∨ ∃ B o c us, xv = .slice (some ⟨B, o, none⟩) ys.length c ∧ cellsAt w B o us ∧ Reps w S φ (ys.flatMap r.enc) us)
    (hg : φ g = none) {b cap0 : Nat} {Bo : Option Nat} (h1 : φ b = some ⟨true, Bo, cap0, xs.length⟩) (h2 : Slot.fits ⟨true, Bo, cap0, xs.length⟩ sv) {us0 : List Value} (h4 : w.ownsRow 0 e r.size (.slice (baseOf Bo) xs.length cap0) xs.length us0)
    (h5 : Reps w S φ (xs.flatMap r.enc) us0) (h6 : ∀ u ∈ us0, u.oneCell' = true) (hb : (xs ++ ys).length * inf.bytes ≤ 140737488355328) :
    ∃ v w' Bn cap len, (Builtin.append_ #[t, t] ty #[sv, xv]).run P w = .ok v w' ∧ AppPost w S φ (some b) g (.rows r e (xs ++ ys)) v w' Bn cap len := by
  cases Bo with
  | none =>
    obtain ⟨a0, rfl⟩ : ∃ a, sv = .slice a 0 0 := h2
    rcases h4.2 with ⟨h7, h8⟩ | ⟨g, c, cur, hv, _⟩
    · have : xs = [] := List.eq_nil_of_length_eq_zero h8
      subst this
      exact app_start E hX hg hb
    · simp [baseOf] at hv
  | some B0 =>
    simp only [Slot.fits] at h2
    subst h2
    have hlt0 : B0 < w.heap.size := hlt h1
    have h4' := h4
    obtain ⟨h40, h4⟩ := h4
    rcases h4 with ⟨h7, _⟩ | ⟨g', cap', cur, hv, _, hh, h8, h9, h10, h11⟩
    · simp [baseOf] at h7
    · simp [baseOf] at hv
      obtain ⟨rfl, rfl⟩ := hv
      have inplace : ys = [] → ∀ {a c}, xv = .slice a 0 c → ∃ v w' Bn cap len, (Builtin.append_ #[t, t] ty #[.slice (some ⟨B0, 0, none⟩) xs.length cap0, xv]).run P w = .ok v w' ∧ AppPost w S φ (some b) g (.rows r e (xs ++ ys)) v w' Bn cap len := by
        rintro rfl a c rfl
        have m : Moved w w φ (some b) (some B0) := ⟨rfl, rfl, rfl, Nat.le_refl _, fun _ _ _ => rfl, fun _ hB => by cases hB; exact ⟨hlt0, .inr ⟨b, _, _, rfl, h1⟩⟩⟩
        refine ⟨_, _, some B0, cap0, xs.length, append_nothing E.und E.info _ a xs.length cap0 c h8, ⟨m, rfl, ?_⟩⟩
        simp only [List.append_nil]
        exact ⟨rfl, us0, h4', h5.mono (m.mono hg), h6⟩
      rcases hX with ⟨hy, a, c, hxv⟩ | ⟨B, o, c, us, rfl, hcell, hrep⟩
      · exact inplace hy hxv
      · by_cases hy : ys = []
        · exact inplace hy (by rw [hy]; rfl)
        · have hul : us.length = ys.length * inf.size := by rw [← hrep.len, flatMap_len, E.size]
          have hone := allOne_reps hrep (flatMap_one _ ys)
          have hrep2 : Reps w S φ ((xs ++ ys).flatMap r.enc) (us0 ++ us) := by rw [List.flatMap_append]; exact h5.app hrep
          have hnl : (xs ++ ys).length = xs.length + ys.length := by simp
          have hb2 : (xs.length + ys.length) * inf.bytes ≤ 140737488355328 := by rw [← hnl]; exact hb
          have hm2 := E.small hb2
          by_cases hroom : xs.length + ys.length ≤ cap0
          · have hfit : xs.length * inf.size + us.length ≤ cur.size := by rw [hul, h10, ← E.size, ← Nat.add_mul]; exact Nat.mul_le_mul_right _ hroom
            have hr := run_append_room (P := P) w t ty e inf E.und E.info B0 xs.length cap0 cur hh ⟨B, o, none⟩ ys.length c us hul hcell.add hone hroom hfit
            have m : Moved w (w.setRow B0 (cur.toList.take (xs.length * inf.size) ++ us ++ cur.toList.drop (xs.length * inf.size + us.length)).toArray) φ (some b) (some B0) :=
              ⟨rfl, rfl, rfl, by simp, fun j _ hj => setRow_other w B0 j _ (fun e => hj (by rw [e])), fun _ hB => by cases hB; exact ⟨by simpa using hlt0, .inr ⟨b, _, _, rfl, h1⟩⟩⟩
            have hlen : (us0 ++ us).length = (xs ++ ys).length * r.size := by rw [List.length_append, h40, hul, hnl, Nat.add_mul, E.size]
            have hblk : BlkRep (w.setRow B0 (cur.toList.take (xs.length * inf.size) ++ us ++ cur.toList.drop (xs.length * inf.size + us.length)).toArray) S (movedE φ (some b) g ⟨true, some B0, cap0, (xs ++ ys).length⟩) (some B0) cap0 (xs ++ ys).length (.rows r e (xs ++ ys)) := by
              refine ⟨rfl, us0 ++ us, ⟨hlen, .inr ⟨B0, cap0, _, rfl, Nat.zero_le _, setRow_heap w B0 cur _ e _ hh, by rw [hnl]; exact hroom, h9, ?_, ?_⟩⟩, hrep2.mono (m.mono hg), ?_⟩
              · simp only [List.size_toArray, List.length_append, List.length_take, List.length_drop, Array.length_toList]
                rw [← h10]
                omega
              · rw [List.toList_toArray, E.size, h11, ← hlen]
                exact List.take_left
              · intro u hu
                rcases List.mem_append.1 hu with hu | hu
                · exact h6 u hu
                · exact hone u hu
            exact ⟨_, _, some B0, cap0, (xs ++ ys).length, hr, ⟨m, by rw [hnl]; rfl, hblk⟩⟩
          · have hr := run_append_grow (P := P) w t ty e inf zv E.und E.info E.zero ⟨B0, 0, none⟩ xs.length cap0 us0 (by rw [h40, E.size]) (ownsRow_cells h4').add ⟨B, o, none⟩ ys.length c us hul hcell.add (by omega)
              (by simp only [maxLen] at hm2; omega) (growslice_fits (by omega) hb2)
            have hP := grown_post (k := some b) (e := e) hg hrep2 E.zsize (by rw [hnl]; exact grownCap_ge w (xs.length + ys.length) cap0 e) (grownCap_le_maxLen w (xs.length + ys.length) cap0 e hm2)
            have eb : (us0 ++ us).toArray = us0.toArray ++ us.toArray := by apply Array.ext'; simp
            rw [eb, hnl] at hP
            exact ⟨_, _, _, _, _, hr, hP⟩

theorem app_slc {t e ty : TypeId} {r : RTy} {inf : TypeInfo} {zv : Value} (E : ElemOK P t e r inf zv) {xs ys : List r.carrier} {xv : Value}
    (hX : (ys = [] ∧ ∃ a c, xv = .slice a 0 c) ∨ ∃ B o c us, xv = .slice (some ⟨B, o, none⟩) ys.length c ∧ cellsAt w B o us ∧ Reps w S φ (ys.flatMap r.enc) us)
    (hg : φ g = none) {B0 : Nat} {us0 : List Value} (h4 : cellsAt w B0 0 us0) (h5 : Reps w S φ (xs.flatMap r.enc) us0) (hne : ys ≠ []) (hb : (xs ++ ys).length * inf.bytes ≤ 140737488355328) :
    ∃ v w' Bn cap len, (Builtin.append_ #[t, t] ty #[.slice (some ⟨B0, 0, none⟩) xs.length xs.length, xv]).run P w = .ok v w' ∧ AppPost w S φ none g (.rows r e (xs ++ ys)) v w' Bn cap len := by
  rcases hX with ⟨hy, a, c, hxv⟩ | ⟨B, o, c, us, rfl, hcell, hrep⟩
  · exact absurd hy hne
  · have hul : us.length = ys.length * inf.size := by rw [← hrep.len, flatMap_len, E.size]
    have hul0 : us0.length = xs.length * inf.size := by rw [← h5.len, flatMap_len, E.size]
    have hrep2 : Reps w S φ ((xs ++ ys).flatMap r.enc) (us0 ++ us) := by rw [List.flatMap_append]; exact h5.app hrep
    have hnl : (xs ++ ys).length = xs.length + ys.length := by simp
    have hb2 : (xs.length + ys.length) * inf.bytes ≤ 140737488355328 := by rw [← hnl]; exact hb
    have hm2 := E.small hb2
    have hy0 : 0 < ys.length := List.length_pos_iff.2 hne
    have hr := run_append_grow (P := P) w t ty e inf zv E.und E.info E.zero ⟨B0, 0, none⟩ xs.length xs.length us0 hul0 h4.add ⟨B, o, none⟩ ys.length c us hul hcell.add (by omega)
      (by simp only [maxLen] at hm2; omega) (growslice_fits (by omega) hb2)
    have hP := grown_post (k := none) (e := e) hg hrep2 E.zsize (by rw [hnl]; exact grownCap_ge w (xs.length + ys.length) xs.length e) (grownCap_le_maxLen w (xs.length + ys.length) xs.length e hm2)
    have eb : (us0 ++ us).toArray = us0.toArray ++ us.toArray := by apply Array.ext'; simp
    rw [eb, hnl] at hP
    exact ⟨_, _, _, _, _, hr, hP⟩

theorem appendX_run {C : Cfg} (R : RepH w0 S φ h w) {lookS look : Nat → Option Blk} (HS : HeapRep w S φ lookS) (HL : HeapRep w S φ look) {t t2 : TypeId} {s x : AV} {sv xv : Value} (hs : Reps w S φ [s] [sv]) (hx : Reps w S φ [x] [xv])
    (hg : φ g = none) {Q : Option Nat × Blk → Prop} (ha : (appendX C t t2 s x lookS look).wp Q) (ty : TypeId) :
    t2 = t ∧ ∃ k blk v w' Bn cap len, Q (k, blk) ∧ (Builtin.append_ #[t, t] ty #[sv, xv]).run C.P w = .ok v w' ∧ AppPost w S φ k g blk v w' Bn cap len := by
  unfold appendX at ha
  split at ha
  · rename_i e ht
    split at ha
    · rename_i htt
      refine ⟨htt.symm, ?_⟩
      split at ha
      · rename_i r inf z hr hi hz
        obtain ⟨it, zv, hi', hiz, rfl, hzr⟩ := zeroAV_run (w := w) hz
        rw [hi] at hi'
        cases hi'
        split at ha
        · rename_i hc
          obtain ⟨hsize, hzl, hpos, hby⟩ := hc
          have hzs : zv.cells.size = r.size := by
            have hcr : Reps w S φ (ofValue zv).cells zv.cells.toList := by
              unfold ofValue
              split
              · simpa [AV.cells, Value.cells] using ofCells_reps _
              · rename_i hna
                by_cases ha : ofCell zv = .any
                · rw [ha]
                  cases zv <;> first | exact .any _ .nil | (exact absurd rfl (hna _))
                · exact cells_reps (ofCell_reps zv) ha
            have := hcr.len
            simp at this
            omega
          have E : ElemOK C.P t e r inf zv := ⟨ht, hi, hiz, hsize, hzs, hby⟩
          split at ha
          · exact ha.elim
          rename_i ys hsrc
          have hX := src_run HL hsrc hx
          split at ha
          · -- nils
            obtain ⟨hb, hq⟩ := ha
            cases hs with
            | nils a0 =>
              obtain ⟨v, w', Bn, cap, len, h1, h2⟩ := app_start (ty := ty) (k := none) E hX hg (a0 := a0) hb
              exact ⟨_, _, v, w', Bn, cap, len, hq, h1, h2⟩
          · -- own
            rename_i b
            split at ha
            · rename_i r' e' xs0 hl
              split at ha
              · rename_i xs hxs
                split at ha
                · rename_i hc
                  obtain ⟨rfl, hsame⟩ := hc
                  obtain ⟨hb, hq⟩ := ha
                  obtain ⟨rfl, hxs0⟩ := castL_inv hxs
                  simp only at hxs0
                  subst hxs0
                  cases hs with
                  | own hs =>
                    obtain ⟨sl, h1, h2⟩ := hs
                    obtain ⟨B', cap, len, h3, rfl, us0, h4, h5, h6⟩ := HS _ _ hl
                    rw [h1] at h3
                    cases h3
                    obtain ⟨v, w', Bn, cap, len, h1, h2⟩ := app_own (ty := ty) E (fun h => R.get_lt h) hX hg h1 h2 h4 h5 h6 hb
                    exact ⟨_, _, v, w', Bn, cap, len, hq, h1, h2⟩
                · exact ha.elim
              · exact ha.elim
            · exact ha.elim
          · -- slc
            rename_i b off n sz
            split at ha
            · rename_i cs hl
              split at ha
              · rename_i hc
                obtain ⟨rfl, rfl, hnl, hn⟩ := hc
                split at ha
                · rename_i xs hxs
                  obtain ⟨⟨hne, hb⟩, hq⟩ := ha
                  cases hs with
                  | slc hs =>
                    obtain ⟨sl, B', c0, h1, h2, h3⟩ := hs
                    obtain ⟨B1, cap, len, h4, B0, us0, e0, rfl, h5, h6, h7⟩ := HS _ _ hl
                    rw [h1] at h4
                    cases h4
                    cases h2
                    obtain ⟨h8, h9⟩ := decRows_reps hxs h7
                    rcases h3 with ⟨h3, _⟩ | ⟨h3, hfull, rfl⟩
                    · omega
                    · have hul0 : cs.length = us0.size := by simpa using h7.len
                      have hc0 : c0 = n := hfull rfl (by simp only; omega)
                      subst hc0
                      subst h8
                      obtain ⟨v, w', Bn, cap, len, h1, h2⟩ := app_slc (ty := ty) E hX hg (cellsAt_block h5) h9 hne hb
                      exact ⟨_, _, v, w', Bn, cap, len, hq, h1, h2⟩
                · exact ha.elim
              · exact ha.elim
            · exact ha.elim
          · exact ha.elim
        · exact ha.elim
      · exact ha.elim
    · exact ha.elim
  · exact ha.elim

end
end Go.Fx
