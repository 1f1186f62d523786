/- What is there is changed: stores, maps. -/
import Derived.Test.YtccfojgceohciaaFxI
namespace Go.Fx
open Go Go.RowKit

/-! ### the heap's list -/
theorem beq_false {a b : Nat} (h : a ≠ b) : Nat.beq a b = false := by
  cases hb : Nat.beq a b with
  | false => rfl
  | true => exact absurd (by simpa using hb) h
theorem beq_self (a : Nat) : Nat.beq a a = true := by simp
theorem Heap.get_put (x : Blk) (b n : Nat) : ∀ h : Heap, (h.put b x).get n = if n = b then some x else h.get n
  | [] => by
    by_cases hn : n = b
    · subst hn; simp [Heap.put, Heap.get]
    · simp [Heap.put, Heap.get, hn, beq_false (Ne.symm hn)]
  | (c, y) :: h => by
    unfold Heap.put
    by_cases hc : c = b
    · subst hc
      rw [beq_self]
      by_cases hn : n = c
      · subst hn; simp [Heap.get]
      · simp [Heap.get, hn, beq_false (Ne.symm hn)]
    · rw [beq_false hc]
      have ih := Heap.get_put x b n h
      by_cases hn : n = c
      · subst hn; simp [Heap.get, hc]
      · simp [Heap.get, beq_false (Ne.symm hn), ih]
theorem Heap.get_ins_ne (x : Blk) {b n : Nat} (hn : n ≠ b) : ∀ h : Heap, (h.ins b x).get n = h.get n
  | [] => by simp [Heap.ins, Heap.get, beq_false (Ne.symm hn)]
  | (c, y) :: h => by
    unfold Heap.ins
    cases Nat.blt b c with
    | true => simp [Heap.get, beq_false (Ne.symm hn)]
    | false => simp [Heap.get, Heap.get_ins_ne x hn h]
theorem Heap.get_ins_self (x : Blk) {b : Nat} : ∀ h : Heap, h.get b = none → (h.ins b x).get b = some x
  | [], _ => by simp [Heap.ins, Heap.get]
  | (c, y) :: h, hb => by
    unfold Heap.ins
    cases Nat.blt b c with
    | true => simp [Heap.get]
    | false =>
      by_cases hc : c = b
      · subst hc; simp [Heap.get] at hb
      · simp only [Heap.get, beq_false hc, cond_false] at hb ⊢
        exact Heap.get_ins_self x h hb
theorem Heap.get_ins (x : Blk) {b : Nat} (n : Nat) {h : Heap} (hb : h.get b = none) : (h.ins b x).get n = if n = b then some x else h.get n := by
  by_cases hn : n = b
  · subst hn; simp [Heap.get_ins_self x h hb]
  · simp [Heap.get_ins_ne x hn h, hn]
theorem Heap.get_del (b n : Nat) : ∀ h : Heap, (h.del b).get n = if n = b then none else h.get n
  | [] => by simp [Heap.del, Heap.get]
  | (c, y) :: h => by
    unfold Heap.del
    have ih := Heap.get_del b n h
    by_cases hc : c = b
    · subst hc
      rw [beq_self]
      by_cases hn : n = c
      · subst hn; simp [ih]
      · simp [ih, hn, Heap.get, beq_false (Ne.symm hn)]
    · rw [beq_false hc]
      by_cases hn : n = c
      · subst hn; simp [Heap.get, hc]
      · simp [Heap.get, beq_false (Ne.symm hn), ih]
theorem get_insBlks : ∀ (l : List Blk) (b n : Nat) (h : Heap), (∀ i, b ≤ i → i < b + l.length → h.get i = none) → (insBlks b l h).get n = if b ≤ n ∧ n < b + l.length then l[n - b]? else h.get n
  | [], b, n, h, _ => by
    have : ¬ (b ≤ n ∧ n < b + 0) := by omega
    simp [insBlks]
    intro h1 h2
    omega
  | x :: l, b, n, h, hf => by
    unfold insBlks
    have hb : h.get b = none := hf b (Nat.le_refl _) (by simp)
    rw [get_insBlks l (b + 1) n (h.ins b x) (fun i h1 h2 => by rw [Heap.get_ins_ne x (by omega)]; exact hf i (by omega) (by simp; omega)), Heap.get_ins x n hb]
    by_cases hn : n = b
    · subst hn
      have : ¬ (n + 1 ≤ n ∧ n < n + 1 + l.length) := by omega
      simp [this]
    · by_cases h2 : b ≤ n ∧ n < b + (x :: l).length
      · have h3 : b + 1 ≤ n ∧ n < b + 1 + l.length := by simp at h2; omega
        have h4 : n - b = (n - (b + 1)) + 1 := by omega
        rw [if_pos h2, if_pos h3, h4]
        simp
      · have h3 : ¬ (b + 1 ≤ n ∧ n < b + 1 + l.length) := by simp at h2; omega
        rw [if_neg h2, if_neg h3, if_neg hn]

/-! ### what stands -/
structure RepH (w0 : World) (S : Nat → Prop) (φ : Env) (h : Heap) (w : World) : Prop where
  heap : HeapRep w S φ h.get
  inj : InjE φ
  rng : ∀ B, Own φ B → w0.heap.size ≤ B ∧ B < w.heap.size
  below : Below w0.heap.size w0 w
  sb : ∀ B, S B → B < w0.heap.size

section
variable {P : Program} {w0 w : World} {S : Nat → Prop} {φ : Env} {h : Heap}

theorem RepH.disj (R : RepH w0 S φ h w) : ∀ B, Own φ B → ¬ S B := fun B ho hs => by
  have := (R.rng B ho).1
  have := R.sb B hs
  omega
theorem RepH.sbw (R : RepH w0 S φ h w) : ∀ B, S B → B < w.heap.size := fun B hs => Nat.lt_of_lt_of_le (R.sb B hs) R.below.size
theorem RepH.sow (R : RepH w0 S φ h w) : ∀ B, S B ∨ Own φ B → B < w.heap.size := fun B hs => hs.elim (R.sbw B) fun h => (R.rng B h).2
theorem RepH.get_lt (R : RepH w0 S φ h w) {b B cap len : Nat} (hb : φ b = some ⟨true, some B, cap, len⟩) : B < w.heap.size := (R.rng B ⟨_, _, _, hb⟩).2

/-- New blocks. -/
theorem RepH.ext (R : RepH w0 S φ h w) {base : Nat} {v : AV} {bs : List Blk} {x : Value} {w' : World} {φ' : Env} (hf : FreshE φ base bs.length) (hp : ResPost w S φ base v bs x w' φ') :
    RepH w0 S φ' (insBlks base bs h) w' ∧ Mono w S φ w' S φ' := by
  have m : Mono w S φ w' S φ' := hp.ext.mono hf
  have hnone : ∀ i, base ≤ i → i < base + bs.length → h.get i = none := by
    intro i h1 h2
    cases hg : h.get i with
    | none => rfl
    | some blk =>
      obtain ⟨B, cap, len, h3, _⟩ := R.heap _ _ hg
      rw [hf i h1 h2] at h3
      cases h3
  refine ⟨⟨?_, ?_, ?_, ?_, R.sb⟩, m⟩
  · intro b blk hb
    rw [get_insBlks _ _ _ _ hnone] at hb
    split at hb
    · rename_i hr
      obtain ⟨B, cap, len, h1, h2⟩ := hp.blks (b - base) blk hb
      rw [show base + (b - base) = b by omega] at h1
      exact ⟨B, cap, len, h1, h2⟩
    · rename_i hr
      obtain ⟨B, cap, len, h1, h2⟩ := R.heap _ _ hb
      refine ⟨B, cap, len, by rw [hp.ext.same b hr, h1], h2.mono m fun k hk => ?_⟩
      subst hk
      exact hp.ext.below.block k (R.get_lt h1)
  · intro b b' B c n c' n' h1 h2
    by_cases hr : base ≤ b ∧ b < base + bs.length
    · by_cases hr' : base ≤ b' ∧ b' < base + bs.length
      · exact hp.ext.inj b b' _ _ B hr.1 hr.2 hr'.1 hr'.2 h1 h2 rfl rfl rfl rfl
      · rw [hp.ext.same b' hr'] at h2
        have h3 := (hp.ext.new b _ hr.1 hr.2 h1 B rfl).1
        have h4 := R.get_lt h2
        omega
    · rw [hp.ext.same b hr] at h1
      by_cases hr' : base ≤ b' ∧ b' < base + bs.length
      · have h3 := (hp.ext.new b' _ hr'.1 hr'.2 h2 B rfl).1
        have h4 := R.get_lt h1
        omega
      · rw [hp.ext.same b' hr'] at h2
        exact R.inj b b' B c n c' n' h1 h2
  · rintro B ⟨id, cap, len, hid⟩
    by_cases hr : base ≤ id ∧ id < base + bs.length
    · have h1 := hp.ext.new id _ hr.1 hr.2 hid B rfl
      exact ⟨Nat.le_trans R.below.size h1.1, h1.2⟩
    · rw [hp.ext.same id hr] at hid
      have h1 := R.rng B ⟨_, _, _, hid⟩
      exact ⟨h1.1, Nat.lt_of_lt_of_le h1.2 hp.ext.below.size⟩
  · exact R.below.trans ⟨hp.ext.below.os, hp.ext.below.tape, hp.ext.below.output, hp.ext.below.size, fun k hk => hp.ext.below.block k (Nat.lt_of_lt_of_le hk R.below.size)⟩

/-- A world in which one block of the call's own is another one. -/
structure Chg (w w' : World) (B : Nat) : Prop where
  os : w'.os = w.os
  tape : w'.tape = w.tape
  output : w'.output = w.output
  size : w'.heap.size = w.heap.size
  other : ∀ k, k ≠ B → w'.heap[k]? = w.heap[k]?

theorem Chg.setRow (w : World) (B : Nat) (cs : Array Value) : Chg w (w.setRow B cs) B := ⟨rfl, rfl, rfl, by simp, fun k hk => setRow_other w B k cs hk⟩
theorem Chg.setObj (w : World) (B : Nat) (o : Obj) : Chg w { w with heap := w.heap.setIfInBounds B o } B := ⟨rfl, rfl, rfl, by simp, fun k hk => by simp [Ne.symm hk]⟩

theorem Chg.mono {w' : World} {B : Nat} (c : Chg w w' B) (ho : Own φ B) : Mono w S φ w' S φ := by
  refine ⟨fun b s hb => .inl hb, fun k hk => ?_⟩
  have hne : k ≠ B := fun e => hk.2.2 (e ▸ ho)
  exact ⟨⟨by rw [c.size]; exact hk.1, hk.2.1, hk.2.2⟩, c.other k hne⟩

theorem RepH.upd (R : RepH w0 S φ h w) {b B cap len : Nat} (hb : φ b = some ⟨true, some B, cap, len⟩) {w' : World} (c : Chg w w' B) {blk : Blk} (hblk : BlkRep w' S φ (some B) cap len blk) :
    RepH w0 S φ (h.put b blk) w' := by
  have m : Mono w S φ w' S φ := c.mono ⟨_, _, _, hb⟩
  refine ⟨?_, R.inj, fun k hk => by rw [c.size]; exact R.rng k hk, ?_, R.sb⟩
  · intro b' blk' hb'
    rw [Heap.get_put] at hb'
    split at hb'
    · rename_i e
      subst e
      cases hb'
      exact ⟨_, _, _, hb, hblk⟩
    · rename_i hne
      obtain ⟨B', cap', len', h1, h2⟩ := R.heap _ _ hb'
      refine ⟨B', cap', len', h1, h2.mono m fun k hk => ?_⟩
      subst hk
      refine c.other k fun e => hne ?_
      subst e
      exact R.inj _ _ _ _ _ _ _ h1 hb
  · refine R.below.trans ⟨c.os, c.tape, c.output, by rw [c.size]; exact Nat.le_refl _, fun k hk => c.other k fun e => ?_⟩
    subst e
    have := (R.rng k ⟨_, _, _, hb⟩).1
    omega

/-! ### one cell -/
theorem oneCell_reps {a : AV} {v : Value} (hr : Reps w S φ [a] [v]) (h : a.oneCell = true) : v.oneCell' = true := by
  cases hr with
  | any => cases h
  | agg => cases h
  | tup => cases h
  | ptr h => obtain ⟨s, B, h1, h2, rfl⟩ := h; rfl
  | rptr h => obtain ⟨s, B, h1, h2, rfl⟩ := h; rfl
  | own h => obtain ⟨s, h1, h2⟩ := h; obtain ⟨a, l, c, rfl⟩ := Slot.fits_slice h2; rfl
  | slc h =>
    obtain ⟨s, B, c, h1, h2, h3⟩ := h
    rcases h3 with ⟨_, a, rfl⟩ | ⟨_, _, rfl⟩ <;> rfl
  | map h => obtain ⟨s, B, h1, h2, rfl⟩ := h; rfl
  | _ => rfl
theorem allOne_reps : ∀ {as : List AV} {vs : List Value}, Reps w S φ as vs → allOne as = true → ∀ v ∈ vs, v.oneCell' = true
  | [], vs, hr, _, v, hv => by cases hr.nil_inv; cases hv
  | a :: as, vs, hr, h, v, hv => by
    obtain ⟨u, us, rfl, h1, h2⟩ := hr.uncons
    simp only [allOne, Bool.and_eq_true] at h
    rcases List.mem_cons.1 hv with rfl | hv
    · exact oneCell_reps h1 h.1
    · exact allOne_reps h2 h.2 v hv
theorem ne_any_of_one {v : AV} (h : allOne v.cells = true) : v ≠ .any := by
  rintro rfl
  simp [AV.cells, allOne, AV.oneCell] at h

theorem flatMap_upd {r : RTy} {xs : List r.carrier} {i : Int} (h0 : 0 ≤ i) (h1 : i < xs.length) (x : r.carrier) :
    ∃ a c, xs.flatMap r.enc = a ++ r.enc (rd r xs i) ++ c ∧ (upd r xs i x).flatMap r.enc = a ++ r.enc x ++ c ∧ a.length = i.toNat * r.size := by
  have hn : i.toNat < xs.length := by omega
  have e1 : xs = xs.take i.toNat ++ rd r xs i :: xs.drop (i.toNat + 1) := by
    have : rd r xs i = xs[i.toNat] := by simp [rd, hn]
    rw [this, List.getElem_cons_drop, List.take_append_drop]
  refine ⟨(xs.take i.toNat).flatMap r.enc, (xs.drop (i.toNat + 1)).flatMap r.enc, ?_, ?_, ?_⟩
  · conv => lhs; rw [e1]
    simp
  · unfold upd
    rw [List.set_eq_take_append_cons_drop, if_pos hn]
    simp
  · rw [flatMap_len, List.length_take, Nat.min_eq_left (by omega)]

theorem storeX_run (R : RepH w0 S φ h w) {t : TypeId} {a v : AV} {x y : Value} (ha : Reps w S φ [a] [x]) (hv : Reps w S φ [v] [y]) {Q : Heap → Prop} (hx : (storeX P t a v h).wp Q) :
    ∃ w' h', Q h' ∧ (Instr.storeAt t x y).run P w = .ok () w' ∧ RepH w0 S φ h' w' ∧ Mono w S φ w' S φ := by
  unfold storeX at hx
  split at hx
  · exact hx.elim
  rename_i n hsz
  split at hx
  · rename_i hc
    obtain ⟨hlen, hone⟩ := hc
    have hcr := cells_reps hv (ne_any_of_one hone)
    have hl : y.cells.size = n := by have := hcr.len; simp at this; omega
    have h1 := allOne_reps hcr hone
    have run : ∀ {g o : Nat} {cur : Array Value} {e : TypeId}, w.heap[g]? = some (.cells cur e (0, 0)) → o + n ≤ cur.size → x = .pointer (some ⟨g, o, none⟩) →
        (Instr.storeAt t x y).run P w = .ok () (w.setRow g (cur.toList.take o ++ y.cells.toList ++ cur.toList.drop (o + n)).toArray) := by
      intro g o cur e hg ho hx
      subst hx
      have hst := run_storeCells_at P g o e y.cells.toList 0 cur w hg (by simp; omega) h1
      simp only [Nat.add_zero, Array.length_toList, hl] at hst
      simp [Instr.storeAt, Instr.sureAddr, storeVar, szOf_run hsz, hl, hst]
    split at hx
    · rename_i b off
      split at hx
      · rename_i cs hg
        split at hx
        · rename_i hle
          cases ha with
          | ptr ha =>
            obtain ⟨s, B, hs1, hs2, rfl⟩ := ha
            obtain ⟨B', cap, len, hb, B'', us, e, rfl, h5, h6, h7⟩ := R.heap _ _ hg
            rw [hs1] at hb
            cases hb
            cases hs2
            have hul : cs.length = us.size := by simpa using h7.len
            have c := Chg.setRow w B (us.toList.take off ++ y.cells.toList ++ us.toList.drop (off + n)).toArray
            have m : Mono w S φ _ S φ := c.mono ⟨_, _, _, hs1⟩
            refine ⟨_, _, hx, run h5 (by omega) rfl, R.upd hs1 c ⟨B, _, e, rfl, setRow_heap w B us _ e _ h5, ?_, ?_⟩, m⟩
            · simp only [List.size_toArray, List.length_append, List.length_take, List.length_drop, Array.length_toList]
              omega
            · have := ((h7.take off).app hcr).app (h7.drop (off + n))
              rw [← hlen] at this
              simpa [overlay, hlen] using this.mono m
        · exact hx.elim
      · exact hx.elim
    · rename_i b r i off
      split at hx
      · rename_i r' e xs hg
        split at hx
        · rename_i hc
          obtain ⟨hle, rfl⟩ := hc
          split at hx
          · rename_i x' hdec
            obtain ⟨⟨hi0, hi1⟩, hx⟩ := hx
            cases ha with
            | rptr ha =>
              obtain ⟨s, B, hs1, hs2, rfl⟩ := ha
              obtain ⟨B', cap, len, hb, rfl, us, ⟨h40, h4⟩, h5, h6⟩ := R.heap _ _ hg
              rw [hs1] at hb
              cases hb
              cases hs2
              rcases h4 with ⟨h4, _⟩ | ⟨g, cap', cur, h4, _, h8, h9, h10, h11, h12⟩
              · simp [baseOf] at h4
              · simp [baseOf] at h4
                obtain ⟨rfl, rfl⟩ := h4
                obtain ⟨A, D, e1, e2, e3⟩ := flatMap_upd hi0 hi1 x'
                rw [e1] at h5
                obtain ⟨u1, u3, rfl, h13, h14⟩ := h5.unapp
                obtain ⟨u1, u2, rfl, h15, h16⟩ := h13.unapp
                have l1 : u1.length = i.toNat * r'.size := by rw [← e3]; exact h15.len.symm
                have l2 : u2.length = r'.size := by rw [← h16.len, enc_len]
                have l3 : y.cells.toList.length = n := by simpa using hl
                have lall : u1.length + u2.length + u3.length = xs.length * r'.size := by simpa [Nat.add_assoc] using h40
                have hcl : xs.length * r'.size ≤ cur.size := by rw [h11]; exact Nat.mul_le_mul_right _ h9
                have hcur : cur.toList = u1 ++ u2 ++ u3 ++ cur.toList.drop (xs.length * r'.size) := by rw [← h12, List.take_append_drop]
                have c := Chg.setRow w B (cur.toList.take (i.toNat * r'.size + off) ++ y.cells.toList ++ cur.toList.drop (i.toNat * r'.size + off + n)).toArray
                have m : Mono w S φ _ S φ := c.mono ⟨_, _, _, hs1⟩
                have enew : cur.toList.take (i.toNat * r'.size + off) ++ y.cells.toList ++ cur.toList.drop (i.toNat * r'.size + off + n) =
                    u1 ++ (u2.take off ++ y.cells.toList ++ u2.drop (off + n)) ++ u3 ++ cur.toList.drop (xs.length * r'.size) := by
                  generalize cur.toList.drop (xs.length * r'.size) = rest at hcur
                  rw [hcur, ← l1]
                  simp only [List.append_assoc]
                  rw [show u1.length + off = u1.length + off from rfl, List.take_length_add_append, Nat.add_assoc, List.drop_length_add_append]
                  rw [List.take_append_of_le_length (by omega), List.drop_append_of_le_length (by omega)]
                  simp
                have hrow : Reps w S φ (overlay (r'.enc (rd r' xs i)) off v.cells) (u2.take off ++ y.cells.toList ++ u2.drop (off + n)) := by
                  have := ((h16.take off).app hcr).app (h16.drop (off + n))
                  rw [← hlen] at this
                  simpa [overlay, hlen] using this
                have hrow' := dec_reps hdec hrow
                have lrow : (u2.take off ++ y.cells.toList ++ u2.drop (off + n)).length = r'.size := by
                  rw [← hrow'.len, enc_len]
                refine ⟨_, _, hx, run (o := i.toNat * r'.size + off) h8 (by omega) rfl,
                  R.upd hs1 c ⟨by simp [upd], u1 ++ (u2.take off ++ y.cells.toList ++ u2.drop (off + n)) ++ u3, ⟨?_, .inr ⟨B, cap, _, rfl, Nat.zero_le _, setRow_heap w B cur _ e _ h8, h9, h10, ?_, ?_⟩⟩, ?_, ?_⟩, m⟩
                · simp only [List.length_append] at lrow ⊢
                  omega
                · rw [enew]
                  simp only [List.size_toArray, List.length_append, List.length_drop, Array.length_toList] at lrow ⊢
                  rw [← h11]
                  omega
                · rw [enew]
                  have : (u1 ++ (u2.take off ++ y.cells.toList ++ u2.drop (off + n)) ++ u3).length = xs.length * r'.size := by
                    simp only [List.length_append] at lrow ⊢
                    omega
                  rw [List.toList_toArray, ← this, List.take_left]
                · rw [e2]
                  exact ((h15.app hrow').app h14).mono m
                · intro u hu
                  simp only [List.mem_append] at hu
                  rcases hu with (hu | (hu | hu) | hu) | hu
                  · exact h6 u (by simp [hu])
                  · exact h6 u (by simp [List.mem_of_mem_take hu])
                  · exact h1 u hu
                  · exact h6 u (by simp [List.mem_of_mem_drop hu])
                  · exact h6 u (by simp [hu])
          · exact hx.elim
        · exact hx.elim
      · exact hx.elim
    · exact hx.elim
  · exact hx.elim

/-! ### maps -/
theorem mput_rep {r : RTy} {k : Int} {y : r.carrier} {v : Value} (hv : ValRep w S φ r y v) : ∀ {es : List (Int × r.carrier)} {ms : List MapEntry} (i : Nat) (born : Nat), IMapRep w S φ r es ms →
    ∃ q, Instr.findNow (.int .i64) (.int .i64 k) ms i = some q ∧
      match q with
      | none => IMapRep w S φ r (mput es k y) (ms ++ [{ key := .int .i64 k, val := v, born := born }])
      | some (j, _) => ∃ m, i ≤ j ∧ ms[j - i]? = some m ∧ m.key = .int .i64 k ∧ IMapRep w S φ r (mput es k y) (ms.set (j - i) { m with key := .int .i64 k, val := v })
  | [], [], i, born, _ => ⟨none, rfl, rfl, hv, trivial⟩
  | (j, x) :: es, m :: ms, i, born, ⟨e2, h2, h3⟩ => by
    unfold mput
    by_cases hj : j = k
    · subst hj
      refine ⟨some (i, m.val), by simp [Instr.findNow, Instr.sameNow, e2], m, Nat.le_refl _, by simp, e2, ?_⟩
      simp only [Nat.sub_self, if_true, List.set_cons_zero]
      exact ⟨rfl, hv, h3⟩
    · obtain ⟨q, h4, h5⟩ := mput_rep (k := k) hv (i + 1) born h3
      have : (k == j) = false := by simpa using fun e => hj e.symm
      refine ⟨q, by simp [Instr.findNow, Instr.sameNow, e2, this, h4], ?_⟩
      cases q with
      | none => simp only [hj, if_false]; exact ⟨e2, h2, h5⟩
      | some p =>
        obtain ⟨l, u⟩ := p
        obtain ⟨m', h6, h7, h8, h9⟩ := h5
        refine ⟨m', by omega, ?_, h8, ?_⟩
        · rw [show l - i = (l - (i + 1)) + 1 by omega]; simpa using h7
        · rw [show l - i = (l - (i + 1)) + 1 by omega]
          simp only [hj, if_false, List.set_cons_succ]
          exact ⟨e2, h2, h9⟩
theorem mdel_rep {r : RTy} {k : Int} : ∀ {es : List (Int × r.carrier)} {ms : List MapEntry} (i : Nat), IMapRep w S φ r es ms →
    ∃ q, Instr.findNow (.int .i64) (.int .i64 k) ms i = some q ∧
      match q with
      | none => IMapRep w S φ r (mdel es k) ms
      | some (j, _) => i ≤ j ∧ j - i < ms.length ∧ IMapRep w S φ r (mdel es k) (ms.eraseIdx (j - i))
  | [], [], i, _ => ⟨none, rfl, trivial⟩
  | (j, x) :: es, m :: ms, i, ⟨e2, h2, h3⟩ => by
    unfold mdel
    by_cases hj : j = k
    · subst hj
      refine ⟨some (i, m.val), by simp [Instr.findNow, Instr.sameNow, e2], Nat.le_refl _, by simp, ?_⟩
      simpa using h3
    · obtain ⟨q, h4, h5⟩ := mdel_rep (k := k) (i + 1) h3
      have : (k == j) = false := by simpa using fun e => hj e.symm
      refine ⟨q, by simp [Instr.findNow, Instr.sameNow, e2, this, h4], ?_⟩
      cases q with
      | none => simp only [hj, if_false]; exact ⟨e2, h2, h5⟩
      | some p =>
        obtain ⟨l, u⟩ := p
        obtain ⟨h6, h7, h9⟩ := h5
        refine ⟨by omega, by simp; omega, ?_⟩
        rw [show l - i = (l - (i + 1)) + 1 by omega]
        simp only [hj, if_false, List.eraseIdx_cons_succ]
        exact ⟨e2, h2, h9⟩
theorem lput_rep {k : Int} {y : AV} {v : Value} (hv : Reps w S φ [y] [v]) : ∀ {es es' : List (AV × AV)} {ms : List MapEntry} (i : Nat) (born : Nat), LMapRep w S φ es ms → lput es k y = some es' →
    Instr.findNow (.int .i64) (.int .i64 k) ms i = some none ∧ LMapRep w S φ es' (ms ++ [{ key := .int .i64 k, val := v, born := born }])
  | [], es', [], i, born, _, h => by
    cases h
    exact ⟨rfl, ⟨k, rfl, rfl⟩, hv, trivial⟩
  | (kk, x) :: es, es', m :: ms, i, born, ⟨⟨j, e1, e2⟩, h2, h3⟩, h => by
    subst e1
    unfold lput at h
    split at h
    · cases h
    · rename_i hj
      split at h
      · rename_i l hl
        cases h
        obtain ⟨h4, h5⟩ := lput_rep hv (i + 1) born h3 hl
        have : (k == j) = false := by simpa using fun e => hj e.symm
        exact ⟨by simp [Instr.findNow, Instr.sameNow, e2, this, h4], ⟨j, rfl, e2⟩, h2, h5⟩
      · cases h

theorem getObj_run {B : Nat} {ms : Array MapEntry} {clock : Nat} (hb : w.heap[B]? = some (.map ms clock)) : (getObj B).run P w = .ok (.map ms clock) w := by simp [getObj, Sem.run, hb]
theorem setObj_run {B : Nat} {ms : Array MapEntry} {clock : Nat} (o : Obj) (hb : w.heap[B]? = some (.map ms clock)) : (setObj B o).run P w = .ok () { w with heap := w.heap.setIfInBounds B o } := by simp [setObj, Sem.run, hb]
theorem keyStays_run (i : Int) : (Instr.keyThatStays (.int .i64 i) (.int .i64 i)).run P w = .ok (.int .i64 i) w := by simp [Instr.keyThatStays, Instr.sameBits]
theorem heap_setIn {B : Nat} {o o' : Obj} (hb : w.heap[B]? = some o) : ({ w with heap := w.heap.setIfInBounds B o' } : World).heap[B]? = some o' := by
  have hlt : B < w.heap.size := (Array.getElem?_eq_some_iff.1 hb).1
  simp [hlt]
def updObj (q : Option (Nat × Value)) (ms : Array MapEntry) (clock : Nat) (i : Int) (v : Value) : Obj :=
  match q with
  | none => .map (ms.push { key := .int .i64 i, val := v, born := clock }) (clock + 1)
  | some (j, _) => .map (ms.modify j fun e => { e with key := .int .i64 i, val := v }) clock
def delObj (q : Option (Nat × Value)) (ms : Array MapEntry) (clock : Nat) : Obj :=
  match q with
  | none => .map ms clock
  | some (j, _) => .map (ms.eraseIdxIfInBounds j) clock

theorem mapUpd_run {t kt e : TypeId} {B : Nat} {ms : Array MapEntry} {clock : Nat} {i : Int} {v : Value} {q : Option (Nat × Value)} (hu : P.underlying t = some (.map kt e)) (hk : P.underlying kt = some (.int .i64))
    (h4 : w.heap[B]? = some (.map ms clock)) (h6 : Instr.findNow (.int .i64) (.int .i64 i) ms.toList 0 = some q) (hm : ∀ j u, q = some (j, u) → ∃ m, ms.toList[j]? = some m ∧ m.key = .int .i64 i) :
    (Instr.mapUpdate t (.map (some B)) (.int .i64 i) v).run P w = .ok () { w with heap := w.heap.setIfInBounds B (updObj q ms clock i v) } := by
  have hck := checkKey_run P w hk false 9999 i
  have hfk : (Instr.findKey kt (.int .i64 i) ms.toList).run P w = .ok q w := by simp [Instr.findKey, und_run hk, h6]
  cases q with
  | none => simp [Instr.mapUpdate, und_run hu, getObj_run h4, hck, hfk, setObj_run _ h4, updObj]
  | some p =>
    obtain ⟨j, u⟩ := p
    obtain ⟨m, hm1, hm2⟩ := hm j u rfl
    have hm1' : ms[j]? = some m := by simpa using hm1
    simp [Instr.mapUpdate, und_run hu, getObj_run h4, hck, hfk, hm1', hm2, keyStays_run, setObj_run _ h4, updObj]


theorem mapUpdX_run (R : RepH w0 S φ h w) {t : TypeId} {m k v : AV} {x y z : Value} (hm : Reps w S φ [m] [x]) (hk : Reps w S φ [k] [y]) (hv : Reps w S φ [v] [z]) {Q : Heap → Prop} (hx : (mapUpdX P t m k v h).wp Q) :
    ∃ w' h', Q h' ∧ (Instr.mapUpdate t x y z).run P w = .ok () w' ∧ RepH w0 S φ h' w' ∧ Mono w S φ w' S φ := by
  unfold mapUpdX at hx
  split at hx
  · rename_i kt e b l i hu hn
    cases num_inv hn hk
    split at hx
    · rename_i hkt
      cases hm with
      | map ha =>
        obtain ⟨s, B, hs1, hs2, rfl⟩ := ha
        split at hx
        · rename_i r es hg
          obtain ⟨B', cap, len, hb, B'', ms, clock, rfl, h5, h6⟩ := R.heap _ _ hg
          rw [hs1] at hb
          cases hb
          cases hs2
          split at hx
          · rename_i y hd
            split at hx
            · rename_i hc
              obtain ⟨hone, hagg⟩ := hc
              have hval := val_of_cells hv hd hagg
              obtain ⟨q, h7, h8⟩ := mput_rep (k := i) hval 0 clock h6
              have hq : ∀ j u, q = some (j, u) → ∃ m, ms.toList[j]? = some m ∧ m.key = .int .i64 i := by
                rintro j u rfl
                obtain ⟨m, _, h9, h10, _⟩ := h8
                exact ⟨m, by simpa using h9, h10⟩
              have hrun := mapUpd_run (v := z) hu hkt h5 h7 hq
              have c := Chg.setObj w B (updObj q ms clock i z)
              have mo : Mono w S φ _ S φ := c.mono ⟨_, _, _, hs1⟩
              refine ⟨_, _, hx, hrun, R.upd hs1 c ?_, mo⟩
              cases q with
              | none => exact ⟨B, _, _, rfl, heap_setIn h5, by simpa using h8.mono mo⟩
              | some p =>
                obtain ⟨j, u⟩ := p
                obtain ⟨m, _, h9, h10, h11⟩ := h8
                refine ⟨B, _, _, rfl, heap_setIn h5, ?_⟩
                have e : (ms.modify j fun e => { e with key := .int .i64 i, val := z }).toList = ms.toList.set (j - 0) { m with key := .int .i64 i, val := z } := by
                  apply List.ext_getElem?
                  intro l
                  simp only [Nat.sub_zero] at h9
                  simp only [Array.getElem?_toList, Array.getElem?_modify, List.getElem?_set, Nat.sub_zero]
                  by_cases hjl : j = l
                  · subst hjl
                    simp at h9
                    obtain ⟨hlt, h12⟩ := Array.getElem?_eq_some_iff.1 h9
                    simp [hlt, h12]
                  · simp [hjl]
                rw [e]
                exact h11.mono mo
            · exact hx.elim
          · exact hx.elim
        · rename_i es hg
          obtain ⟨B', cap, len, hb, B'', ms, clock, rfl, h5, h6⟩ := R.heap _ _ hg
          rw [hs1] at hb
          cases hb
          cases hs2
          split at hx
          · rename_i es' hl
            split at hx
            · obtain ⟨h7, h8⟩ := lput_rep hv 0 clock h6 hl
              have hrun := mapUpd_run (v := z) hu hkt h5 h7 (by simp)
              have c := Chg.setObj w B (.map (ms.push { key := .int .i64 i, val := z, born := clock }) (clock + 1))
              have mo : Mono w S φ _ S φ := c.mono ⟨_, _, _, hs1⟩
              exact ⟨_, _, hx, hrun, R.upd hs1 c ⟨B, _, _, rfl, heap_setIn h5, by simpa using h8.mono mo⟩, mo⟩
            · exact hx.elim
          · exact hx.elim
        · exact hx.elim
    · exact hx.elim
  · exact hx.elim

theorem delX_run (R : RepH w0 S φ h w) {t : TypeId} {m k : AV} {x y : Value} (hm : Reps w S φ [m] [x]) (hk : Reps w S φ [k] [y]) {Q : Heap → Prop} (hx : (delX P t m k h).wp Q) (ts : Array TypeId) (ht : ts[0]? = some t) (ty : TypeId) :
    ∃ w' h', Q h' ∧ (Builtin.delete_ ts ty #[x, y]).run P w = .ok (.tuple #[]) w' ∧ RepH w0 S φ h' w' ∧ Mono w S φ w' S φ := by
  unfold delX at hx
  split at hx
  · rename_i kt e b l i hu hn
    cases num_inv hn hk
    split at hx
    · rename_i hkt
      cases hm with
      | map ha =>
        obtain ⟨s, B, hs1, hs2, rfl⟩ := ha
        split at hx
        · rename_i r es hg
          obtain ⟨B', cap, len, hb, B'', ms, clock, rfl, h5, h6⟩ := R.heap _ _ hg
          rw [hs1] at hb
          cases hb
          cases hs2
          obtain ⟨q, h7, h8⟩ := mdel_rep (k := i) 0 h6
          have hck := checkKey_run P w hkt ms.isEmpty 9999 i
          have hfk : (Instr.findKey kt (.int .i64 i) ms.toList).run P w = .ok q w := by simp [Instr.findKey, und_run hkt, h7]
          have c := Chg.setObj w B (delObj q ms clock)
          have mo : Mono w S φ _ S φ := c.mono ⟨_, _, _, hs1⟩
          refine ⟨_, _, hx, ?_, R.upd hs1 c ?_, mo⟩
          · cases q with
            | none => simp [Builtin.delete_, ht, und_run hu, getObj_run h5, hck, hfk, setObj_run _ h5, delObj]
            | some p => obtain ⟨j, u⟩ := p; simp [Builtin.delete_, ht, und_run hu, getObj_run h5, hck, hfk, setObj_run _ h5, delObj]
          · cases q with
            | none => exact ⟨B, _, _, rfl, heap_setIn h5, h8.mono mo⟩
            | some p =>
              obtain ⟨j, u⟩ := p
              obtain ⟨_, h9, h10⟩ := h8
              refine ⟨B, _, _, rfl, heap_setIn h5, ?_⟩
              have hlt : j < ms.size := by simpa using h9
              have e : (ms.eraseIdxIfInBounds j).toList = ms.toList.eraseIdx (j - 0) := by simp [Array.eraseIdxIfInBounds, hlt]
              rw [e]
              exact h10.mono mo
        · exact hx.elim
    · exact hx.elim
  · exact hx.elim

end
end Go.Fx
