/- Soundness of the operations that only compute, or look: slices, values made of parts, conversions. -/
import Derived.Test.YtccfojgceohciaaFxF
namespace Go.Fx
open Go Go.RowKit

section
variable {P : Program} {w : World} {S : Nat → Prop} {φ : Env}

/-! ### constants, slots -/
theorem ofCell_reps (v : Value) : Reps w S φ [ofCell v] [v] := by
  unfold ofCell
  split
  · exact .blit _ .nil
  · exact .lit _ _ .nil
  · exact .str _ .nil
  · exact .nilp .nil
  · exact .nils _ .nil
  · exact .nilmap .nil
  · exact .nilfn .nil
  · exact .niliface .nil
  · exact .any _ .nil
theorem ofCells_reps : ∀ vs : List Value, Reps w S φ (vs.map ofCell) vs
  | [] => .nil
  | v :: vs => (ofCell_reps v).cons (ofCells_reps vs)
theorem ofValue_reps (v : Value) : Reps w S φ [ofValue v] [v] := by
  unfold ofValue
  split
  · rename_i cs
    exact .agg (ofCells_reps cs.toList) .nil
  · exact ofCell_reps _
theorem evO_reps {ts : List AV} {a : Act} (h : Reps w S φ ts a.tmps.toList) (x : Operand) : Reps w S φ [evO ts x] [a.eval x] := by
  cases x with
  | tmp t =>
    have := h.nth t
    simpa [evO, Act.eval] using this
  | const v => exact ofValue_reps v
  | global g => exact .any _ .nil
  | func f => exact .fn (.func f) .nil .nil .nil
theorem zeroAV_run {t : TypeId} {z : AV} (h : zeroAV P t = some z) : ∃ i v, P.info? t = some i ∧ i.zero = some v ∧ z = ofValue v ∧ (zeroValue t).run P w = .ok v w := by
  unfold zeroAV at h
  split at h
  · rename_i i hi
    split at h
    · rename_i v hv
      cases h
      exact ⟨i, v, hi, hv, rfl, by simp [zeroValue, typeInfo, hi, hv]⟩
    · cases h
  · cases h
theorem cells_reps {a : AV} {v : Value} (h : Reps w S φ [a] [v]) (hn : a ≠ .any) : Reps w S φ a.cells v.cells.toList := by
  cases h with
  | any => exact absurd rfl hn
  | agg h => simpa [AV.cells, Value.cells] using h
  | lit => exact .lit _ _ .nil
  | int => exact .int _ _ .nil
  | blit => exact .blit _ .nil
  | bool => exact .bool _ .nil
  | str => exact .str _ .nil
  | nilp => exact .nilp .nil
  | ptr h => obtain ⟨s, B, h1, h2, rfl⟩ := h; exact .ptr ⟨s, B, h1, h2, rfl⟩ .nil
  | rptr h => obtain ⟨s, B, h1, h2, rfl⟩ := h; exact .rptr ⟨s, B, h1, h2, rfl⟩ .nil
  | pv a b c => exact .pv a b c .nil
  | nils => exact .nils _ .nil
  | own h =>
    have h0 := h
    obtain ⟨s, h1, h2⟩ := h
    obtain ⟨a, l, c, rfl⟩ := Slot.fits_slice h2
    exact .own h0 .nil
  | slc h =>
    have h0 := h
    obtain ⟨s, B, c, h1, h2, h3⟩ := h
    rcases h3 with ⟨_, a, rfl⟩ | ⟨_, _, rfl⟩ <;> exact .slc h0 .nil
  | view0 _ _ hx => exact .view0 _ _ hx _ _ .nil
  | view _ _ _ a b c d => exact .view _ _ _ a b c d .nil
  | lv0 => exact .lv0 _ _ .nil
  | lv _ _ a b c d => exact .lv _ _ a b c d .nil
  | fn _ a b => exact .fn _ a b .nil
  | nilfn => exact .nilfn .nil
  | iface _ h => exact .iface _ h .nil
  | niliface => exact .niliface .nil
  | map h => obtain ⟨s, B, h1, h2, rfl⟩ := h; exact .map ⟨s, B, h1, h2, rfl⟩ .nil
  | nilmap => exact .nilmap .nil
  | tup h => exact .tup h .nil

/-! ### indexing values -/
theorem selBools_reps : ∀ {cs : List AV} {bs : List Bool} {us : List Value}, selBools cs = some bs → Reps w S φ cs us → bs.length = cs.length ∧ us = bs.map Value.bool
  | [], bs, us, h, hr => by
    cases h; cases hr.nil_inv; exact ⟨rfl, rfl⟩
  | a :: cs, bs, us, h, hr => by
    unfold selBools at h
    split at h
    · rename_i x xs hx hxs
      cases h
      obtain ⟨v, us, rfl, h1, h2⟩ := hr.uncons
      obtain ⟨h3, rfl⟩ := selBools_reps hxs h2
      refine ⟨by simp [h3], ?_⟩
      unfold AV.b at hx
      split at hx <;> cases hx
      · cases h1; rfl
      · cases h1; rfl
    · cases h
theorem asIntK_inv {k : IntKind} {a : AV} {n : Int} (h : a.asIntK k = some n) {v : Value} (hr : Reps w S φ [a] [v]) : v = .int k n := by
  unfold AV.asIntK at h
  split at h <;> try (cases h; done)
  · split at h
    · rename_i hk; subst hk; cases h; cases hr; rfl
    · cases h
  · split at h
    · rename_i hk; subst hk; cases h; cases hr; rfl
    · cases h
theorem selInts_reps {k : IntKind} : ∀ {cs : List AV} {ns : List Int} {us : List Value}, selInts k cs = some ns → Reps w S φ cs us → ns.length = cs.length ∧ us = ns.map (Value.int k)
  | [], ns, us, h, hr => by
    cases h; cases hr.nil_inv; exact ⟨rfl, rfl⟩
  | a :: cs, ns, us, h, hr => by
    unfold selInts at h
    split at h
    · rename_i x xs hx hxs
      cases h
      obtain ⟨v, us, rfl, h1, h2⟩ := hr.uncons
      obtain ⟨h3, rfl⟩ := selInts_reps hxs h2
      exact ⟨by simp [h3], by rw [asIntK_inv hx h1]; rfl⟩
    · cases h

theorem indexV_gives {t : TypeId} {a b : AV} {x y : Value} (ha : Reps w S φ [a] [x]) (hb : Reps w S φ [b] [y]) : Gives P w S φ (indexV P t a b) (Instr.index t x y) := by
  unfold indexV
  split
  · rename_i l k i n e cs hn hu
    cases num_inv hn hb
    cases ha with
    | agg h =>
      rename_i us _
      cases l with
      | true =>
        simp only
        split
        · rename_i sz hsz
          split
          · rename_i hc
            refine .ofOption fun v hv => ?_
            obtain ⟨d, hd⟩ := szOf_und hsz
            obtain ⟨z, hz, hr⟩ := part_gives (S := S) (us := us.toArray) hd hv (by simpa using h)
            refine .ret (z := z) ?_ hr
            simp [Instr.index, asIntOf, und_run hu, hc.1, hc.2, szOf_run hsz, hz]
          · exact .fail _
        · exact .fail _
      | false =>
        simp only
        split
        · exact .fail _
        · rename_i hc
          simp only [Bool.or_eq_true, bne_iff_ne, ne_eq, not_or, Bool.not_eq_true, Decidable.not_not] at hc
          obtain ⟨⟨hagg, hsz⟩, hlen⟩ := hc
          obtain ⟨d, hd⟩ := szOf_und hsz
          have key : ∀ z : Value, us[i.toNat]? = some z → 0 ≤ i → i < n → (Instr.index t (.agg us.toArray) (.int k i)).run P w = .ok z w := by
            intro z hz h0 hlt
            simp [Instr.index, asIntOf, und_run hu, h0, hlt, szOf_run hsz, part, isAgg_run hd, hagg, hz]
          split
          · rename_i bs hbs
            obtain ⟨h1, rfl⟩ := selBools_reps hbs h
            refine .asrt fun hi => .ret (key _ ?_ hi.1 hi.2) (.bool _ .nil)
            have : i.toNat < bs.length := by omega
            simp [this]
          · rename_i ns _ hns
            obtain ⟨h1, rfl⟩ := selInts_reps hns h
            refine .asrt fun hi => .ret (key _ ?_ hi.1 hi.2) (.int _ _ .nil)
            have : i.toNat < ns.length := by omega
            simp [this]
          · exact .fail _
  · rename_i l k i s hn hu
    cases num_inv hn hb
    obtain ⟨s, rfl, rfl⟩ := str_inv ha
    refine .asrt fun hi => ?_
    have hlt : i.toNat < s.data.toList.length := by omega
    have hlt' : i.toNat < s.size := by rw [Array.length_toList] at hlt; exact hlt
    refine .ret (z := .int .u8 ((s.data.toList.getD i.toNat 0).toNat : Int)) ?_ (.int _ _ .nil)
    have e : s[i.toNat]? = some s[i.toNat] := by simp [hlt']
    have e2 : s.data.toList.getD i.toNat 0 = s[i.toNat] := by
      have h3 : i.toNat < s.data.size := by rw [Array.length_toList] at hlt; exact hlt
      have h4 : s.data[i.toNat]? = some s.data[i.toNat] := Array.getElem?_eq_getElem h3
      simp only [List.getD, Array.getElem?_toList, h4, Option.getD_some]
      rfl
    rw [e2]
    simp [Instr.index, asIntOf, und_run hu, hi.1, e]
  · exact .fail _

/-! ### slices -/
def OB : Option (Bool × Int) → Option Value → Prop
  | none, none => True
  | some (_, n), some v => ∃ k, v = .int k n
  | _, _ => False
theorem boundV_inv {ρ : Operand → AV} {η : Operand → Value} {x : Option Operand} (h : ∀ o, x = some o → Reps w S φ [ρ o] [η o]) {b : Option (Bool × Int)} (hb : boundV (x.map ρ) = some b) : OB b (x.map η) := by
  cases x with
  | none => simp only [boundV, Option.map_none, Option.some.injEq] at hb; subst hb; trivial
  | some o =>
    simp only [boundV, Option.map_some] at hb
    split at hb
    · rename_i l k n hn
      cases hb
      exact ⟨k, num_inv hn (h o rfl)⟩
    · cases hb

theorem sliceBound_run {k : IntKind} {n : Int} {y : Nat} {code : BoundsCode} (h0 : 0 ≤ n) (h : n ≤ y) : (Instr.sliceBound (.int k n) y code).run P w = .ok n.toNat w := by
  simp [Instr.sliceBound, asIntOf, h0, h]

theorem sliceBounds_run {isSlice : Bool} {len cap : Nat} {lo hi mx : Option (Bool × Int)} {vlo vhi vmx : Option Value} (h1 : OB lo vlo) (h2 : OB hi vhi) (h3 : OB mx vmx) {l h m : Nat}
    (hl : (l : Int) = lowOf lo) (hh : (h : Int) = highOf hi (len : Int)) (hm : (m : Int) = highOf mx (cap : Int))
    (hlh : l ≤ h) (hhm : hi ≠ none → h ≤ m) (hmc : m ≤ cap) (hx : mx ≠ none → hi ≠ none) :
    (Instr.sliceBounds isSlice len cap vlo vhi vmx).run P w = .ok (l, h, m) w := by
  have e0 : (0 : Int) ≤ lowOf lo := by omega
  unfold Instr.sliceBounds
  cases mx with
  | none =>
    cases vmx with
    | some v => exact h3.elim
    | none =>
      have em : m = cap := by simp [highOf] at hm; omega
      subst em
      cases hi with
      | none =>
        cases vhi with
        | some v => exact h2.elim
        | none =>
          have eh : h = len := by simp [highOf] at hh; omega
          subst eh
          cases lo with
          | none => cases vlo with
            | some v => exact h1.elim
            | none =>
              simp only [lowOf] at hl
              have : l = 0 := by omega
              subst this
              simp
          | some p => obtain ⟨b, n⟩ := p; cases vlo with
            | none => exact h1.elim
            | some v =>
              obtain ⟨k, rfl⟩ := h1
              simp only [lowOf] at hl e0
              simp [sliceBound_run (P := P) (w := w) (k := k) (code := .sliceB) e0 (show n ≤ (h : Int) by omega)]
              omega
      | some q => obtain ⟨b2, n2⟩ := q; cases vhi with
        | none => exact h2.elim
        | some v2 =>
          obtain ⟨k2, rfl⟩ := h2
          simp only [highOf] at hh
          have hb := hhm (by simp)
          cases lo with
          | none => cases vlo with
            | some v => exact h1.elim
            | none =>
              simp only [lowOf] at hl
              have : l = 0 := by omega
              subst this
              simp [sliceBound_run (P := P) (w := w) (k := k2) (code := if isSlice then .sliceAcap else .sliceAlen) (show 0 ≤ n2 by omega) (show n2 ≤ (m : Int) by omega)]
              omega
          | some p => obtain ⟨b, n⟩ := p; cases vlo with
            | none => exact h1.elim
            | some v =>
              obtain ⟨k, rfl⟩ := h1
              simp only [lowOf] at hl e0
              simp [sliceBound_run (P := P) (w := w) (k := k2) (code := if isSlice then .sliceAcap else .sliceAlen) (show 0 ≤ n2 by omega) (show n2 ≤ (m : Int) by omega),
                sliceBound_run (P := P) (w := w) (k := k) (code := .sliceB) e0 (show n ≤ (n2.toNat : Int) by omega)]
              omega
  | some r => obtain ⟨b3, n3⟩ := r; cases vmx with
    | none => exact h3.elim
    | some v3 =>
      obtain ⟨k3, rfl⟩ := h3
      simp only [highOf] at hm
      cases hi with
      | none => exact absurd rfl (hx (by simp))
      | some q => obtain ⟨b2, n2⟩ := q; cases vhi with
        | none => exact h2.elim
        | some v2 =>
          obtain ⟨k2, rfl⟩ := h2
          simp only [highOf] at hh
          have hb := hhm (by simp)
          cases lo with
          | none => cases vlo with
            | some v => exact h1.elim
            | none =>
              simp only [lowOf] at hl
              have : l = 0 := by omega
              subst this
              simp [sliceBound_run (P := P) (w := w) (k := k3) (code := if isSlice then .slice3Acap else .slice3Alen) (show 0 ≤ n3 by omega) (show n3 ≤ (cap : Int) by omega),
                sliceBound_run (P := P) (w := w) (k := k2) (code := .slice3B) (show 0 ≤ n2 by omega) (show n2 ≤ (n3.toNat : Int) by omega)]
              omega
          | some p => obtain ⟨b, n⟩ := p; cases vlo with
            | none => exact h1.elim
            | some v =>
              obtain ⟨k, rfl⟩ := h1
              simp only [lowOf] at hl e0
              simp [sliceBound_run (P := P) (w := w) (k := k3) (code := if isSlice then .slice3Acap else .slice3Alen) (show 0 ≤ n3 by omega) (show n3 ≤ (cap : Int) by omega),
                sliceBound_run (P := P) (w := w) (k := k2) (code := .slice3B) (show 0 ≤ n2 by omega) (show n2 ≤ (n3.toNat : Int) by omega),
                sliceBound_run (P := P) (w := w) (k := k) (code := .slice3C) e0 (show n ≤ (n2.toNat : Int) by omega)]
              omega

/-- A slice of a slice. -/
theorem sliceAt_run {t e : TypeId} {sz : Nat} (hu : P.underlying t = some (.slice e)) (hsz : szOf P e = some sz) {a : Option Addr} {len cap l h m : Nat} {vlo vhi vmx : Option Value}
    (hb : (Instr.sliceBounds true len cap vlo vhi vmx).run P w = .ok (l, h, m) w) :
    (Instr.sliceAt t (.slice a len cap) vlo vhi vmx).run P w = .ok (.slice (if m = l then a else a.map (·.add (l * sz))) (h - l) (m - l)) w := by
  simp [Instr.sliceAt, Instr.slice, und_run hu, hb, szOf_run hsz]

theorem flatMap_takeDrop (r : RTy) (xs : List r.carrier) (l h : Nat) : ((xs.take h).drop l).flatMap r.enc = ((xs.flatMap r.enc).take (h * r.size)).drop (l * r.size) := by
  have h1 : ∀ (n : Nat) (ys : List r.carrier), (ys.take n).flatMap r.enc = (ys.flatMap r.enc).take (n * r.size) := by
    intro n
    induction n with
    | zero => intro ys; simp
    | succ n ih =>
      intro ys
      cases ys with
      | nil => simp
      | cons y ys =>
        simp only [List.take_succ_cons, List.flatMap_cons, ih]
        rw [List.take_append, enc_len, List.take_of_length_le (l := r.enc y) (by rw [enc_len, Nat.add_mul]; omega), show (n + 1) * r.size - r.size = n * r.size by rw [Nat.add_mul]; omega]
  have h2 : ∀ (n : Nat) (ys : List r.carrier), (ys.drop n).flatMap r.enc = (ys.flatMap r.enc).drop (n * r.size) := by
    intro n
    induction n with
    | zero => intro ys; simp
    | succ n ih =>
      intro ys
      cases ys with
      | nil => simp
      | cons y ys =>
        simp only [List.drop_succ_cons, List.flatMap_cons, ih]
        rw [List.drop_append, enc_len, List.drop_eq_nil_of_le (as := r.enc y) (by rw [enc_len, Nat.add_mul]; omega), List.nil_append, show (n + 1) * r.size - r.size = n * r.size by rw [Nat.add_mul]; omega]
  rw [h2, h1]

/-- A part of a view is a view. -/
theorem view_part {r : RTy} {xs : List r.carrier} {x : Value} (ha : Reps w S φ [.view r xs] [x]) {sz l h : Nat} (hrs : r.size = sz) (hlh : l ≤ h) (hx : h ≤ xs.length) :
    ∃ a len cap, x = .slice a len cap ∧ len = xs.length ∧ xs.length ≤ cap ∧ ∀ m, h ≤ m → Reps w S φ [.view r ((xs.take h).drop l)] [.slice (if m = l then a else a.map (·.add (l * sz))) (h - l) (m - l)] := by
  subst hrs
  cases ha with
  | view0 _ _ hx' a c =>
    subst hx'
    refine ⟨a, 0, c, rfl, rfl, by simp, fun m hm => ?_⟩
    have : h - l = 0 := by simp at hx; omega
    rw [this]
    exact .view0 _ _ (by simp) _ _ .nil
  | view _ _ c hc0 hs hc hr =>
    rename_i us B o _
    refine ⟨_, _, c, rfl, rfl, hc0, fun m hm => ?_⟩
    by_cases e : h - l = 0
    · rw [e]
      exact .view0 _ _ (by rw [List.drop_eq_nil_of_le (by simp; omega)]) _ _ .nil
    · have hm' : m ≠ l := by omega
      rw [if_neg hm']
      simp only [Option.map_some, Addr.add_plain]
      have hlen : h - l = ((xs.take h).drop l).length := by simp; omega
      rw [hlen]
      refine .view _ _ _ (by rw [← hlen]; omega) hs (us := (us.take (h * r.size)).drop (l * r.size)) ((hc.take _).drop _) ?_ .nil
      · rw [flatMap_takeDrop]
        exact (hr.take _).drop _


theorem sliceV_gives {t : TypeId} {a : AV} {x : Value} (ha : Reps w S φ [a] [x]) {ρ : Operand → AV} {η : Operand → Value} {lo hi mx : Option Operand}
    (h1 : ∀ o, lo = some o → Reps w S φ [ρ o] [η o]) (h2 : ∀ o, hi = some o → Reps w S φ [ρ o] [η o]) (h3 : ∀ o, mx = some o → Reps w S φ [ρ o] [η o]) :
    Gives P w S φ (sliceV P t a (lo.map ρ) (hi.map ρ) (mx.map ρ)) (Instr.sliceAt t x (lo.map η) (hi.map η) (mx.map η)) := by
  unfold sliceV
  split
  · rename_i lo' hi' mx' hl hh hm
    have ol := boundV_inv h1 hl
    have oh := boundV_inv h2 hh
    have om := boundV_inv h3 hm
    split
    · -- a string
      rename_i hu
      split
      · rename_i s
        obtain ⟨s, rfl, rfl⟩ := str_inv ha
        refine .asrt fun hc => ?_
        have es : s.data.toList.length = s.size := by rw [Array.length_toList]; rfl
        obtain ⟨c1, c2, c3⟩ := hc
        have key := sliceBounds_run (P := P) (w := w) (isSlice := false) (len := s.size) (cap := s.size) ol oh om
          (l := (lowOf lo').toNat) (h := (highOf hi' (s.data.toList.length : Int)).toNat) (m := s.size) (by omega)
          (by cases hi' with
              | none => simp only [highOf] at c2 c3 ⊢; omega
              | some q => obtain ⟨_, n⟩ := q; simp only [highOf] at c2 c3 ⊢; omega) (by simp [highOf]) (by omega) (by intro _; omega) (by omega) (by simp)
        have emx : mx.map η = none := by cases hq : mx.map η with | none => rfl | some v => rw [hq] at om; exact om.elim
        refine .ret (z := .string (s.extract (lowOf lo').toNat (highOf hi' (s.data.toList.length : Int)).toNat)) ?_ ?_
        · rw [emx] at key ⊢
          simp [Instr.sliceAt, Instr.slice, und_run hu, key]
        · have e : (s.extract (lowOf lo').toNat (highOf hi' (s.data.toList.length : Int)).toNat).data.toList =
              (s.data.toList.take (highOf hi' (s.data.toList.length : Int)).toNat).drop (lowOf lo').toNat := by
            simp [ByteArray.data_extract, List.extract_eq_take_drop, List.drop_take]
          rw [← e]
          exact .str _ .nil
      · exact .fail _
    · -- a slice
      rename_i e hu
      split
      · exact .fail _
      · rename_i sz hsz
        have zero : ∀ (b : Option Addr) (len cap : Nat), lo' = none → hi' = some (true, 0) → mx' = some (true, 0) → x = .slice b len cap → Gives P w S φ (.ret .nils) (Instr.sliceAt t x (lo.map η) (hi.map η) (mx.map η)) := by
          intro b len cap e1 e2 e3 ex
          subst e1 e2 e3 ex
          have key := sliceBounds_run (P := P) (w := w) (isSlice := true) (len := len) (cap := cap) ol oh om (l := 0) (h := 0) (m := 0) (by simp [lowOf]) (by simp [highOf]) (by simp [highOf]) (by omega) (by intro _; omega) (by omega) (by simp)
          refine .ret (sliceAt_run hu hsz key) ?_
          exact .nils _ .nil
        split
        · cases ha with
          | view0 => exact zero _ _ _ rfl rfl rfl rfl
          | view => exact zero _ _ _ rfl rfl rfl rfl
        · cases ha with
          | own h =>
            obtain ⟨s, _, h2⟩ := h
            obtain ⟨a, l, c, rfl⟩ := Slot.fits_slice h2
            exact zero _ _ _ rfl rfl rfl rfl
        · cases ha with
          | slc h =>
            obtain ⟨s, B, c, _, _, h5⟩ := h
            rcases h5 with ⟨_, a, rfl⟩ | ⟨_, _, rfl⟩ <;> exact zero _ _ _ rfl rfl rfl rfl
        · cases ha with
          | lv0 => exact zero _ _ _ rfl rfl rfl rfl
          | lv => exact zero _ _ _ rfl rfl rfl rfl
        · -- nils, no third bound
          cases ha with
          | nils b =>
            refine .need fun hc => ?_
            have key := sliceBounds_run (P := P) (w := w) (isSlice := true) (len := 0) (cap := 0) ol oh om (l := 0) (h := 0) (m := 0) (by omega)
              (by cases hi' with
                  | none => simp [highOf]
                  | some q => obtain ⟨_, n⟩ := q; have := hc.2; simp only [lowOf, highOf] at this ⊢; omega) (by simp [highOf]) (by omega) (by intro _; omega) (by omega) (by simp)
            exact .ret (sliceAt_run hu hsz key) (.nils _ .nil)
        · cases ha with
          | nils b =>
            refine .need fun hc => ?_
            obtain ⟨c1, c2, c3⟩ := hc
            have key := sliceBounds_run (P := P) (w := w) (isSlice := true) (len := 0) (cap := 0) ol oh om (l := 0) (h := 0) (m := 0) (by omega) (by simp only [highOf]; omega) (by simp only [highOf]; omega) (by omega) (by intro _; omega) (by omega) (by simp)
            exact .ret (sliceAt_run hu hsz key) (.nils _ .nil)
        · -- a view, no third bound
          rename_i r xs
          split
          · rename_i hrs
            refine .asrt fun hc => ?_
            obtain ⟨c1, c2, c3⟩ := hc
            obtain ⟨b, len, cap, rfl, rfl, hcap, hv⟩ := view_part ha hrs (l := (lowOf lo').toNat) (h := (highOf hi' (xs.length : Int)).toNat) (by omega) (by omega)
            have key := sliceBounds_run (P := P) (w := w) (isSlice := true) (len := xs.length) (cap := cap) ol oh om
              (l := (lowOf lo').toNat) (h := (highOf hi' (xs.length : Int)).toNat) (m := cap) (by omega)
              (by cases hi' with
                  | none => simp only [highOf] at c2 c3 ⊢; omega
                  | some q => obtain ⟨_, n⟩ := q; simp only [highOf] at c2 c3 ⊢; omega) (by simp [highOf]) (by omega) (by intro _; omega) (by omega) (by simp)
            exact .ret (sliceAt_run hu hsz key) (hv cap (by omega))
          · exact .fail _
        · -- a view, with a third bound
          rename_i h _ m r xs _
          split
          · rename_i hrs
            refine .asrt fun hc => ?_
            obtain ⟨c1, c2, c3, c4⟩ := hc
            obtain ⟨b, len, cap, rfl, rfl, hcap, hv⟩ := view_part ha hrs (l := (lowOf lo').toNat) (h := h.toNat) (by omega) (by omega)
            have key := sliceBounds_run (P := P) (w := w) (isSlice := true) (len := xs.length) (cap := cap) ol oh om
              (l := (lowOf lo').toNat) (h := h.toNat) (m := m.toNat) (by omega) (by simp only [highOf]; omega) (by simp only [highOf]; omega) (by omega) (by intro _; omega) (by omega) (by simp)
            exact .ret (sliceAt_run hu hsz key) (hv m.toNat (by omega))
          · exact .fail _
        · -- a slice of cells of the call's own
          rename_i b off n sz'
          dsimp only
          split
          · rename_i hc
            obtain ⟨_, _, rfl, c1, c2, c3, c4⟩ := hc
            cases ha with
            | slc h =>
              obtain ⟨s, B, c, h5, h6, h7⟩ := h
              rcases h7 with ⟨rfl, a, rfl⟩ | ⟨h7, h8, rfl⟩
              · have key := sliceBounds_run (P := P) (w := w) (isSlice := true) (len := 0) (cap := c) ol oh om (l := 0) (h := 0) (m := c)
                  (by omega) (by cases hi' with
                      | none => simp [highOf]
                      | some q => obtain ⟨_, n⟩ := q; simp only [highOf] at c1 c2 c3 ⊢; omega) (by simp [highOf]) (by omega) (by intro _; omega) (by omega) (by simp)
                refine .ret (sliceAt_run hu hsz key) ?_
                have e0 : ((highOf hi' ((0 : Nat) : Int)) - lowOf lo').toNat = 0 := by omega
                rw [e0]
                exact .slc ⟨s, B, c - 0, h5, h6, .inl ⟨rfl, _, rfl⟩⟩ .nil
              · have key := sliceBounds_run (P := P) (w := w) (isSlice := true) (len := n) (cap := c) ol oh om (l := (lowOf lo').toNat) (h := (highOf hi' (n : Int)).toNat) (m := c)
                  (by omega) (by cases hi' with
                      | none => simp only [highOf] at c2 c3 ⊢; omega
                      | some q => obtain ⟨_, n⟩ := q; simp only [highOf] at c1 c2 c3 ⊢; omega) (by simp [highOf]) (by omega) (by intro _; omega) (by omega) (by simp)
                refine .ret (sliceAt_run hu hsz key) ?_
                have e0 : ((highOf hi' (n : Int)) - lowOf lo').toNat = (highOf hi' (n : Int)).toNat - (lowOf lo').toNat := by omega
                rw [e0]
                by_cases e : (highOf hi' (n : Int)).toNat - (lowOf lo').toNat = 0
                · rw [e]
                  exact .slc ⟨s, B, _, h5, h6, .inl ⟨rfl, _, rfl⟩⟩ .nil
                · have hm' : c ≠ (lowOf lo').toNat := by omega
                  rw [if_neg hm']
                  simp only [Option.map_some, Addr.add_plain]
                  refine .slc ⟨s, B, c - (lowOf lo').toNat, h5, h6, .inr ⟨by omega, fun e1 e2 => ?_, rfl⟩⟩ .nil
                  rcases c4 with c4 | c4
                  · omega
                  · have hz : off = 0 := by omega
                    have hl0 : (lowOf lo').toNat * sz' = 0 := by omega
                    rw [c4] at e2 ⊢
                    have : (lowOf lo').toNat = 0 ∨ sz' = 0 := Nat.mul_eq_zero.1 hl0
                    rcases this with h9 | h9
                    · rw [h9] at e2 ⊢
                      have := h8 hz (by simpa using e2)
                      simp [this]
                    · subst h9
                      have := h8 hz (by simp at e2 ⊢; exact e2)
                      subst this
                      simp
          · exact .fail _
        · -- the whole of one's own
          cases ha with
          | own h =>
            have h0 := h
            obtain ⟨s, h5, h2⟩ := h
            obtain ⟨a, l, c, rfl⟩ := Slot.fits_slice h2
            have key := sliceBounds_run (P := P) (w := w) (isSlice := true) (len := l) (cap := c) ol oh om (l := 0) (h := l) (m := c) (by simp [lowOf]) (by simp [highOf]) (by simp [highOf]) (by omega) (by simp) (by omega) (by simp)
            refine .ret (sliceAt_run hu hsz key) ?_
            have e : (if c = 0 then a else a.map (·.add (0 * sz))) = a := by
              split
              · rfl
              · cases a <;> simp [Addr.add]
            rw [e]
            exact .own (by simpa using h0) .nil
        · exact .fail _
    · -- an array
      rename_i n e hu
      split
      · rename_i sz b off hsz
        cases ha with
        | ptr h =>
          obtain ⟨s, B, h5, h6, rfl⟩ := h
          have key := sliceBounds_run (P := P) (w := w) (isSlice := false) (len := n) (cap := n) ol oh om (l := 0) (h := n) (m := n) (by simp [lowOf]) (by simp [highOf]) (by simp [highOf]) (by omega) (by simp) (by omega) (by simp)
          refine .ret (z := .slice (some ⟨B, off, none⟩) n n) ?_ (.slc ⟨s, B, n, h5, h6, .inr ⟨by omega, by omega, rfl⟩⟩ .nil)
          simp [Instr.sliceAt, und_run hu, Instr.sureAddr, key, szOf_run hsz]
          intro _
          simp [Addr.add]
      · exact .fail _
    · exact .fail _
  · exact .fail _


/-! ### values made of parts -/
theorem fill_one (v : List Value) : ∀ (off : Nat) (cells : Array Value) (k : Nat), off + k + v.length ≤ cells.size →
    ((v.zipIdx k).foldl (fun cs (p : Value × Nat) => cs.setIfInBounds (off + p.2) p.1) cells).toList = cells.toList.take (off + k) ++ v ++ cells.toList.drop (off + k + v.length) := by
  induction v with
  | nil => intro off cells k h; simp
  | cons x v ih =>
    intro off cells k h
    simp only [List.zipIdx_cons, List.foldl_cons, List.length_cons] at h ⊢
    rw [ih off _ (k + 1) (by simp; omega)]
    have hlt : off + k < cells.toList.length := by simp; omega
    have e := list_seg_step cells.toList (off + k) x v (by simp; omega)
    rw [Array.toList_setIfInBounds]
    simpa [Nat.add_assoc, Nat.add_comm, Nat.add_left_comm] using e

theorem fill_one' (v : Array Value) (off : Nat) (cells : Array Value) (h : off + v.size ≤ cells.size) :
    (v.zipIdx.foldl (fun cs (p : Value × Nat) => cs.setIfInBounds (off + p.2) p.1) cells).toList = cells.toList.take off ++ v.toList ++ cells.toList.drop (off + v.size) := by
  have := fill_one v.toList off cells 0 (by simpa using h)
  rw [← Array.foldl_toList, Array.toList_zipIdx]
  simpa using this

theorem overlay_reps {cs vs : List AV} {us xs : List Value} (h : Reps w S φ cs us) (h' : Reps w S φ vs xs) (off : Nat) : Reps w S φ (overlay cs off vs) (us.take off ++ xs ++ us.drop (off + xs.length)) := by
  unfold overlay
  rw [h'.len]
  exact ((h.take off).app h').app (h.drop _)

/-- Parts that are related, one by one. -/
def PartsRep (w : World) (S : Nat → Prop) (φ : Env) : List (Nat × AV) → List (Nat × Value) → Prop
  | [], [] => True
  | (i, a) :: l, (j, v) :: m => i = j ∧ Reps w S φ [a] [v] ∧ PartsRep w S φ l m
  | _, _ => False

theorem fill_run {place : Nat → Option (Nat × Nat)} : ∀ {parts : List (Nat × AV)} {vparts : List (Nat × Value)} {cs cs' : List AV} {us : Array Value}, PartsRep w S φ parts vparts → plainParts parts = true →
    Reps w S φ cs us.toList → fillV place cs parts = some cs' → ∃ us', Instr.fill place us vparts = some us' ∧ Reps w S φ cs' us'.toList ∧ us'.size = us.size
  | [], [], cs, cs', us, _, _, hr, h => by
    cases h
    exact ⟨us, rfl, hr, rfl⟩
  | (i, a) :: parts, (j, v) :: vparts, cs, cs', us, hp, hpl, hr, h => by
    obtain ⟨rfl, ha, hp⟩ := hp
    have hpl' : plainParts parts = true ∧ a ≠ .any := by
      cases a <;> simp_all [plainParts]
    unfold fillV at h
    cases hpi : place i with
    | none => simp [hpi] at h
    | some q =>
      obtain ⟨off, size⟩ := q
      simp only [hpi] at h
      split at h
      · rename_i hc
        have hcr := cells_reps ha hpl'.2
        have hsz : v.cells.size = size := by have := hcr.len; simp at this; omega
        have hlen := hr.len
        have hfit : off + v.cells.size ≤ us.size := by simp at hlen; omega
        have e := fill_one' v.cells off us hfit
        have hr' := overlay_reps hr hcr off
        rw [show v.cells.toList.length = v.cells.size by simp, ← e] at hr'
        obtain ⟨us', h1, h2, h3⟩ := fill_run hp hpl'.1 hr' h
        refine ⟨us', ?_, h2, ?_⟩
        · have c1 : ¬ (v.cells.size ≠ size) := by omega
          have c2 : ¬ (off + v.cells.size > us.size) := by omega
          rw [Instr.fill, hpi]
          simp only [decide_eq_false c1, decide_eq_false c2, Bool.or_self, Bool.false_eq_true, if_false]
          exact h1
        · rw [h3, ← Array.length_toList, e]
          simp
          omega
      · cases h

theorem partsRep_of {ρ : Operand → AV} {η : Operand → Value} : ∀ {l : List (Nat × Operand)}, (∀ p ∈ l, Reps w S φ [ρ p.2] [η p.2]) → PartsRep w S φ (l.map fun (i, x) => (i, ρ x)) (l.map fun (i, x) => (i, η x))
  | [], _ => trivial
  | (i, x) :: l, h => ⟨rfl, h (i, x) (by simp), partsRep_of fun p hp => h p (by simp [hp])⟩

theorem buildV_gives {t : TypeId} {ρ : Operand → AV} {η : Operand → Value} {parts : Array (Nat × Operand)} (h : ∀ p ∈ parts.toList, Reps w S φ [ρ p.2] [η p.2]) :
    Gives P w S φ (buildV P t (parts.toList.map fun (i, x) => (i, ρ x))) (Instr.build t (parts.map fun (i, x) => (i, η x))) := by
  have hp := partsRep_of h
  have ep : (parts.map fun (i, x) => (i, η x)).toList = parts.toList.map fun (i, x) => (i, η x) := by simp
  unfold buildV
  split
  · rename_i hpl
    split
    · exact .fail _
    · rename_i it hit
      split
      · exact .fail _
      · rename_i z hz
        split
        · rename_i fs hu
          split
          · rename_i places hpla
            split
            · rename_i cs hcs
              have hzr : Reps w S φ (ofValue z).cells z.cells.toList := by
                unfold ofValue
                split
                · simpa [AV.cells, Value.cells] using ofCells_reps _
                · rename_i hna
                  by_cases ha : ofCell z = .any
                  · rw [ha]
                    cases z <;> first | exact .any _ .nil | (exact absurd rfl (hna _))
                  · exact cells_reps (ofCell_reps z) ha
              obtain ⟨us', h1, h2, _⟩ := fill_run hp hpl hzr hcs
              refine .ret (z := .agg us') (run_build w t _ us' ?_) ?_
              · unfold Program.built
                unfold placesOf at hpla
                simp only [hit, hu, hz, hpla, ep]
                simpa using h1
              · have := Reps.agg h2 (.nil (w := w) (S := S) (φ := φ))
                simpa using this
            · exact .fail _
          · exact .fail _
        · rename_i n e hu
          split
          · rename_i sz hsz
            split
            · rename_i cs hcs
              have hzr : Reps w S φ (ofValue z).cells z.cells.toList := by
                unfold ofValue
                split
                · simpa [AV.cells, Value.cells] using ofCells_reps _
                · rename_i hna
                  by_cases ha : ofCell z = .any
                  · rw [ha]
                    cases z <;> first | exact .any _ .nil | (exact absurd rfl (hna _))
                  · exact cells_reps (ofCell_reps z) ha
              obtain ⟨us', h1, h2, _⟩ := fill_run hp hpl hzr hcs
              obtain ⟨ie, hie, rfl⟩ := szOf_info hsz
              refine .ret (z := .agg us') (run_build w t _ us' ?_) ?_
              · unfold Program.built
                simp only [hit, hu, hz, hie, ep]
                simpa using h1
              · have := Reps.agg h2 (.nil (w := w) (S := S) (φ := φ))
                simpa using this
            · exact .fail _
          · exact .fail _
        · exact .fail _
  · exact .fail _


/-! ### conversions, lengths, the least and the greatest -/
theorem castL_inv : ∀ {r r' : RTy} {xs : List r'.carrier} {ys : List r.carrier}, castL r r' xs = some ys → ∃ h : r' = r, ys = h ▸ xs := by
  intro r r' xs ys h
  unfold castL at h
  split at h <;> first
    | (cases h; exact ⟨rfl, rfl⟩)
    | (split at h
       · rename_i hk; subst hk; cases h; exact ⟨rfl, rfl⟩
       · cases h)
    | (cases h)

theorem ints_cells {k : IntKind} : ∀ {xs : List Int} {us : List Value}, Reps w S φ (xs.flatMap (RTy.enc (.int k))) us → us = xs.map (Value.int k)
  | [], us, h => by cases h.nil_inv; rfl
  | x :: xs, us, h => by
    simp only [List.flatMap_cons, RTy.enc, List.singleton_append] at h
    obtain ⟨v, us, rfl, h1, h2⟩ := h.uncons
    cases h1
    rw [ints_cells h2]
    rfl

theorem strOf_nums (xs : List Int) : (xs.foldl (fun r n => r.push (UInt8.ofNat n.toNat)) ByteArray.empty).data.toList = xs.map fun n => UInt8.ofNat n.toNat := by
  have key : ∀ (xs : List Int) (s : ByteArray), (xs.foldl (fun r n => r.push (UInt8.ofNat n.toNat)) s).data.toList = s.data.toList ++ xs.map fun n => UInt8.ofNat n.toNat := by
    intro xs
    induction xs with
    | nil => intro s; simp
    | cons x xs ih => intro s; simp [ih]
  rw [key]
  rfl

theorem bytesOf_gives {look : Nat → Option Blk} (HL : HeapRep w S φ look) {a : AV} {x : Value} {xs : List Int} (h : bytesOf look a = some xs) (ha : Reps w S φ [a] [x]) :
    ∃ b len cap, x = .slice b len cap ∧ ∃ s, (Conv.bytesToString x).run P w = .ok (.string s) w ∧ s.data.toList = xs.map fun n => UInt8.ofNat n.toNat := by
  have some_case : ∀ (B o len cap : Nat) (us : List Value) (n : Nat), us = xs.map (Value.int .u8) → len = us.length → cellsAt w B o us →
      ∃ s, (Conv.bytesToString (.slice (some ⟨B, o, none⟩) len cap)).run P w = .ok (.string s) w ∧ s.data.toList = xs.map fun n => UInt8.ofNat n.toNat := by
    intro B o len cap us _ e el hc
    refine ⟨_, run_bytesToString w _ len cap xs ?_, strOf_nums xs⟩
    have hl := run_loadCells_list (P := P) w ⟨B, o, none⟩ us (fun j u hj => by rw [Addr.add_plain]; exact hc j u hj)
    rw [el, ← e]
    exact hl
  have none_case : ∀ (b : Option Addr) (cap : Nat), xs = [] → ∃ s, (Conv.bytesToString (.slice b 0 cap)).run P w = .ok (.string s) w ∧ s.data.toList = xs.map fun n => UInt8.ofNat n.toNat := by
    intro b cap e
    subst e
    cases b with
    | none => exact ⟨.empty, by simp [Conv.bytesToString], rfl⟩
    | some b =>
      refine ⟨_, run_bytesToString w b 0 cap [] (by simp [loadCells, loadCellsFrom]), rfl⟩
  unfold bytesOf at h
  split at h <;> try (cases h; done)
  · cases h
    cases ha with
    | view0 _ _ hx => exact ⟨_, _, _, rfl, none_case _ _ hx⟩
    | view _ _ c hc0 hs hc hr =>
      have e := ints_cells hr
      exact ⟨_, _, _, rfl, some_case _ _ _ _ _ 0 e (by rw [e]; simp) hc⟩
  · cases h
    cases ha
    exact ⟨_, _, _, rfl, none_case _ _ rfl⟩
  · split at h <;> try (cases h; done)
    rename_i e' xs' hl
    cases h
    cases ha with
    | own h =>
      obtain ⟨sl, h1, hv⟩ := h
      obtain ⟨B', cap, len, h3, rfl, us, h4, h5, h6⟩ := HL _ _ hl
      rw [h1] at h3
      cases h3
      have e := ints_cells h5
      cases B' with
      | none =>
        obtain ⟨a0, rfl⟩ : ∃ a, x = .slice a 0 0 := hv
        have : xs = [] := by
          obtain ⟨_, h7⟩ := h4
          rcases h7 with ⟨_, h7⟩ | ⟨g, c, cur, hv, _⟩
          · exact List.eq_nil_of_length_eq_zero h7
          · simp [baseOf] at hv
        subst this
        exact ⟨_, _, _, rfl, none_case _ _ rfl⟩
      | some B =>
        simp only [Slot.fits] at hv
        subst hv
        exact ⟨_, _, _, rfl, some_case _ _ _ _ _ 0 e (by rw [e]; simp) (ownsRow_cells h4)⟩

theorem convertV_gives {look : Nat → Option Blk} (HL : HeapRep w S φ look) {src dst : TypeId} {a : AV} {x : Value} (ha : Reps w S φ [a] [x]) : Gives P w S φ (convertV P look src dst a) (Go.convert src dst x) := by
  unfold convertV
  split
  · rename_i d k l k' n hs hd hn
    cases num_inv hn ha
    refine .ret (z := .int k (k.wrap n)) ?_ (mkInt_rep _ _ _)
    simp [Go.convert, und_run hs, und_run hd, Conv.intToInt]
  · rename_i e hs hd hn
    split
    · rename_i he
      split
      · rename_i xs hxs
        obtain ⟨b, len, cap, rfl, s, hr, e⟩ := bytesOf_gives (P := P) HL hxs ha
        refine .ret (z := .string s) ?_ (by rw [← e]; exact .str _ .nil)
        rw [run_convert_bytes_string w src dst _ b len cap hs he hd, hr]
      · exact .fail _
    · exact .fail _
  · rename_i hs hd hn
    split
    · obtain ⟨s, rfl, rfl⟩ := str_inv ha
      exact .ret (by simp [Go.convert, und_run hs, und_run hd]) (.str _ .nil)
    · exact .fail _
  · exact .fail _

theorem lenV_gives {look : Nat → Option Blk} (HL : HeapRep w S φ look) {t : TypeId} {a : AV} {x : Value} (ha : Reps w S φ [a] [x]) (ts : Array TypeId) (ty : TypeId) (ht : ts[0]? = some t) (xs : Array Value) (hx : xs[0]? = some x) :
    Gives P w S φ (lenV P look t a) (Builtin.len_ ts ty xs) := by
  have sl : ∀ (e : TypeId) (b : Option Addr) (len cap : Nat), P.underlying t = some (.slice e) → x = .slice b len cap → (Builtin.len_ ts ty xs).run P w = .ok (.int .i64 len) w := by
    intro e b len cap hu e
    subst e
    simp [Builtin.len_, ht, hx, und_run hu, goInt]
  unfold lenV
  split
  · rename_i hu
    split
    · obtain ⟨s, rfl, rfl⟩ := str_inv ha
      refine .ret (z := .int .i64 s.size) (by simp [Builtin.len_, ht, hx, und_run hu, goInt]) ?_
      have : s.data.toList.length = s.size := by rw [Array.length_toList]; rfl
      rw [this]
      exact .int _ _ .nil
    · exact .fail _
  · rename_i n e hu
    exact .ret (z := .int .i64 n) (by simp [Builtin.len_, ht, hx, und_run hu, goInt]) (.lit _ _ .nil)
  · rename_i e hu
    split
    · cases ha with
      | view0 _ _ hx' => subst hx'; exact .ret (sl e _ _ _ hu rfl) (.int _ _ .nil)
      | view => exact .ret (sl e _ _ _ hu rfl) (.int _ _ .nil)
    · cases ha; exact .ret (sl e _ _ _ hu rfl) (.lit _ _ .nil)
    · cases ha with
      | slc h =>
        obtain ⟨s, B, c, _, _, h3⟩ := h
        rcases h3 with ⟨rfl, a, rfl⟩ | ⟨_, _, rfl⟩
        · exact .ret (sl e _ _ _ hu rfl) (.lit _ _ .nil)
        · exact .ret (sl e _ _ _ hu rfl) (.lit _ _ .nil)
    · cases ha with
      | lv0 => exact .ret (sl e _ _ _ hu rfl) (.lit _ _ .nil)
      | lv => exact .ret (sl e _ _ _ hu rfl) (.lit _ _ .nil)
    · split
      · rename_i hl
        cases ha with
        | own h =>
          obtain ⟨s, h1, hv⟩ := h
          obtain ⟨B', cap, len, h3, rfl, us, h4, _⟩ := HL _ _ hl
          rw [h1] at h3
          cases h3
          cases B' with
          | none =>
            obtain ⟨a0, rfl⟩ : ∃ a, x = .slice a 0 0 := hv
            obtain ⟨_, h7⟩ := h4
            rcases h7 with ⟨_, h7⟩ | ⟨g, c, cur, hv, _⟩
            · rw [h7]
              exact .ret (sl e _ _ _ hu rfl) (.int _ _ .nil)
            · simp [baseOf] at hv
          | some B =>
            simp only [Slot.fits] at hv
            subst hv
            exact .ret (sl e _ _ _ hu rfl) (.int _ _ .nil)
      · exact .fail _
    · exact .fail _
  · rename_i kt e hu
    split
    · cases ha
      exact .ret (z := .int .i64 0) (by simp [Builtin.len_, ht, hx, und_run hu, goInt]) (.lit _ _ .nil)
    · split
      · rename_i r es hl
        cases ha with
        | map h =>
          obtain ⟨s, B, h1, h2, rfl⟩ := h
          obtain ⟨B', cap, len, h3, B'', ms, clock, rfl, h4, h5⟩ := HL _ _ hl
          rw [h1] at h3
          cases h3
          cases h2
          have hlen : ∀ {es : List (Int × r.carrier)} {ms : List MapEntry}, IMapRep w S φ r es ms → es.length = ms.length := by
            intro es
            induction es with
            | nil => intro ms h; cases ms with | nil => rfl | cons m ms => exact h.elim
            | cons p es ih =>
              intro ms h
              cases ms with
              | nil => exact h.elim
              | cons m ms => obtain ⟨k, x⟩ := p; simp [ih h.2.2]
          refine .ret (z := .int .i64 ms.size) ?_ ?_
          · simp [Builtin.len_, ht, hx, und_run hu, goInt, getObj, Sem.run, h4]
          · rw [hlen h5]
            simp
            exact .int _ _ .nil
      · exact .fail _
    · exact .fail _
  · exact .fail _

theorem foldNum_gives {f : Int → Int → Int} {g : Value → Value → Sem Value} (hg : ∀ k x y, g (.int k x) (.int k y) = pure (.int k (f x y))) : ∀ {as : List AV} {a : AV} {x : Value} {vs : List Value},
    Reps w S φ [a] [x] → Reps w S φ as vs → Gives P w S φ (foldNum f a as) (vs.foldlM g x)
  | [], a, x, vs, ha, h => by
    cases h.nil_inv
    exact .ret (by simp) ha
  | b :: as, a, x, vs, ha, h => by
    obtain ⟨v, vs, rfl, h1, h2⟩ := h.uncons
    unfold foldNum
    split
    · rename_i la k m lb k' n hm hn
      cases num_inv hm ha
      cases num_inv hn h1
      split
      · rename_i hk
        subst hk
        refine (foldNum_gives hg (mkInt_rep _ _ _) h2).congr ?_
        simp [hg]
      · exact .fail _
    · exact .fail _


/-! ### interfaces -/
theorem typeAssertV_gives {a : AV} {x : Value} (ha : Reps w S φ [a] [x]) (xt t : TypeId) (ok : Bool) : Gives P w S φ (typeAssertV P a t ok) (Instr.typeAssert x xt t ok) := by
  unfold typeAssertV
  split
  · exact .fail _
  · exact .fail _
  · rename_i d hni hu
    have hd : ∀ ms, d ≠ .interface ms := fun ms e => hni ms (by rw [e])
    split
    · rename_i t' v
      cases ha with
      | iface _ h =>
        rename_i xv _
        split
        · rename_i ht
          subst ht
          refine .ret (z := if ok then .tuple #[xv, .bool true] else xv) ?_ ?_
          · cases d <;> first | (exact absurd rfl (hd _)) | (cases ok <;> simp [Instr.typeAssert, und_run hu])
          · cases ok
            · simpa using h
            · simpa using Reps.tup (us := [_, .bool true]) (h.cons (.blit _ .nil)) (.nil (w := w) (S := S) (φ := φ))
        · rename_i ht
          split
          · rename_i z hz
            obtain ⟨i, zv, _, _, rfl, hzr⟩ := zeroAV_run (w := w) hz
            refine .ret (z := .tuple #[zv, .bool false]) ?_ ?_
            · cases d <;> first | (exact absurd rfl (hd _)) | simp [Instr.typeAssert, und_run hu, ht, hzr]
            · simpa using Reps.tup (us := [_, .bool false]) ((ofValue_reps zv).cons (.blit _ .nil)) (.nil (w := w) (S := S) (φ := φ))
          · exact .fail _
    · cases ha
      split
      · rename_i z hz
        obtain ⟨i, zv, _, _, rfl, hzr⟩ := zeroAV_run (w := w) hz
        refine .ret (z := .tuple #[zv, .bool false]) ?_ ?_
        · cases d <;> first | (exact absurd rfl (hd _)) | simp [Instr.typeAssert, und_run hu, hzr]
        · simpa using Reps.tup (us := [_, .bool false]) ((ofValue_reps zv).cons (.blit _ .nil)) (.nil (w := w) (S := S) (φ := φ))
      · exact .fail _
    · exact .fail _

/-! ### maps -/
theorem lget_inv : ∀ {es : List (AV × AV)} {ms : List MapEntry} {k : Int} {r : Option AV} (i : Nat), lget es k = some r → LMapRep w S φ es ms →
    (∃ q, Instr.findNow (.int .i64) (.int .i64 k) ms i = some q ∧ (match r, q with | none, none => True | some a, some (_, v) => Reps w S φ [a] [v] | _, _ => False))
  | [], [], k, r, i, h, _ => by cases h; exact ⟨none, rfl, trivial⟩
  | (a, x) :: es, m :: ms, k, r, i, h, ⟨⟨j, e1, e2⟩, h2, h3⟩ => by
    subst e1
    unfold lget at h
    split at h
    · rename_i hj
      cases h
      subst hj
      exact ⟨some (i, m.val), by simp [Instr.findNow, Instr.sameNow, e2], h2⟩
    · rename_i hj
      obtain ⟨q, h4, h5⟩ := lget_inv (i + 1) h h3
      refine ⟨q, ?_, h5⟩
      have : (k == j) = false := by simpa using fun e => hj e.symm
      simp [Instr.findNow, Instr.sameNow, e2, this, h4]
theorem mget_inv {r : RTy} : ∀ {es : List (Int × r.carrier)} {ms : List MapEntry} {k : Int} (i : Nat), IMapRep w S φ r es ms →
    (∃ q, Instr.findNow (.int .i64) (.int .i64 k) ms i = some q ∧ (match mget es k, q with | none, none => True | some x, some (_, v) => ValRep w S φ r x v | _, _ => False))
  | [], [], k, i, _ => ⟨none, rfl, trivial⟩
  | (j, x) :: es, m :: ms, k, i, ⟨e2, h2, h3⟩ => by
    unfold mget
    by_cases hj : j = k
    · subst hj
      exact ⟨some (i, m.val), by simp [Instr.findNow, Instr.sameNow, e2], by simpa using h2⟩
    · obtain ⟨q, h4, h5⟩ := mget_inv (k := k) (i + 1) h3
      refine ⟨q, ?_, by simpa [hj] using h5⟩
      have : (k == j) = false := by simpa using fun e => hj e.symm
      simp [Instr.findNow, Instr.sameNow, e2, this, h4]

theorem isAgg_enc {r : RTy} (h : r.isAgg = false) (x : r.carrier) : ∃ c, r.enc x = [c] := by
  cases r <;> first | (cases h; done) | exact ⟨_, rfl⟩

theorem checkKey_run (P : Program) (w : World) {kt : TypeId} (hk : P.underlying kt = some (.int .i64)) (b : Bool) (n : Nat) (k : Int) : (Instr.checkKey b (n + 1) kt (.int .i64 k)).run P w = .ok () w := by
  simp [Instr.checkKey, und_run hk]


/-! ### rows out of cells -/
theorem i_reps {k : IntKind} {a : AV} {n : Int} {as bs : List AV} {us : List Value} (h : a.asIntK k = some n) (hr : Reps w S φ (a :: as) us) (rest : ∀ us', Reps w S φ as us' → Reps w S φ bs us') : Reps w S φ (.int k n :: bs) us := by
  obtain ⟨v, us, rfl, h1, h2⟩ := hr.uncons
  rw [asIntK_inv h h1]
  exact .int _ _ (rest _ h2)
theorem b_reps {a : AV} {n : Bool} {as bs : List AV} {us : List Value} (h : a.b = some n) (hr : Reps w S φ (a :: as) us) (rest : ∀ us', Reps w S φ as us' → Reps w S φ bs us') : Reps w S φ (.bool n :: bs) us := by
  obtain ⟨v, us, rfl, h1, h2⟩ := hr.uncons
  unfold AV.b at h
  split at h <;> cases h
  · cases h1; exact .bool _ (rest _ h2)
  · cases h1; exact .bool _ (rest _ h2)
theorem s_reps {a : AV} {n : List UInt8} {as bs : List AV} {us : List Value} (h : a.s = some n) (hr : Reps w S φ (a :: as) us) (rest : ∀ us', Reps w S φ as us' → Reps w S φ bs us') : Reps w S φ (.str n :: bs) us := by
  obtain ⟨v, us, rfl, h1, h2⟩ := hr.uncons
  unfold AV.s at h
  split at h <;> cases h
  exact h1.cons (rest _ h2)
theorem decSpec_reps {l : List AV} {x : Fu.Spec} {us : List Value} (h : decSpec l = some x) (hr : Reps w S φ l us) : Reps w S φ (encSpec x) us := by
  unfold decSpec at h
  split at h
  · split at h
    · rename_i h1 h2 h3 h4 h5 h6
      cases h
      exact i_reps h1 hr fun _ hr => i_reps h2 hr fun _ hr => i_reps h3 hr fun _ hr => i_reps h4 hr fun _ hr => i_reps h5 hr fun _ hr => i_reps h6 hr fun _ hr => hr
    · cases h
  · cases h
theorem decJob_reps {l : List AV} {x : Fu.Job} {us : List Value} (h : decJob l = some x) (hr : Reps w S φ l us) : Reps w S φ (encJob x) us := by
  unfold decJob at h
  split at h
  · split at h
    · rename_i h1 h2 h3 h4 h5 h6 h7 h8
      cases h
      exact b_reps h1 hr fun _ hr => i_reps h2 hr fun _ hr => i_reps h3 hr fun _ hr => i_reps h4 hr fun _ hr => b_reps h5 hr fun _ hr => i_reps h6 hr fun _ hr => i_reps h7 hr fun _ hr => i_reps h8 hr fun _ hr => hr
    · cases h
  · cases h
theorem reps_parts {l : List AV} {us : List Value} (n m : Nat) (hr : Reps w S φ l us) : Reps w S φ (l.take n) (us.take n) ∧ Reps w S φ ((l.drop n).take m) ((us.drop n).take m) ∧ Reps w S φ (l.drop (n + m)) (us.drop (n + m)) ∧
    us = us.take n ++ ((us.drop n).take m ++ us.drop (n + m)) := by
  refine ⟨hr.take n, (hr.drop n).take m, hr.drop _, ?_⟩
  have : us.drop (n + m) = (us.drop n).drop m := by rw [List.drop_drop]
  rw [this, List.take_append_drop, List.take_append_drop]

theorem dec_reps : ∀ {r : RTy} {l : List AV} {x : r.carrier} {us : List Value}, r.dec l = some x → Reps w S φ l us → Reps w S φ (r.enc x) us := by
  intro r
  cases r with
  | int k =>
    intro l x us h hr
    simp only [RTy.dec] at h
    split at h
    · exact i_reps h hr fun _ hr => hr
    · cases h
  | bool =>
    intro l x us h hr
    simp only [RTy.dec] at h
    split at h
    · exact b_reps h hr fun _ hr => hr
    · cases h
  | str =>
    intro l x us h hr
    simp only [RTy.dec] at h
    split at h
    · exact s_reps h hr fun _ hr => hr
    · cases h
  | ints k =>
    intro l x us h hr
    simp only [RTy.dec] at h
    split at h
    · rename_i a
      unfold castView at h
      split at h
      · obtain ⟨e, rfl⟩ := castL_inv h
        rename_i r' xs
        subst e
        exact hr
      · cases h
        obtain ⟨v, rfl, h1⟩ := hr.one_inv
        cases h1
        exact .view0 _ _ rfl _ _ .nil
      · cases h
    · cases h
  | spec => intro l x us h hr; exact decSpec_reps h hr
  | spr =>
    intro l x us h hr
    simp only [RTy.dec] at h
    unfold decSpr at h
    split at h
    · split at h
      · rename_i h1 h2 h3
        cases h
        exact i_reps h1 hr fun _ hr => i_reps h2 hr fun _ hr => i_reps h3 hr fun _ hr => hr
      · cases h
    · cases h
  | fix =>
    intro l x us h hr
    simp only [RTy.dec] at h
    unfold decFix at h
    split at h
    · rename_i s a hs ha
      split at h
      · rename_i n hn
        cases h
        have h1 := decSpec_reps hs (hr.take 6)
        have h2 : Reps w S φ [.int .i64 n] (us.drop 6) := by
          have := hr.drop 6
          rw [ha] at this
          exact i_reps hn this fun _ hr => hr
        have := h1.app h2
        rwa [List.take_append_drop] at this
      · cases h
    · cases h
  | item =>
    intro l x us h hr
    simp only [RTy.dec] at h
    unfold decItem at h
    split at h
    · split at h
      · rename_i h1 h2
        cases h
        exact i_reps h1 hr fun _ hr => i_reps h2 hr fun _ hr => hr
      · cases h
    · cases h
  | live =>
    intro l x us h hr
    simp only [RTy.dec] at h
    unfold decLive at h
    obtain ⟨p1, p2, p3, p4⟩ := reps_parts 6 8 hr
    split at h
    · rename_i s j a b c hs hj ha
      split at h
      · rename_i h1 h2 h3
        cases h
        rw [ha] at p3
        have q3 := i_reps h1 p3 fun _ hr => i_reps h2 hr fun _ hr => i_reps h3 hr fun _ hr => hr
        have := (decSpec_reps hs p1).app ((decJob_reps hj p2).app q3)
        rw [← p4] at this
        simpa [RTy.enc, encLive] using this
      · cases h
    · cases h
  | ape =>
    intro l x us h hr
    simp only [RTy.dec] at h
    unfold decApe at h
    split at h
    · split at h
      · rename_i h1 h2 h3 h4 h5
        cases h
        exact i_reps h1 hr fun _ hr => i_reps h2 hr fun _ hr => i_reps h3 hr fun _ hr => i_reps h4 hr fun _ hr => i_reps h5 hr fun _ hr => hr
      · cases h
    · cases h
  | opt =>
    intro l x us h hr
    simp only [RTy.dec] at h
    unfold decOpt at h
    split at h
    · split at h
      · rename_i h1 h2 h3
        cases h
        exact i_reps h1 hr fun _ hr => i_reps h2 hr fun _ hr => i_reps h3 hr fun _ hr => hr
      · cases h
    · cases h
  | task =>
    intro l x us h hr
    simp only [RTy.dec] at h
    unfold decTask at h
    obtain ⟨p1, p2, p3, p4⟩ := reps_parts 1 6 hr
    obtain ⟨q1, q2, q3, q4⟩ := reps_parts 4 8 p3
    obtain ⟨o1, o2, o3, o4⟩ := reps_parts 0 2 q3
    simp only [List.drop_drop, Nat.zero_add, List.take_zero, List.nil_append] at q1 q2 q3 o2 o3 o4 q4
    split at h
    · rename_i a s b c d e j hh k ha hs hb hj hr' hk
      split at h
      · rename_i h1 h2 h3 h4 h5 h6
        cases h
        rw [ha] at p1
        rw [hb] at q1
        rw [hk] at o3
        have z1 := i_reps h1 p1 fun _ hr => hr
        have z2 := decSpec_reps hs p2
        have z3 := i_reps h2 q1 fun _ hr => i_reps h3 hr fun _ hr => i_reps h4 hr fun _ hr => i_reps h5 hr fun _ hr => hr
        have z4 := decJob_reps hj q2
        have z5 : Reps w S φ (encRing hh) ((us.drop 19).take 2) := by
          unfold decRing at hr'
          split at hr'
          · rename_i a1 b1 e1
            split at hr'
            · rename_i g1 g2
              cases hr'
              rw [e1] at o2
              exact i_reps g1 o2 fun _ hr => i_reps g2 hr fun _ hr => hr
            · cases hr'
          · cases hr'
        have z6 := b_reps h6 o3 fun _ hr => hr
        have := z1.app (z2.app (z3.app (z4.app (z5.app z6))))
        rw [← o4, ← q4, ← p4] at this
        simpa [RTy.enc, encTask] using this
      · cases h
    · cases h
  | aim =>
    intro l x us h hr
    simp only [RTy.dec] at h
    unfold decAim at h
    obtain ⟨p1, p2, p3, p4⟩ := reps_parts 1 6 hr
    split at h
    · rename_i a s b ha hs hb
      split at h
      · rename_i h1 h2
        cases h
        rw [ha] at p1
        rw [hb] at p3
        have := (i_reps h1 p1 fun _ hr => hr).app ((decSpec_reps hs p2).app (i_reps h2 p3 fun _ hr => hr))
        rw [← p4] at this
        simpa [RTy.enc, encAim] using this
      · cases h
    · cases h

theorem decRows_reps {r : RTy} : ∀ {n : Nat} {l : List AV} {xs : List r.carrier} {us : List Value}, decRows r n l = some xs → Reps w S φ l us → xs.length = n ∧ Reps w S φ (xs.flatMap r.enc) us
  | 0, l, xs, us, h, hr => by
    unfold decRows at h
    split at h
    · cases h; exact ⟨rfl, hr⟩
    · cases h
  | n + 1, l, xs, us, h, hr => by
    unfold decRows at h
    split at h
    · rename_i x ys hx hys
      cases h
      obtain ⟨h1, h2⟩ := decRows_reps hys (hr.drop r.size)
      refine ⟨by simp [h1], ?_⟩
      have := (dec_reps hx (hr.take r.size)).app h2
      rw [List.take_append_drop] at this
      simpa [List.flatMap_cons] using this
    · cases h

end
end Go.Fx
