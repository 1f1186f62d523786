/- Soundness of the operations that change no block that is there. -/
import Derived.Test.YtccfojgceohciaaFxH
namespace Go.Fx
open Go Go.RowKit

theorem repeatCells_reps {w : World} {S : Nat → Prop} {φ : Env} {zs : List AV} {zv : Array Value} (h : Reps w S φ zs zv.toList) (hz : 0 < zv.size) : ∀ n : Nat,
    Reps w S φ (repeatCells zs n) ((Array.range (n * zv.size)).map (zv[· % zv.size]!)).toList
  | 0 => by simpa [repeatCells] using Reps.nil
  | n + 1 => by
    have ih := (repeatCells_reps h hz n).app h
    have e : ((Array.range ((n + 1) * zv.size)).map (zv[· % zv.size]!)).toList = ((Array.range (n * zv.size)).map (zv[· % zv.size]!)).toList ++ zv.toList := by
      simp only [Array.toList_map, Array.toList_range]
      rw [show (n + 1) * zv.size = n * zv.size + zv.size by rw [Nat.add_mul]; omega, List.range_add, List.map_append, List.map_map]
      congr 1
      apply List.ext_getElem?
      intro i
      by_cases hi : i < zv.size
      · have : (n * zv.size + i) % zv.size = i := by rw [Nat.mul_comm, Nat.mul_add_mod]; exact Nat.mod_eq_of_lt hi
        simp [hi, this]
      · simp [hi]
    rw [e]
    exact ih

section
variable {C : Cfg} {w : World} {S : Nat → Prop} {φ : Env}

theorem valAV_rep {r : RTy} {x : r.carrier} {v : Value} (h : ValRep w S φ r x v) : Reps w S φ [valAV r x] [v] := by
  unfold ValRep at h
  unfold valAV
  cases hra : r.isAgg with
  | true =>
    rw [hra] at h
    obtain ⟨us, rfl, hu⟩ := h
    simpa using Reps.agg hu (.nil (w := w) (S := S) (φ := φ))
  | false =>
    rw [hra] at h
    obtain ⟨c, hc⟩ := isAgg_enc hra x
    rw [hc] at h
    simp only [hc]
    exact h.1
theorem val_of_cells {r : RTy} {d : r.carrier} {z : AV} {zv : Value} (hz : Reps w S φ [z] [zv]) (hd : r.dec z.cells = some d) (ha : z.aggQ = r.isAgg) : ValRep w S φ r d zv := by
  have hne : z ≠ .any := by
    rintro rfl
    cases r <;> simp_all [AV.cells, RTy.dec, AV.asIntK, AV.b, AV.s, castView, AV.aggQ, RTy.isAgg]
  have hc := dec_reps hd (cells_reps hz hne)
  unfold ValRep
  cases hra : r.isAgg with
  | true =>
    rw [hra] at ha
    cases z <;> simp only [AV.aggQ, Bool.false_eq_true] at ha
    cases hz
    exact ⟨_, rfl, hc⟩
  | false =>
    rw [hra] at ha
    obtain ⟨c, he⟩ := isAgg_enc hra d
    simp only
    have hone : zv.cells.toList = [zv] ∧ zv.oneCell' = true := by
      cases hz with
      | any => exact absurd rfl hne
      | agg => simp [AV.aggQ] at ha
      | tup => cases r <;> simp_all [AV.cells, RTy.dec, AV.asIntK, AV.b, AV.s, castView, RTy.isAgg]
      | ptr h => obtain ⟨s, B, h1, h2, rfl⟩ := h; exact ⟨rfl, rfl⟩
      | rptr h => obtain ⟨s, B, h1, h2, rfl⟩ := h; exact ⟨rfl, rfl⟩
      | own h => obtain ⟨s, h1, h2⟩ := h; obtain ⟨a, l, c, rfl⟩ := Slot.fits_slice h2; exact ⟨rfl, rfl⟩
      | slc h =>
        obtain ⟨s, B, c, h1, h2, h3⟩ := h
        rcases h3 with ⟨_, a, rfl⟩ | ⟨_, _, rfl⟩ <;> exact ⟨rfl, rfl⟩
      | map h => obtain ⟨s, B, h1, h2, rfl⟩ := h; exact ⟨rfl, rfl⟩
      | _ => exact ⟨rfl, rfl⟩
    rw [hone.1] at hc
    exact ⟨hc, hone.2⟩

/-- What a look-up finds: the value, and whether it was there. -/
def foundV (q : Option (Nat × Value)) (z : Value) : Value × Bool :=
  match q with
  | some (_, v) => (v, true)
  | none => (z, false)

theorem lookup_run {P : Program} {t kt e : TypeId} {B : Nat} {ms : Array MapEntry} {clock : Nat} {zv : Value} {i : Int} {q : Option (Nat × Value)} (hu : P.underlying t = some (.map kt e)) (hk : P.underlying kt = some (.int .i64))
    (h4 : w.heap[B]? = some (.map ms clock)) (hzr : (zeroValue e).run P w = .ok zv w) (h6 : Instr.findNow (.int .i64) (.int .i64 i) ms.toList 0 = some q) (ok : Bool) :
    (Instr.lookup t (.map (some B)) (.int .i64 i) ok).run P w = .ok (if ok then .tuple #[(foundV q zv).1, .bool (foundV q zv).2] else (foundV q zv).1) w := by
  have hgo : (getObj B).run P w = .ok (.map ms clock) w := by simp [getObj, Sem.run, h4]
  have hck := checkKey_run P w hk ms.isEmpty 9999 i
  have hfk : (Instr.findKey kt (.int .i64 i) ms.toList).run P w = .ok q w := by simp [Instr.findKey, und_run hk, h6]
  cases q with
  | none => simp [Instr.lookup, und_run hu, hgo, hck, hfk, hzr, foundV]
  | some p => obtain ⟨j, v⟩ := p; simp [Instr.lookup, und_run hu, hgo, hck, hfk, foundV]

theorem lookupV_gives {P : Program} {look : Nat → Option Blk} (HL : HeapRep w S φ look) {t : TypeId} {a b : AV} {x y : Value} (ha : Reps w S φ [a] [x]) (hb : Reps w S φ [b] [y]) (ok : Bool) :
    Gives P w S φ (lookupV P look t a b ok) (Instr.lookup t x y ok) := by
  unfold lookupV
  split
  · rename_i kt e b' l i hu hn
    cases num_inv hn hb
    split
    · rename_i hk
      split
      · exact .fail _
      · rename_i z hz
        obtain ⟨it, zv, _, _, rfl, hzr⟩ := zeroAV_run (w := w) hz
        cases ha with
        | map h =>
          obtain ⟨s, B, h1, h2, rfl⟩ := h
          split
          · rename_i r es hl
            obtain ⟨B', cap, len, h3, B'', ms, clock, rfl, h4, h5⟩ := HL _ _ hl
            rw [h1] at h3
            cases h3
            cases h2
            split
            · rename_i d hd
              split
              · rename_i hagg
                obtain ⟨q, h6, h7⟩ := mget_inv (k := i) 0 h5
                have hzd := val_of_cells (ofValue_reps (w := w) (S := S) (φ := φ) zv) hd hagg
                have hval : ValRep w S φ r ((mget es i).getD d) (foundV q zv).1 ∧ (foundV q zv).2 = (mget es i).isSome := by
                  cases hm : mget es i with
                  | none =>
                    cases q with
                    | none => exact ⟨hzd, rfl⟩
                    | some p => obtain ⟨j, v⟩ := p; simp [hm] at h7
                  | some y =>
                    cases q with
                    | none => simp [hm] at h7
                    | some p => obtain ⟨j, v⟩ := p; simp only [hm] at h7; exact ⟨h7, rfl⟩
                refine .ret (lookup_run hu hk h4 hzr h6 ok) ?_
                rw [← hval.2]
                cases ok
                · simpa using valAV_rep hval.1
                · simpa using Reps.tup (us := [_, _]) ((valAV_rep hval.1).cons (.bool (foundV q zv).2 .nil)) (.nil (w := w) (S := S) (φ := φ))
              · exact .fail _
            · exact .fail _
          · rename_i es hl
            obtain ⟨B', cap, len, h3, B'', ms, clock, rfl, h4, h5⟩ := HL _ _ hl
            rw [h1] at h3
            cases h3
            cases h2
            split
            · rename_i a' hl2
              obtain ⟨q, h6, h7⟩ := lget_inv 0 hl2 h5
              refine .ret (lookup_run hu hk h4 hzr h6 ok) ?_
              cases q with
              | none => exact h7.elim
              | some p =>
                obtain ⟨j, v⟩ := p
                cases ok
                · simpa [foundV] using h7
                · simpa [foundV] using Reps.tup (us := [_, .bool true]) (h7.cons (.blit _ .nil)) (.nil (w := w) (S := S) (φ := φ))
            · rename_i hl2
              obtain ⟨q, h6, h7⟩ := lget_inv 0 hl2 h5
              refine .ret (lookup_run hu hk h4 hzr h6 ok) ?_
              cases q with
              | some p => obtain ⟨j, v⟩ := p; exact h7.elim
              | none =>
                cases ok
                · simpa [foundV] using ofValue_reps zv
                · simpa [foundV] using Reps.tup (us := [_, .bool false]) ((ofValue_reps zv).cons (.blit _ .nil)) (.nil (w := w) (S := S) (φ := φ))
            · exact .fail _
          · exact .fail _
    · exact .fail _
  · exact .fail _


/-- All contracts hold. -/
structure CfgOK (C : Cfg) : Prop where
  mixed : C.P.follows .mixedOrders = true
  con : ∀ g c, (g, c) ∈ C.con → ValidCon C.P g c
  pcon : ∀ g f, (g, f) ∈ C.pcon → ValidPcon C.P g f

theorem resD_sound (OK : CfgOK C) {base : Nat} {o : Oper} {ρ : Operand → AV} {look : Nat → Option Blk} {a : Act} {K : Act → World → Prop} {Q : Exit → Act → World → Prop}
    (HL : HeapRep w S φ look) (hdisj : ∀ B, Own φ B → ¬ S B) (hsow : ∀ B, S B ∨ Own φ B → B < w.heap.size) (hops : ∀ x ∈ o.op.operands, Reps w S φ [ρ x] [a.eval x])
    (h : (resD C base o ρ look).wp fun r => FreshE φ base r.2.length ∧ ∀ x w' φ', ResPost w S φ base r.1 r.2 x w' φ' → K (a.put o.dst x) w') : o.wp C.P a w K Q := by
  unfold resD at h
  have opsr : ∀ x, x ∈ o.op.operands → Reps w S φ [ρ x] [a.eval x] := hops
  split at h
  · rename_i x ho
    exact pure_step (t := .ret (ρ x)) (s := pure (a.eval x)) (by simp [execOp, ho]) (.ret rfl (opsr x (by simp [ho, Op.operands]))) h
  · rename_i x ho
    exact pure_step (t := .ret (ρ x)) (s := pure (a.eval x)) (by simp [execOp, ho]) (.ret rfl (opsr x (by simp [ho, Op.operands]))) h
  · rename_i c x y ho
    exact pure_step (s := do pure (if ← asBool (a.eval c) then a.eval x else a.eval y)) (by simp [execOp, ho])
      (pickV_gives (opsr c (by simp [ho, Op.operands])) (opsr x (by simp [ho, Op.operands])) (opsr y (by simp [ho, Op.operands]))) h
  · -- nilCheck
    rename_i x ho
    have hx := opsr x (by simp [ho, Op.operands])
    have go : ∀ (v : AV), Reps w S φ [v] [a.eval x] → ((∃ p, a.eval x = .pointer (some p)) ∨ ∃ f u1 u2, a.eval x = .func (.func f) u1 u2) → ((Tree.ret v).bind fun a => Tree.ret (a, ([] : List Blk))).wp (fun r => FreshE φ base r.2.length ∧ ∀ x w' φ', ResPost w S φ base r.1 r.2 x w' φ' → K (a.put o.dst x) w') → o.wp C.P a w K Q := by
      intro v hr hz hh
      have := hh.2 _ w φ ⟨Ext.refl _ _ _, hr, fun j blk hj => by simp at hj⟩
      unfold Oper.wp
      have e : (execOp a.eval o).run C.P w = .ok (.value (a.eval x)) w := by
        rcases hz with ⟨p, hp⟩ | ⟨f, u1, u2, hp⟩
        · simp [execOp, ho, hp]
        · simp [execOp, ho, hp]
      rw [e, Oper.upon_value]
      exact this
    have hx' := hx
    split at h
    · rename_i b off hv
      rw [hv] at hx'
      refine go _ (by rw [← hv]; exact hx) ?_ h
      generalize a.eval x = z at hx'
      cases hx' with
      | ptr h => obtain ⟨s, B, _, _, rfl⟩ := h; exact .inl ⟨_, rfl⟩
    · rename_i b r i off hv
      rw [hv] at hx'
      refine go _ (by rw [← hv]; exact hx) ?_ h
      generalize a.eval x = z at hx'
      cases hx' with
      | rptr h => obtain ⟨s, B, _, _, rfl⟩ := h; exact .inl ⟨_, rfl⟩
    · rename_i cs hv
      rw [hv] at hx'
      refine go _ (by rw [← hv]; exact hx) ?_ h
      generalize a.eval x = z at hx'
      cases hx'
      exact .inl ⟨_, rfl⟩
    · rename_i f u1 u2 hv
      rw [hv] at hx'
      refine go _ (by rw [← hv]; exact hx) ?_ h
      generalize a.eval x = z at hx'
      cases hx'
      exact .inr ⟨_, _, _, rfl⟩
    · exact h.elim
  · rename_i op t x y yt ho
    exact pure_step (s := binSem op t x y (a.eval x) (a.eval y)) (by simp [execOp, ho, binSem]) (binOpV_gives x y (opsr x (by simp [ho, Op.operands])) (opsr y (by simp [ho, Op.operands]))) h
  · rename_i op t x ho
    exact pure_step (s := Op.unary op (a.eval x)) (by simp [execOp, ho]) (unOpV_gives (opsr x (by simp [ho, Op.operands]))) h
  · rename_i s d x ho
    exact pure_step (s := Go.convert s d (a.eval x)) (by simp [execOp, ho]) (convertV_gives HL (opsr x (by simp [ho, Op.operands]))) h
  · -- makeInterface
    rename_i t x ho
    refine pure_step (s := Instr.makeInterface t (a.eval x)) (by simp [execOp, ho]) ?_ h
    split
    · exact .fail _
    · exact .fail _
    · rename_i d hni hu
      refine .ret (z := .iface t (a.eval x)) ?_ (.iface t (opsr x (by simp [ho, Op.operands])) .nil)
      cases d <;> first | (exact absurd rfl (hni _)) | simp [Instr.makeInterface, und_run hu]
  · -- makeFunc
    rename_i f first captured ho
    refine pure_step (s := Instr.makeFunc f (first.map a.eval) (captured.map a.eval)) (by simp [execOp, ho]) ?_ h
    have lst : ∀ l : List Operand, (∀ x ∈ l, x ∈ o.op.operands) → Reps w S φ (l.map ρ) (l.map a.eval) := by
      intro l hl
      induction l with
      | nil => exact .nil
      | cons x l ih => exact (opsr x (hl x (by simp))).cons (ih fun y hy => hl y (by simp [hy]))
    have h1 := lst first.toList (by intro x hx; simp [ho, Op.operands]; exact .inl (by simpa using hx))
    have h2 := lst captured.toList (by intro x hx; simp [ho, Op.operands]; exact .inr (by simpa using hx))
    refine .ret (z := .func f (first.map a.eval) (captured.map a.eval)) (by simp [Instr.makeFunc]) ?_
    have := Reps.fn f h1 h2 (.nil (w := w) (S := S) (φ := φ))
    have e : ∀ l : Array Operand, (l.toList.map a.eval).toArray = l.map a.eval := by
      intro l
      apply Array.ext'
      simp
    rwa [e, e] at this
  · rename_i s x f ho
    exact pure_step (s := Instr.fieldAt s (a.eval x) f) (by simp [execOp, ho]) (fieldAddrV_gives (opsr x (by simp [ho, Op.operands]))) h
  · rename_i s x f ho
    exact pure_step (s := Instr.field s (a.eval x) f) (by simp [execOp, ho]) (fieldV_gives (opsr x (by simp [ho, Op.operands]))) h
  · rename_i t x ho
    exact pure_step (s := Instr.loadAt t (a.eval x)) (by simp [execOp, ho]) (loadV_gives HL (opsr x (by simp [ho, Op.operands]))) h
  · rename_i t x i ho
    exact pure_step (s := Instr.indexAt t (a.eval x) (a.eval i)) (by simp [execOp, ho]) (indexAddrV_gives HL (opsr x (by simp [ho, Op.operands])) (opsr i (by simp [ho, Op.operands]))) h
  · rename_i t x i ho
    exact pure_step (s := Instr.index t (a.eval x) (a.eval i)) (by simp [execOp, ho]) (indexV_gives (opsr x (by simp [ho, Op.operands])) (opsr i (by simp [ho, Op.operands]))) h
  · rename_i t x lo hi mx ho
    refine pure_step (s := Instr.sliceAt t (a.eval x) (lo.map a.eval) (hi.map a.eval) (mx.map a.eval)) (by simp [execOp, ho])
      (sliceV_gives (opsr x (by simp [ho, Op.operands])) ?_ ?_ ?_) h
    · intro y hy; exact opsr y (by simp [ho, Op.operands, hy])
    · intro y hy; exact opsr y (by simp [ho, Op.operands, hy])
    · intro y hy; exact opsr y (by simp [ho, Op.operands, hy])
  · rename_i t x i ok ho
    exact pure_step (s := Instr.lookup t (a.eval x) (a.eval i) ok) (by simp [execOp, ho]) (lookupV_gives HL (opsr x (by simp [ho, Op.operands])) (opsr i (by simp [ho, Op.operands])) ok) h
  · -- extract
    rename_i t i ho
    refine pure_step (s := Instr.extract (a.eval t) i) (by simp [execOp, ho]) ?_ h
    have ht := opsr t (by simp [ho, Op.operands])
    split
    · rename_i vs hv
      rw [hv] at ht
      split
      · rename_i v hvi
        generalize a.eval t = z at ht
        cases ht with
        | tup hr =>
          obtain ⟨x, hx, hxr⟩ := hr.get hvi
          exact .ret (z := x) (by simp [Instr.extract, hx]) hxr
      · exact .fail _
    · exact .fail _
  · rename_i x xt t ok ho
    exact pure_step (s := Instr.typeAssert (a.eval x) xt t ok) (by simp [execOp, ho]) (typeAssertV_gives (opsr x (by simp [ho, Op.operands])) xt t ok) h
  · rename_i t parts ho
    refine pure_step (s := Instr.build t (parts.map fun (i, x) => (i, a.eval x))) (by simp [execOp, ho]) (buildV_gives ?_) h
    intro p hp
    exact opsr p.2 (by simp [ho, Op.operands]; exact ⟨p.1, by simpa using hp⟩)
  · -- alloc
    rename_i t ho
    split at h
    · rename_i z hz
      obtain ⟨it, zv, _, _, rfl, hzr⟩ := zeroAV_run (w := w) hz
      obtain ⟨hf, hk⟩ := h
      have hcr : Reps w S φ (ofValue zv).cells zv.cells.toList := by
        unfold ofValue
        split
        · simpa [AV.cells, Value.cells] using ofCells_reps _
        · rename_i hna
          by_cases ha : ofCell zv = .any
          · rw [ha]
            cases zv <;> first | exact .any _ .nil | (exact absurd rfl (hna _))
          · exact cells_reps (ofCell_reps zv) ha
      obtain ⟨hx, hb⟩ := new_cells hf hcr t
      have := hk _ _ _ ⟨hx, .ptr ⟨_, _, updE_self _ _ _, rfl, rfl⟩ .nil, hb⟩
      unfold Oper.wp
      have e : (execOp a.eval o).run C.P w = .ok (.value (.pointer (some ⟨w.heap.size, 0, none⟩))) (w.alloc (.cells zv.cells t)) := by
        simp [execOp, ho, Instr.alloc, hzr, newVar, newRow]
      rw [e, Oper.upon_value]
      exact this
    · exact h.elim
  · -- box
    rename_i t x ho
    have hx := opsr x (by simp [ho, Op.operands])
    split at h
    · exact h.elim
    · exact h.elim
    · rename_i hna _
      obtain ⟨hf, hk⟩ := h
      have hcr := cells_reps hx (fun e => hna e)
      obtain ⟨hx', hb⟩ := new_cells hf hcr t
      have := hk _ _ _ ⟨hx', .ptr ⟨_, _, updE_self _ _ _, rfl, rfl⟩ .nil, hb⟩
      unfold Oper.wp
      have e : (execOp a.eval o).run C.P w = .ok (.value (.pointer (some ⟨w.heap.size, 0, none⟩))) (w.alloc (.cells (a.eval x).cells t)) := by
        simp [execOp, ho, Instr.box, newVar, newRow]
      rw [e, Oper.upon_value]
      exact this
  · -- buildSlice
    rename_i t n parts ho
    split at h
    · rename_i e hu
      split at h
      · rename_i sz z hsz hz
        split at h
        · rename_i hc
          obtain ⟨hc1, hc2, hc3⟩ := hc
          split at h
          · rename_i cs hcs
            obtain ⟨hf, hk⟩ := h
            obtain ⟨it, zv, hit, hiz, rfl, hzr⟩ := zeroAV_run (w := w) hz
            have hcr : Reps w S φ (ofValue zv).cells zv.cells.toList := by
              unfold ofValue
              split
              · simpa [AV.cells, Value.cells] using ofCells_reps _
              · rename_i hna
                by_cases ha : ofCell zv = .any
                · rw [ha]
                  cases zv <;> first | exact .any _ .nil | (exact absurd rfl (hna _))
                · exact cells_reps (ofCell_reps zv) ha
            have hzs : zv.cells.size = sz + 1 := by have := hcr.len; simp at this; omega
            have hrep := repeatCells_reps hcr (by omega) n
            rw [hzs] at hrep
            have hp := partsRep_of (w := w) (S := S) (φ := φ) (ρ := ρ) (η := a.eval) (l := parts.toList) (fun p hp => opsr p.2 (by simp [ho, Op.operands]; exact ⟨p.1, by simpa using hp⟩))
            obtain ⟨us', h1, h2, h3⟩ := fill_run hp hc3 hrep hcs
            obtain ⟨hx', hb⟩ := new_cells hf h2 e
            have hsize : us'.size = n * (sz + 1) := by rw [h3]; simp
            have := hk (.slice (some ⟨w.heap.size, 0, none⟩) n n) _ _ ⟨hx', by
              unfold slcN
              split
              · exact .nils _ .nil
              · exact .slc ⟨_, _, _, updE_self _ _ _, rfl, .inr ⟨Nat.le_refl _, fun _ _ => rfl, rfl⟩⟩ .nil, hb⟩
            unfold Oper.wp
            have ee : (execOp a.eval o).run C.P w = .ok (.value (.slice (some ⟨w.heap.size, 0, none⟩) n n)) (w.alloc (.cells us' e)) := by
              have ep : (parts.map fun (i, x) => (i, a.eval x)).toList = parts.toList.map fun (i, x) => (i, a.eval x) := by simp
              have hng : ¬ (n * (sz + 1) > 2 ^ 24) := by simp; omega
              simp only [execOp, ho, Instr.buildSlice, Sem.run_bind, und_run hu, Result.andThen_ok, szOf_run hsz]
              rw [if_neg hng]
              by_cases hn0 : n * (sz + 1) = 0
              · have hn : n = 0 := by rcases Nat.mul_eq_zero.1 hn0 with h | h <;> omega
                subst hn
                have e1 : ∀ f : Nat → Value, (Array.range (0 * (sz + 1))).map f = #[] := by intro f; simp
                rw [e1] at h1
                rw [if_pos hn0]
                simp only [Sem.run_bind, Sem.run_pure, Result.andThen_ok]
                rw [e1, ep, h1]
                simp [newRow]
              · rw [if_neg hn0]
                simp only [Sem.run_bind, Sem.run_pure, Result.andThen_ok, hzr]
                rw [ep, hzs, h1]
                simp [newRow]
            rw [ee, Oper.upon_value]
            exact this
          · exact h.elim
        · exact h.elim
      · exact h.elim
    · exact h.elim
  · -- makeMap
    rename_i t ho
    split at h
    · rename_i kt e hu
      have run : (execOp a.eval o).run C.P w = .ok (.value (.map (some w.heap.size))) (w.alloc (.map #[] 0)) := by
        simp [execOp, ho, Instr.makeMap]
      split at h
      · rename_i r hr
        obtain ⟨hf, hk⟩ := h
        have hx := ext_new (w := w) (φ := φ) (.map #[] 0) base 0 0
        have := hk (.map (some w.heap.size)) _ _ ⟨hx, .map ⟨_, _, updE_self _ _ _, rfl, rfl⟩ .nil, fun j blk hj => by
          cases j with
          | succ j => simp at hj
          | zero =>
            simp at hj
            subst hj
            exact ⟨_, _, _, updE_self _ _ _, _, #[], 0, rfl, alloc_heap _, trivial⟩⟩
        unfold Oper.wp
        rw [run, Oper.upon_value]
        exact this
      · obtain ⟨hf, hk⟩ := h
        have hx := ext_new (w := w) (φ := φ) (.map #[] 0) base 0 0
        have := hk (.map (some w.heap.size)) _ _ ⟨hx, .map ⟨_, _, updE_self _ _ _, rfl, rfl⟩ .nil, fun j blk hj => by
          cases j with
          | succ j => simp at hj
          | zero =>
            simp at hj
            subst hj
            exact ⟨_, _, _, updE_self _ _ _, _, #[], 0, rfl, alloc_heap _, trivial⟩⟩
        unfold Oper.wp
        rw [run, Oper.upon_value]
        exact this
    · exact h.elim
  · -- call
    rename_i c ho
    split at h
    · rename_i hc
      split at h
      · rename_i t x ht hx
        have hxm : x ∈ c.args := Array.mem_of_getElem? hx
        refine pure_step (s := Builtin.len_ c.argTypes o.type (c.args.map a.eval)) ?_ (lenV_gives HL (opsr x (by simp [ho, Op.operands, Call.operands, hxm])) _ _ ht _ (by simp [hx])) h
        simp [execOp, ho, resolve, hc, invoke, builtin]
      · exact h.elim
    · rename_i hc
      split at h
      · rename_i v vs hv
        have hargs : Reps w S φ (c.args.toList.map ρ) (c.args.toList.map a.eval) := by
          have : ∀ x ∈ c.args.toList, Reps w S φ [ρ x] [a.eval x] := fun x hx => opsr x (by simp [ho, Op.operands, Call.operands, Array.mem_toList_iff.1 hx])
          revert this
          generalize c.args.toList = l
          intro this
          induction l with
          | nil => exact .nil
          | cons x l ih => exact (this x (by simp)).cons (ih fun y hy => this y (by simp [hy]))
        rw [hv] at hargs
        obtain ⟨x, xs, hxs, h1, h2⟩ := hargs.uncons
        refine pure_step (s := xs.foldlM Builtin.min2 x) ?_ (foldNum_gives (fun k x y => by simp [Builtin.min2, minI]) h1 h2) h
        simp [execOp, ho, resolve, hc, invoke, builtin, Builtin.min_, hxs]
      · exact h.elim
    · rename_i hc
      split at h
      · rename_i v vs hv
        have hargs : Reps w S φ (c.args.toList.map ρ) (c.args.toList.map a.eval) := by
          have : ∀ x ∈ c.args.toList, Reps w S φ [ρ x] [a.eval x] := fun x hx => opsr x (by simp [ho, Op.operands, Call.operands, Array.mem_toList_iff.1 hx])
          revert this
          generalize c.args.toList = l
          intro this
          induction l with
          | nil => exact .nil
          | cons x l ih => exact (this x (by simp)).cons (ih fun y hy => this y (by simp [hy]))
        rw [hv] at hargs
        obtain ⟨x, xs, hxs, h1, h2⟩ := hargs.uncons
        refine pure_step (s := xs.foldlM Builtin.max2 x) ?_ (foldNum_gives (fun k x y => by simp [Builtin.max2, maxI]) h1 h2) h
        simp [execOp, ho, resolve, hc, invoke, builtin, Builtin.max_, hxs]
      · exact h.elim
    · exact h.elim
    · split at h
      · rename_i g args hcall
        split at h
        · rename_i f hf
          have hv := OK.pcon g f (findPcon_mem hf)
          obtain ⟨vals, hrun, hvals⟩ := callTo_run ho hops hcall hv.1
          rw [Tree.wp_bind] at h
          obtain ⟨r, hr, hq⟩ := ofOption_wp h
          unfold Oper.wp
          rw [hrun, Oper.upon_enter]
          refine (hv.2 args r hr w S φ vals hvals).mono ?_
          rintro e w' ⟨x, rfl, hb, hxr⟩
          exact hq.2 x w' φ ⟨⟨hb, fun _ _ => rfl, fun _ _ h1 h2 => absurd h2 (by simp; omega), fun _ _ _ _ _ h1 h2 => absurd h2 (by simp; omega)⟩, hxr, fun j blk hj => by simp at hj⟩
        · split at h
          · rename_i con hcon
            have hv := OK.con g con (findCon_mem hcon)
            obtain ⟨vals, hrun, hvals⟩ := callTo_run ho hops hcall hv.1
            unfold Oper.wp
            rw [hrun, Oper.upon_enter]
            split at h
            · rename_i hpure
              rw [Tree.wp_bind] at h
              obtain ⟨r, hr, hq⟩ := Tree.wp_out.1 h
              have hvals' := pure_reps (S' := fun B => S B ∨ Own φ B) (φ' := Env.none) (fun B hB => ⟨hB.1, fun hs => hs.elim hB.2.1 hB.2.2, fun ⟨_, _, _, hh⟩ => by cases hh⟩) hvals hpure
              refine (hv.2 args r hr w _ vals hsow hvals').mono ?_
              rintro e w' ⟨x, ψ, rfl, hpost⟩
              exact hq.2 x w' _ (post_join (S := S) (φ := φ) (base := base) hpost (.inr fun B => Iff.rfl))
            · split at h
              · rename_i args' hlow
                rw [Tree.wp_bind] at h
                obtain ⟨r, hr, hq⟩ := Tree.wp_out.1 h
                have hvals' := (lower_reps HL hdisj 24).2 _ _ _ hlow hvals
                refine (hv.2 args' r hr w _ vals (fun B hB => hsow B (.inl hB)) hvals').mono ?_
                rintro e w' ⟨x, ψ, rfl, hpost⟩
                split at hq
                · rename_i hfree
                  simp only [Bool.and_eq_true] at hfree
                  exact hq.2 x w' _ (post_join (S := S) (φ := φ) (base := base) hpost (.inl hfree))
                · exact hq.elim
              · exact h.elim
          · exact h.elim
      · exact h.elim
  · exact h.elim

end
end Go.Fx
