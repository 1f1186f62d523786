/- Soundness of the operations that only compute, or look. -/
import Derived.Test.YtccfojgceohciaaFxE
namespace Go.Fx
open Go Go.RowKit

section
variable {P : Program} {w : World} {S : Nat → Prop} {φ : Env}

/-- '==' and its kin, with their guard. -/
def binSem (op : BinOp) (t : TypeId) (xo yo : Operand) (x y : Value) : Sem Value := do
  eqGuard op t xo yo x y
  Go.binOp op t x y

theorem eqTop_run {t : TypeId} {a b r : AV} {x y : Value} (h : eqTop P t a b = some r) (ha : Reps w S φ [a] [x]) (hb : Reps w S φ [b] [y]) (xo yo : Operand) :
    ∃ z, (binSem .eql t xo yo x y).run P w = .ok (.bool z) w ∧ (binSem .neq t xo yo x y).run P w = .ok (.bool (!z)) w ∧ Reps w S φ [r] [.bool z] := by
  unfold eqTop at h
  split at h <;> try (cases h; done)
  · split at h
    · cases h
    · rename_i hg
      cases ha with
      | agg ha => cases hb with
        | agg hb =>
          obtain ⟨z, hz, hr⟩ := eqV_run h (.agg ha .nil) (.agg hb .nil) 10000 (by decide)
          refine ⟨z, ?_, ?_, hr⟩
          · simp [binSem, eqGuard, hg, Go.binOp, Op.equal, Op.maxDepth, hz]
          · simp [binSem, eqGuard, hg, Go.binOp, Op.equal, Op.maxDepth, hz]
  · split at h
    · rename_i h1 h2
      obtain ⟨z, hz, hr⟩ := eqV_run h ha hb 10000 (by decide)
      have key : ∀ op, op = BinOp.eql ∨ op = BinOp.neq → (eqGuard op t xo yo x y).run P w = .ok () w ∧
          (Go.binOp .eql t x y).run P w = .ok (.bool z) w ∧ (Go.binOp .neq t x y).run P w = .ok (.bool (!z)) w := by
        intro op hop
        obtain ⟨dd, hdd⟩ := eqV_und h
        unfold eqV at h
        rw [hdd] at h
        have close : ∀ (u v : Value), x = u → y = v → ((∃ b c, u = .bool b ∧ v = .bool c) ∨ (∃ p q, u = .pointer p ∧ v = .pointer q) ∨ (u = .nilFunc) ∨ (v = .nilFunc ∧ ∃ f a b, u = .func f a b)) →
            (eqGuard op t xo yo x y).run P w = .ok () w ∧ (Go.binOp .eql t x y).run P w = .ok (.bool z) w ∧ (Go.binOp .neq t x y).run P w = .ok (.bool (!z)) w := by
          intro u v hu hv hc
          subst hu; subst hv
          rcases hc with ⟨b, c, rfl, rfl⟩ | ⟨p, q, rfl, rfl⟩ | rfl | ⟨rfl, f, a, b, rfl⟩
          · exact ⟨by rcases hop with rfl | rfl <;> simp [eqGuard], by simp [Go.binOp, Op.equal, Op.maxDepth, hz], by simp [Go.binOp, Op.equal, Op.maxDepth, hz]⟩
          · exact ⟨by rcases hop with rfl | rfl <;> simp [eqGuard], by simp [Go.binOp, Op.equal, Op.maxDepth, hz], by simp [Go.binOp, Op.equal, Op.maxDepth, hz]⟩
          · refine ⟨by rcases hop with rfl | rfl <;> cases y <;> simp [eqGuard], ?_, ?_⟩ <;> cases y <;> simp_all [Go.binOp, Op.equal, Op.maxDepth]
          · exact ⟨by rcases hop with rfl | rfl <;> simp [eqGuard], by simp [Go.binOp, Op.equal, Op.maxDepth, hz], by simp [Go.binOp, Op.equal, Op.maxDepth, hz]⟩
        split at h <;> try (cases h; done)
        · rename_i hk
          simp [h1, h2] at h
        · split at h <;> try (cases h; done)
          rename_i l1 b1 l2 b2 h3 h4
          exact close _ _ (truth_inv h3 ha) (truth_inv h4 hb) (.inl ⟨_, _, rfl, rfl⟩)
        · split at h
          · exact (‹∀ (s : List UInt8), AV.str _ = AV.str s → False› _ rfl).elim
          · cases h
        · split at h <;> try (cases h; done)
          · cases ha; cases hb; exact close _ _ rfl rfl (.inr (.inl ⟨_, _, rfl, rfl⟩))
          · cases ha; cases hb; exact close _ _ rfl rfl (.inr (.inl ⟨_, _, rfl, rfl⟩))
          · cases ha; cases hb; exact close _ _ rfl rfl (.inr (.inl ⟨_, _, rfl, rfl⟩))
        · split at h <;> try (cases h; done)
          · cases ha; cases hb; exact close _ _ rfl rfl (.inr (.inr (.inl rfl)))
          · cases ha; cases hb; exact close _ _ rfl rfl (.inr (.inr (.inl rfl)))
          · cases ha; cases hb; exact close _ _ rfl rfl (.inr (.inr (.inr ⟨rfl, _, _, _, rfl⟩)))
        · split at h
          · exact (‹∀ (cs : List AV), AV.agg _ = AV.agg cs → False› _ rfl).elim
          · cases h
        · split at h
          · exact (‹∀ (cs : List AV), AV.agg _ = AV.agg cs → False› _ rfl).elim
          · cases h
      have k1 := key .eql (.inl rfl)
      have k2 := key .neq (.inr rfl)
      exact ⟨z, by simp [binSem, k1.1, k1.2.1], by simp [binSem, k2.1, k2.2.2], hr⟩
    · cases h

theorem binOpV_gives {op : BinOp} {t : TypeId} {a b : AV} {x y : Value} (xo yo : Operand) (ha : Reps w S φ [a] [x]) (hb : Reps w S φ [b] [y]) :
    Gives P w S φ (binOpV P op t a b) (binSem op t xo yo x y) := by
  cases op <;> simp only [binOpV]
  case add =>
    split
    · obtain ⟨s1, rfl, rfl⟩ := str_inv ha
      obtain ⟨s2, rfl, rfl⟩ := str_inv hb
      refine .asrt fun hl => ?_
      refine .ret (z := .string (s1 ++ s2)) ?_ ?_
      · have : ¬ (9223372036854775807 < ((s1.size + s2.size : Nat) : Int)) := by
          have e1 : s1.data.toList.length = s1.size := by rw [Array.length_toList]; rfl
          have e2 : s2.data.toList.length = s2.size := by rw [Array.length_toList]; rfl
          omega
        have h2 : IntKind.i64.max = 9223372036854775807 := by decide
        simp [binSem, eqGuard, Go.binOp, Op.stringOp, h2]
        omega
      · have : s1.data.toList ++ s2.data.toList = (s1 ++ s2).data.toList := by simp
        rw [this]
        exact .str _ .nil
    · exact arithV_gives (s := binSem .add t xo yo) (fun k m n => by simp [binSem, eqGuard, Go.binOp, Op.intArith]) ha hb
  case sub => exact arithV_gives (s := binSem .sub t xo yo) (fun k m n => by simp [binSem, eqGuard, Go.binOp, Op.intArith]) ha hb
  case mul => exact arithV_gives (s := binSem .mul t xo yo) (fun k m n => by simp [binSem, eqGuard, Go.binOp, Op.intArith]) ha hb
  case quo => exact divV_gives (s := binSem .quo t xo yo) (fun k m n hn => by simp [binSem, eqGuard, Go.binOp, Op.intDiv, hn]) ha hb
  case rem => exact divV_gives (s := binSem .rem t xo yo) (fun k m n hn => by simp [binSem, eqGuard, Go.binOp, Op.intDiv, hn]) ha hb
  case and => exact arithV_gives (s := binSem .and t xo yo) (fun k m n => by simp [binSem, eqGuard, Go.binOp, Op.intBits, andI]) ha hb
  case or => exact arithV_gives (s := binSem .or t xo yo) (fun k m n => by simp [binSem, eqGuard, Go.binOp, Op.intBits, orI]) ha hb
  case xor => exact arithV_gives (s := binSem .xor t xo yo) (fun k m n => by simp [binSem, eqGuard, Go.binOp, Op.intBits, xorI]) ha hb
  case andNot => exact arithV_gives (s := binSem .andNot t xo yo) (fun k m n => by simp [binSem, eqGuard, Go.binOp, Op.intBits, andNotI]) ha hb
  case shl => exact shiftV_gives (s := binSem .shl t xo yo) (fun k m k' n hn => by simp [binSem, eqGuard, Go.binOp, Op.shift, shlI, show ¬ n < 0 by omega]) ha hb
  case shr => exact shiftV_gives (s := binSem .shr t xo yo) (fun k m k' n hn => by simp [binSem, eqGuard, Go.binOp, Op.shift, shrI, show ¬ n < 0 by omega]) ha hb
  case lss => exact cmpV_gives (s := binSem .lss t xo yo) (fun k m n => by simp [binSem, eqGuard, Go.binOp, Op.intCmp]) ha hb
  case leq => exact cmpV_gives (s := binSem .leq t xo yo) (fun k m n => by simp [binSem, eqGuard, Go.binOp, Op.intCmp]) ha hb
  case gtr => exact cmpV_gives (s := binSem .gtr t xo yo) (fun k m n => by simp [binSem, eqGuard, Go.binOp, Op.intCmp]) ha hb
  case geq => exact cmpV_gives (s := binSem .geq t xo yo) (fun k m n => by simp [binSem, eqGuard, Go.binOp, Op.intCmp]) ha hb
  case eql =>
    split
    · obtain ⟨s1, rfl, rfl⟩ := str_inv ha
      obtain ⟨s2, rfl, rfl⟩ := str_inv hb
      refine .ret (z := .bool (s1.data.toList == s2.data.toList)) ?_ (.bool _ .nil)
      simp [binSem, eqGuard, Go.binOp, Op.stringOp, ByteArray.toList_eq]
    · split
      · exact cmpV_gives (s := binSem .eql t xo yo) (fun k m n => by simp [binSem, eqGuard, Go.binOp, Op.intCmp]) ha hb
      · refine .ofOption fun v hv => ?_
        obtain ⟨z, h1, _, h3⟩ := eqTop_run hv ha hb xo yo
        exact .ret h1 h3
  case neq =>
    split
    · obtain ⟨s1, rfl, rfl⟩ := str_inv ha
      obtain ⟨s2, rfl, rfl⟩ := str_inv hb
      refine .ret (z := .bool (!(s1.data.toList == s2.data.toList))) ?_ (.bool _ .nil)
      simp [binSem, eqGuard, Go.binOp, Op.stringOp, ByteArray.toList_eq]
    · split
      · exact cmpV_gives (s := binSem .neq t xo yo) (fun k m n => by simp [binSem, eqGuard, Go.binOp, Op.intCmp]) ha hb
      · refine .ofOption fun v hv => ?_
        split at hv
        · rename_i r hr
          obtain ⟨z, _, h2, h3⟩ := eqTop_run hr ha hb xo yo
          exact .ret h2 (notAV_inv hv h3)
        · cases hv

theorem unOpV_gives {op : UnOp} {a : AV} {x : Value} (ha : Reps w S φ [a] [x]) : Gives P w S φ (unOpV op a) (Op.unary op x) := by
  cases op <;> simp only [unOpV] <;> try exact .fail _
  case neg =>
    split
    · rename_i l k n h
      cases num_inv h ha
      exact .ret (by simp [Op.unary, Op.intArith]) (mkInt_rep _ _ _)
    · exact .fail _
  case not =>
    refine .ofOption fun v hv => ?_
    unfold notAV at hv
    split at hv <;> try (cases hv; done)
    · cases hv; cases ha; exact .ret (by simp [Op.unary]) (.blit _ .nil)
    · cases hv; cases ha; exact .ret (by simp [Op.unary]) (.bool _ .nil)

theorem pickV_gives {c a b : AV} {x y z : Value} (hc : Reps w S φ [c] [x]) (ha : Reps w S φ [a] [y]) (hb : Reps w S φ [b] [z]) :
    Gives P w S φ (pickV c a b) (do pure (if ← asBool x then y else z)) := by
  unfold pickV
  split
  · cases hc; exact .ret (by simp [asBool]) ha
  · cases hc; exact .ret (by simp [asBool]) hb
  · rename_i b'
    cases hc
    intro Q hQ
    cases b' with
    | true => exact ⟨y, a, by simp [asBool], hQ.1 rfl, ha⟩
    | false => exact ⟨z, b, by simp [asBool], hQ.2 rfl, hb⟩
  · exact .fail _

/-! ### fields, loads -/
theorem fieldOf_inv {s : TypeId} {f o n : Nat} {ft : TypeId} (h : fieldOf P s f = some (o, n, ft)) : ∃ fs fd, P.underlying s = some (.struct fs) ∧ fs[f]? = some fd ∧ fd.offset = o ∧ fd.type = ft ∧ szOf P ft = some n := by
  unfold fieldOf at h
  split at h
  · rename_i fs hu
    split at h
    · rename_i fd hfd
      split at h
      · rename_i m hm
        cases h
        exact ⟨fs, fd, hu, hfd, rfl, rfl, hm⟩
      · cases h
    · cases h
  · cases h

theorem fieldPlace_run {a : Addr} {fd : Field} {n : Nat} (h : szOf P fd.type = some (n + 1)) : (fieldPlace a fd).run P w = .ok (a.add fd.offset) w := by
  simp [fieldPlace, szOf_run h]

theorem Addr.add_plain (b o n : Nat) : (⟨b, o, none⟩ : Addr).add n = ⟨b, o + n, none⟩ := by unfold Addr.add; split <;> simp_all

theorem cellsAt.drop {B o : Nat} {us : List Value} (h : cellsAt w B o us) (n : Nat) : cellsAt w B (o + n) (us.drop n) := by
  intro j u hj
  rw [List.getElem?_drop] at hj
  have := h _ _ hj
  rwa [show o + n + j = o + (n + j) by omega]
theorem cellsAt.take {B o : Nat} {us : List Value} (h : cellsAt w B o us) (n : Nat) : cellsAt w B o (us.take n) := by
  intro j u hj
  rw [List.getElem?_take] at hj
  split at hj
  · exact h _ _ hj
  · cases hj

theorem fieldAddrV_gives {s : TypeId} {a : AV} {x : Value} {f : Nat} (ha : Reps w S φ [a] [x]) : Gives P w S φ (fieldAddrV P s a f) (Instr.fieldAt s x f) := by
  unfold fieldAddrV
  split
  · rename_i o n ft hf
    obtain ⟨fs, fd, hu, hfd, rfl, rfl, hsz⟩ := fieldOf_inv hf
    split
    · rename_i b off
      cases ha with
      | ptr h =>
        obtain ⟨sl, B, h1, h2, rfl⟩ := h
        refine .ret (z := .pointer (some ⟨B, off + fd.offset, none⟩)) ?_ (.ptr ⟨sl, B, h1, h2, rfl⟩ .nil)
        simp [Instr.fieldAt, und_run hu, hfd, Instr.sureAddr, fieldPlace_run hsz, Addr.add_plain]
    · rename_i b r i off
      cases ha with
      | rptr h =>
        obtain ⟨sl, B, h1, h2, rfl⟩ := h
        refine .ret (z := .pointer (some ⟨B, i.toNat * r.size + (off + fd.offset), none⟩)) ?_ (.rptr ⟨sl, B, h1, h2, rfl⟩ .nil)
        simp [Instr.fieldAt, und_run hu, hfd, Instr.sureAddr, fieldPlace_run hsz, Addr.add_plain, Nat.add_assoc]
    · rename_i cs
      split
      · rename_i hle
        cases ha with
        | pv hs hc hr =>
          refine .ret (z := .pointer (some ⟨_, _ + fd.offset, none⟩)) ?_ (.pv hs (hc.drop fd.offset) (hr.drop fd.offset) .nil)
          simp [Instr.fieldAt, und_run hu, hfd, Instr.sureAddr, fieldPlace_run hsz, Addr.add_plain]
      · exact .fail _
    · exact .fail _
  · exact .fail _


/-! ### cells -/
theorem cellsAt_block {B : Nat} {us : Array Value} {e : TypeId} {fr : Nat × Nat} (h : w.heap[B]? = some (.cells us e fr)) : cellsAt w B 0 us.toList := by
  intro j u hj
  simp only [World.cell?, h, Nat.zero_add]
  rw [Array.getElem?_toList] at hj
  simpa using hj

theorem loadVar_run {t : TypeId} {cs : List AV} {off B o : Nat} {v : AV} (h : partAV P t cs off = some v) {us : List Value} (hr : Reps w S φ cs us) (hc : cellsAt w B o us) :
    ∃ z, (loadVar t ⟨B, o + off, none⟩).run P w = .ok z w ∧ Reps w S φ [v] [z] := by
  obtain ⟨n, hn, hle, h⟩ := partAV_inv h hr
  obtain ⟨d, hd⟩ := szOf_und hn
  have hl := hr.len
  rcases h with ⟨hagg, rfl, hv⟩ | ⟨hagg, rfl, c, z, hg, rfl, hz, hv⟩
  · refine ⟨_, ?_, hv⟩
    have hcs := (hc.drop off).take n
    have hlen : ((us.drop off).take n).length = n := by simp; omega
    have hl2 := run_loadCells_list (P := P) w ⟨B, o + off, none⟩ ((us.drop off).take n) (fun j u hj => by rw [Addr.add_plain]; exact hcs j u hj)
    rw [hlen] at hl2
    simp only [loadVar, Sem.run_bind, isAgg_run hd, hagg, Result.andThen_ok, if_true, szOf_run hn, hl2, Sem.run_pure]
  · refine ⟨z, ?_, hv⟩
    simp only [loadVar, Sem.run_bind, isAgg_run hd, hagg, Result.andThen_ok, if_false, Bool.false_eq_true, run_load, hc off z hz]

/-! ### rows -/
theorem enc_len : ∀ (r : RTy) (x : r.carrier), (r.enc x).length = r.size
  | .int _, _ => rfl
  | .bool, _ => rfl
  | .str, _ => rfl
  | .ints _, _ => rfl
  | .spec, _ => rfl
  | .spr, _ => rfl
  | .fix, _ => rfl
  | .item, _ => rfl
  | .live, _ => rfl
  | .ape, _ => rfl
  | .opt, _ => rfl
  | .task, _ => rfl
  | .aim, _ => rfl

theorem flatMap_len (r : RTy) : ∀ xs : List r.carrier, (xs.flatMap r.enc).length = xs.length * r.size
  | [] => by simp
  | x :: xs => by simp [List.flatMap_cons, flatMap_len r xs, enc_len, Nat.add_mul, Nat.add_comm]

theorem flatMap_row (r : RTy) : ∀ (xs : List r.carrier) (i : Nat) (h : i < xs.length), ((xs.flatMap r.enc).drop (i * r.size)).take r.size = r.enc xs[i]
  | x :: xs, 0, _ => by
    simp only [List.flatMap_cons, Nat.zero_mul, List.drop_zero, List.getElem_cons_zero]
    rw [← enc_len r x, List.take_left]
  | x :: xs, i + 1, h => by
    have ih := flatMap_row r xs i (by simpa using h)
    simp only [List.flatMap_cons, List.getElem_cons_succ]
    rw [← ih]
    congr 1
    rw [show (i + 1) * r.size = (r.enc x).length + i * r.size by rw [enc_len, Nat.add_mul]; omega, List.drop_append, List.drop_eq_nil_of_le (by omega), List.nil_append, Nat.add_sub_cancel_left]

theorem rd_eq (r : RTy) (xs : List r.carrier) (i : Int) (h0 : 0 ≤ i) (h : i < xs.length) : ∃ h' : i.toNat < xs.length, rd r xs i = xs[i.toNat] := by
  have h' : i.toNat < xs.length := by omega
  exact ⟨h', by simp [rd, h']⟩

/-- A row of many: its cells, and what they are. -/
theorem row_reps {r : RTy} {xs : List r.carrier} {us : List Value} {B o : Nat} {i : Int} (hr : Reps w S φ (xs.flatMap r.enc) us) (hc : cellsAt w B o us) (h0 : 0 ≤ i) (h : i < xs.length) :
    Reps w S φ (r.enc (rd r xs i)) ((us.drop (i.toNat * r.size)).take r.size) ∧ cellsAt w B (o + i.toNat * r.size) ((us.drop (i.toNat * r.size)).take r.size) := by
  obtain ⟨h', e⟩ := rd_eq r xs i h0 h
  refine ⟨?_, (hc.drop _).take _⟩
  rw [e, ← flatMap_row r xs _ h']
  exact (hr.drop _).take _

/-- The cells of rows of the call's own. -/
theorem ownsRow_cells {e : TypeId} {size B cap len : Nat} {us : List Value} (h : w.ownsRow 0 e size (.slice (baseOf (some B)) len cap) len us) : cellsAt w B 0 us := by
  obtain ⟨h1, h2⟩ := h
  rcases h2 with ⟨h2, _⟩ | ⟨g, c, cur, hv, _, hh, h3, h4, h5, h6⟩
  · simp [baseOf] at h2
  · simp [baseOf] at hv
    obtain ⟨rfl, rfl⟩ := hv
    have := (cellsAt_block hh).take (len * size)
    rwa [h6] at this

theorem loadV_gives {look : Nat → Option Blk} (HL : HeapRep w S φ look) {t : TypeId} {a : AV} {x : Value} (ha : Reps w S φ [a] [x]) :
    Gives P w S φ (loadV P look t a) (Instr.loadAt t x) := by
  unfold loadV
  split
  · rename_i b off
    cases ha with
    | ptr h =>
      obtain ⟨sl, B, h1, h2, rfl⟩ := h
      split
      · rename_i cs hl
        obtain ⟨B', cap, len, h3, B'', us, e, rfl, h4, h5, h6⟩ := HL _ _ hl
        rw [h1] at h3
        cases h3
        cases h2
        refine .ofOption fun v hv => ?_
        obtain ⟨z, hz, hr⟩ := loadVar_run hv h6 (cellsAt_block h4)
        refine .ret (z := z) ?_ hr
        simpa [Instr.loadAt, Instr.sureAddr] using hz
      · exact .fail _
  · rename_i cs
    cases ha with
    | pv hs hc hr =>
      refine .ofOption fun v hv => ?_
      obtain ⟨z, hz, hr⟩ := loadVar_run hv hr hc
      refine .ret (z := z) ?_ hr
      simpa [Instr.loadAt, Instr.sureAddr] using hz
  · rename_i b r i off
    cases ha with
    | rptr h =>
      obtain ⟨sl, B, h1, h2, rfl⟩ := h
      split
      · rename_i r' e xs hl
        split
        · rename_i hr'
          subst hr'
          obtain ⟨B', cap, len, h3, rfl, us, h4, h5, h6⟩ := HL _ _ hl
          rw [h1] at h3
          cases h3
          cases h2
          refine .asrt fun hi => ?_
          refine .ofOption fun v hv => ?_
          obtain ⟨h7, h8⟩ := row_reps h5 (ownsRow_cells h4) hi.1 hi.2
          obtain ⟨z, hz, hr⟩ := loadVar_run hv h7 h8
          refine .ret (z := z) ?_ hr
          simpa [Instr.loadAt, Instr.sureAddr] using hz
        · exact .fail _
      · exact .fail _
  · exact .fail _

theorem fieldV_gives {s : TypeId} {a : AV} {x : Value} {f : Nat} (ha : Reps w S φ [a] [x]) : Gives P w S φ (fieldV P s a f) (Instr.field s x f) := by
  unfold fieldV
  split
  · rename_i o n ft cs hf
    obtain ⟨fs, fd, hu, hfd, rfl, rfl, hsz⟩ := fieldOf_inv hf
    cases ha with
    | agg h =>
      refine .ofOption fun v hv => ?_
      obtain ⟨d, hd⟩ := szOf_und hsz
      obtain ⟨z, hz, hr⟩ := part_gives (S := S) (us := _) hd hv (by simpa using h)
      refine .ret (z := z) ?_ hr
      simp [Instr.field, und_run hu, hfd, asAgg, hz]
  · exact .fail _

/-! ### indexing -/
theorem indexAddrV_gives {look : Nat → Option Blk} (HL : HeapRep w S φ look) {t : TypeId} {a b : AV} {x y : Value} (ha : Reps w S φ [a] [x]) (hb : Reps w S φ [b] [y]) :
    Gives P w S φ (indexAddrV P look t a b) (Instr.indexAt t x y) := by
  unfold indexAddrV
  split
  · rename_i l k i e hn hu
    cases num_inv hn hb
    split
    · exact .fail _
    · rename_i sz hsz
      split
      · rename_i r xs
        split
        · rename_i hrs
          refine .asrt fun hi => ?_
          cases ha with
          | view0 _ _ hx => subst hx; simp at hi; omega
          | view _ _ c hc0 hs hc hr =>
            obtain ⟨h7, h8⟩ := row_reps hr hc hi.1 hi.2
            refine .ret (z := .pointer (some ⟨_, _ + i.toNat * r.size, none⟩)) ?_ (.pv hs h8 h7 .nil)
            simp [Instr.indexAt, asIntOf, und_run hu, hi.1, hi.2, szOf_run hsz, Addr.add_plain, hrs]
        · exact .fail _
      · rename_i b'
        split
        · rename_i r e' xs hl
          split
          · rename_i hrs
            refine .asrt fun hi => ?_
            cases ha with
            | own h =>
              obtain ⟨sl, h1, hv⟩ := h
              obtain ⟨B', cap, len, h3, rfl, us, h4, h5, h6⟩ := HL _ _ hl
              rw [h1] at h3
              cases h3
              cases B' with
              | none =>
                obtain ⟨_, h7⟩ := h4
                rcases h7 with ⟨_, h7⟩ | ⟨g, c, cur, hv, _⟩
                · have : xs.length = 0 := h7
                  omega
                · simp [baseOf] at hv
              | some B =>
                simp only [Slot.fits] at hv
                subst hv
                refine .ret (z := .pointer (some ⟨B, i.toNat * r.size, none⟩)) ?_ (.rptr ⟨_, B, h1, rfl, by simp⟩ .nil)
                simp [Instr.indexAt, asIntOf, und_run hu, hi.1, hi.2, szOf_run hsz, Addr.add_plain, hrs]
          · exact .fail _
        · exact .fail _
      · rename_i b' off n sz'
        split
        · rename_i hc
          obtain ⟨_, rfl, h0, hlt⟩ := hc
          cases ha with
          | slc h =>
            obtain ⟨sl, B, c, h1, h2, h3⟩ := h
            rcases h3 with ⟨rfl, _⟩ | ⟨h3, h4, rfl⟩
            · exfalso; simp at hlt; omega
            · refine .ret (z := .pointer (some ⟨B, off + i.toNat * sz', none⟩)) ?_ (.ptr ⟨sl, B, h1, h2, rfl⟩ .nil)
              simp [Instr.indexAt, asIntOf, und_run hu, h0, hlt, szOf_run hsz, Addr.add_plain]
        · exact .fail _
      · rename_i n cs
        split
        · rename_i hc
          obtain ⟨_, h0, hlt, hle⟩ := hc
          cases ha with
          | lv0 => exfalso; simp at hlt; omega
          | lv _ c hc0 hs hc hr =>
            refine .ret (z := .pointer (some ⟨_, _ + i.toNat * sz, none⟩)) ?_ (.pv hs (hc.drop _) (hr.drop _) .nil)
            simp [Instr.indexAt, asIntOf, und_run hu, h0, hlt, szOf_run hsz, Addr.add_plain]
        · exact .fail _
      · exact .fail _
  · rename_i l k i n e hn hu
    cases num_inv hn hb
    split
    · exact .fail _
    · rename_i sz hsz
      split
      · rename_i b' off
        split
        · rename_i hc
          obtain ⟨_, h0, hlt⟩ := hc
          cases ha with
          | ptr h =>
            obtain ⟨sl, B, h1, h2, rfl⟩ := h
            refine .ret (z := .pointer (some ⟨B, off + i.toNat * sz, none⟩)) ?_ (.ptr ⟨sl, B, h1, h2, rfl⟩ .nil)
            simp [Instr.indexAt, Instr.sureAddr, asIntOf, und_run hu, h0, hlt, szOf_run hsz, Addr.add_plain]
        · exact .fail _
      · rename_i cs
        split
        · rename_i hc
          obtain ⟨_, h0, hlt, hle⟩ := hc
          cases ha with
          | pv hs hc hr =>
            refine .ret (z := .pointer (some ⟨_, _ + i.toNat * sz, none⟩)) ?_ (.pv hs (hc.drop _) (hr.drop _) .nil)
            simp [Instr.indexAt, Instr.sureAddr, asIntOf, und_run hu, h0, hlt, szOf_run hsz, Addr.add_plain]
        · exact .fail _
      · exact .fail _
  · exact .fail _

end
end Go.Fx
