/- Operations in no order can change places. -/
import Derived.Test.YtccfojgceohciaaFxN
namespace Go.Fx
open Go

theorem Tree.out_bind {α β : Type} {t : Tree α} {f : α → Tree β} {x : β} : (t.bind f).Out x ↔ ∃ a, t.Out a ∧ (f a).Out x := by
  induction t with
  | ret a => exact ⟨fun h => ⟨a, rfl, h⟩, fun ⟨b, hb, h⟩ => by cases hb; exact h⟩
  | fail => exact ⟨fun h => h.elim, fun ⟨_, h, _⟩ => h.elim⟩
  | ite c t e iht ihe => cases c <;> simp [Tree.bind, Tree.Out, iht, ihe]
  | asrt p t ih =>
    simp only [Tree.bind, Tree.Out, ih]
    exact ⟨fun ⟨hp, a, h, q⟩ => ⟨a, ⟨hp, h⟩, q⟩, fun ⟨a, ⟨hp, h⟩, q⟩ => ⟨hp, a, h, q⟩⟩
theorem Tree.bind_assoc {α β γ : Type} (t : Tree α) (f : α → Tree β) (g : β → Tree γ) : (t.bind f).bind g = t.bind fun a => (f a).bind g := by
  induction t with
  | ret a => rfl
  | fail => rfl
  | ite c t e iht ihe => simp [Tree.bind, iht, ihe]
  | asrt p t ih => simp [Tree.bind, ih]

section
variable {C : Cfg} {self : Run} {ops : Array Oper} {X ms : List Nat} {next : Nat} {ρ : Operand → AV}

theorem slot_resD {o : Oper} (h : slotOp o = true) (C : Cfg) (base : Nat) (ρ : Operand → AV) : effOp C o ρ = false ∧ ∃ T : Tree AV, ∀ look, resD C base o ρ look = T.bind fun a => .ret (a, []) := by
  obtain ⟨dst, op, type, pos, after, guard⟩ := o
  cases op <;> simp only [slotOp, Bool.false_eq_true] at h
  case call c =>
    split at h
    · rename_i hc
      simp only [effOp, resD, hc, true_and]
      split
      · exact ⟨_, fun _ => rfl⟩
      · exact ⟨.fail, fun _ => rfl⟩
    · rename_i hc
      simp only [effOp, resD, hc, true_and]
      split
      · exact ⟨_, fun _ => rfl⟩
      · exact ⟨.fail, fun _ => rfl⟩
    · cases h
  all_goals exact ⟨rfl, _, fun _ => rfl⟩

theorem slot_call {o : Oper} (h : slotOp o = true) : isConCall o = false := by
  unfold slotOp at h
  unfold isConCall
  split at h <;> try (rename_i ho; simp [ho]; done)
  · rename_i c ho
    simp only [ho]
    split at h
    · rename_i hc; simp [hc]
    · rename_i hc; simp [hc]
    · cases h
theorem slot_form {o : Oper} (h : slotOp o = true) (i : Nat) : ∃ T : Tree AV, ∀ hp n, drawR C self ops X ms next i o ρ hp n = T.bind fun v => .ret (v, hp, n) := by
  obtain ⟨he, T, hT⟩ := slot_resD h C (next + 8 * i) ρ
  refine ⟨T, fun hp n => ?_⟩
  unfold drawR
  rw [he, slot_call h, Bool.false_and, hT, Tree.bind_assoc]
  rfl

theorem allowed_not {mask next k id : Nat} (hb : mask.testBit k = false) (h : next + 8 * k ≤ id ∧ id < next + 8 * k + 8) : allowed mask next id = false := by
  unfold allowed
  rw [blt_iff]
  have h1 : ¬ id < next := by omega
  have h2 : (id - next) / 8 = k := by omega
  simp [h1, h2, hb]
theorem allowed_out {mask next k id : Nat} (hb : mask.testBit k = false) (h : allowed mask next id = true) (n : Nat) (hn : n ≤ 8) : ¬ (next + 8 * k ≤ id ∧ id < next + 8 * k + n) := by
  intro hr
  rw [allowed_not hb (by omega)] at h
  cases h
theorem seen_insBlks {mask k : Nat} (hb : mask.testBit k = false) {l : List Blk} (hl : l.length ≤ 8) (h : Heap) : seen X mask next (insBlks (next + 8 * k) l h) = seen X mask next h := by
  funext id
  unfold seen
  cases ha : allowed mask next id with
  | false => simp
  | true => rw [insBlks_get l h (allowed_out hb ha _ hl)]
theorem seen_put {mask b : Nat} (hb : memNat b X = true) (z : Blk) (h : Heap) : seen X mask next (h.put b z) = seen X mask next h := by
  funext id
  unfold seen
  by_cases e : id = b
  · subst e; simp [hb]
  · rw [Heap.get_put]; simp [e]
theorem seen_app {mask i : Nat} {k : Option Nat} (hk : ∀ b, k = some b → memNat b X = true) (hb : mask.testBit i = false) (z : Blk) (h : Heap) : seen X mask next ((delOpt h k).ins (next + 8 * i) z) = seen X mask next h := by
  funext id
  unfold seen
  cases ha : allowed mask next id with
  | false => simp
  | true =>
    have hne : id ≠ next + 8 * i := fun e => allowed_out hb ha 8 (Nat.le_refl _) (by omega)
    rw [Heap.get_ins_ne _ hne]
    cases k with
    | none => rfl
    | some b =>
      by_cases e : id = b
      · subst e; simp [hk id rfl]
      · simp [delOpt, Heap.get_del, e]

theorem storeX_out {P : Program} {t : TypeId} {b off : Nat} {v : AV} {h h' : Heap} (ho : (storeX P t (.ptr b off) v h).Out h') :
    ∃ z, (h.get b).isSome = true ∧ h' = h.put b z ∧ ∀ h2 : Heap, h2.get b = h.get b → (storeX P t (.ptr b off) v h2).Out (h2.put b z) := by
  unfold storeX at ho
  split at ho
  · exact ho.elim
  rename_i n hn
  split at ho
  · rename_i hc
    simp only at ho
    split at ho
    · rename_i cs hg
      split at ho
      · rename_i hle
        cases ho
        refine ⟨_, by rw [hg]; rfl, rfl, fun h2 h3 => ?_⟩
        unfold storeX
        rw [hn]
        simp only [hc, and_self, if_true]
        rw [h3, hg]
        simp only [hle, if_true]
        rfl
      · exact ho.elim
    · exact ho.elim
  · exact ho.elim

theorem appendX_kill {t t2 : TypeId} {s x : AV} {lookS look : Nat → Option Blk} {r : Option Nat × Blk} (h : (appendX C t t2 s x lookS look).Out r) : ∀ b, r.1 = some b → ∃ blk, lookS b = some blk := by
  unfold appendX at h
  split at h
  · split at h
    · split at h
      · split at h
        · split at h
          · exact h.elim
          · split at h
            · obtain ⟨_, rfl⟩ := h
              intro b hb
              cases hb
            · split at h
              · rename_i hl
                split at h
                · split at h
                  · obtain ⟨_, rfl⟩ := h
                    intro b hb
                    cases hb
                    exact ⟨_, hl⟩
                  · exact h.elim
                · exact h.elim
              · exact h.elim
            · split at h
              · split at h
                · split at h
                  · obtain ⟨_, rfl⟩ := h
                    intro b hb
                    cases hb
                  · exact h.elim
                · exact h.elim
              · exact h.elim
            · exact h.elim
        · exact h.elim
      · exact h.elim
    · exact h.elim
  · exact h.elim

/-- What an operation does that neither looks at slots alone nor stands in an order with each one. -/
inductive Form (C : Cfg) (self : Run) (ops : Array Oper) (X ms : List Nat) (next i : Nat) (o : Oper) (ρ : Operand → AV) (h : Heap) (n : Nat) : AV × Heap × Nat → Prop
  | d (q : AV × List Blk) (hl : q.2.length ≤ 8) (hagain : ∀ (h' : Heap) n', seen X (ms.getD i 0) next h' = seen X (ms.getD i 0) next h → (drawR C self ops X ms next i o ρ h' n').Out (q.1, insBlks (next + 8 * i) q.2 h', n')) :
      Form C self ops X ms next i o ρ h n (q.1, insBlks (next + 8 * i) q.2 h, n)
  | s (hs : storeOp o = true) (b : Nat) (z : Blk) (hX : memNat b X = true) (ha : allowed (ms.getD i 0) next b = true) (hg : (h.get b).isSome = true)
      (hagain : ∀ (h' : Heap) n', h'.get b = h.get b → (drawR C self ops X ms next i o ρ h' n').Out (.any, h'.put b z, n')) : Form C self ops X ms next i o ρ h n (.any, h.put b z, n)
  | a (hs : storeOp o = true) (k : Option Nat) (z : Blk) (hk : ∀ b, k = some b → memNat b X = true ∧ allowed (ms.getD i 0) next b = true ∧ ascH 0 h = true)
      (hagain : ∀ (h' : Heap) n', (∀ id, allowed (ms.getD i 0) next id = true → h'.get id = h.get id) → seen X (ms.getD i 0) next h' = seen X (ms.getD i 0) next h → (k.isSome = true → ascH 0 h' = true) →
        (drawR C self ops X ms next i o ρ h' n').Out (.own (next + 8 * i), (delOpt h' k).ins (next + 8 * i) z, n')) :
      Form C self ops X ms next i o ρ h n (.own (next + 8 * i), (delOpt h k).ins (next + 8 * i) z, n)

theorem drawR_form {i : Nat} {o : Oper} {h : Heap} {n : Nat} {r : AV × Heap × Nat} (hf : fullAt ops.toList ms i = false) (ho : (drawR C self ops X ms next i o ρ h n).Out r) : Form C self ops X ms next i o ρ h n r := by
  have ho' := ho
  unfold drawR at ho
  split at ho
  · rename_i he
    rw [hf] at ho
    simp only [Bool.false_eq_true, if_false] at ho
    split at ho
    · rename_i t a x hop
      split at ho
      · rename_i b off hb
        split at ho
        · rename_i hc
          simp only [Bool.and_eq_true] at hc
          obtain ⟨h', h1, h2⟩ := Tree.out_bind.1 ho
          cases h2
          obtain ⟨z, h3, rfl, h4⟩ := storeX_out h1
          refine .s (by simp [storeOp, hop]) b z hc.1 hc.2 h3 fun h2 n2 h5 => ?_
          unfold drawR
          rw [if_pos he, hf]
          simp only [Bool.false_eq_true, if_false, hop, hb, hc, Bool.and_self, if_true]
          exact Tree.out_bind.2 ⟨_, h4 h2 h5, rfl⟩
        · exact ho.elim
      · exact ho.elim
    · rename_i c hop
      split at ho
      · rename_i s x t t2 hc ha hty
        obtain ⟨q, h1, h2⟩ := Tree.out_bind.1 ho
        obtain ⟨k, z⟩ := q
        have hkill := appendX_kill h1
        have again : ∀ (h' : Heap) n', (∀ id, allowed (ms.getD i 0) next id = true → h'.get id = h.get id) → seen X (ms.getD i 0) next h' = seen X (ms.getD i 0) next h → (∀ b, k = some b → memNat b X = true ∧ ascH 0 h' = true) →
            (drawR C self ops X ms next i o ρ h' n').Out (.own (next + 8 * i), (delOpt h' k).ins (next + 8 * i) z, n') := by
          intro h' n' e1 e2 e3
          unfold drawR
          rw [if_pos he, hf]
          simp only [Bool.false_eq_true, if_false, hop, hc, ha, hty]
          refine Tree.out_bind.2 ⟨(k, z), ?_, ?_⟩
          · rw [e2]
            have : (fun id => if allowed (ms.getD i 0) next id = true then h'.get id else none) = fun id => if allowed (ms.getD i 0) next id = true then h.get id else none := by
              funext id
              split
              · rename_i hal; exact e1 id hal
              · rfl
            rw [this]
            exact h1
          · cases k with
            | none => exact rfl
            | some b =>
              simp only [(e3 b rfl).1, (e3 b rfl).2, Bool.and_self, if_true, delOpt]
              exact rfl
        cases k with
        | none =>
          cases h2
          exact .a (by simp [storeOp, hop, hc]) none z (fun b hb => by cases hb) fun h' n' e1 e2 e3 => again h' n' e1 e2 fun b hb => by cases hb
        | some b =>
          simp only at h2
          split at h2
          · rename_i hm
            simp only [Bool.and_eq_true] at hm
            cases h2
            obtain ⟨blk, hblk⟩ := hkill b rfl
            have hal : allowed (ms.getD i 0) next b = true := by
              by_cases hal : allowed (ms.getD i 0) next b = true
              · exact hal
              · rw [if_neg hal] at hblk
                cases hblk
            exact .a (by simp [storeOp, hop, hc]) (some b) z (fun b' hb => by cases hb; exact ⟨hm.1, hal, hm.2⟩) fun h' n' e1 e2 e3 => again h' n' e1 e2 fun b' hb => by cases hb; exact ⟨hm.1, e3 rfl⟩
          · exact h2.elim
      · exact ho.elim
    · exact ho.elim
  · rename_i he
    rw [hf, Bool.and_false, if_neg (by decide)] at ho
    obtain ⟨q, h1, h2⟩ := Tree.out_bind.1 ho
    split at h2
    · rename_i hl
      cases h2
      refine .d q hl fun h' n' e => ?_
      unfold drawR
      rw [if_neg he, hf, Bool.and_false, if_neg (by decide), e]
      exact Tree.out_bind.2 ⟨q, h1, by rw [if_pos hl]; rfl⟩
    · exact h2.elim

theorem drawR_swap {k i : Nat} {ok oi : Oper} {h : Heap} {n : Nat} {rk ri : AV × Heap × Nat} (hne : k ≠ i) (b1 : (ms.getD i 0).testBit k = false) (b2 : (ms.getD k 0).testBit i = false)
    (hfull : slotOp ok = false → slotOp oi = false → fullAt ops.toList ms k = false ∧ fullAt ops.toList ms i = false) (hst : (storeOp ok && storeOp oi) = false)
    (h1 : (drawR C self ops X ms next k ok ρ h n).Out rk) (h2 : (drawR C self ops X ms next i oi ρ rk.2.1 rk.2.2).Out ri) :
    ∃ ri' rk', (drawR C self ops X ms next i oi ρ h n).Out ri' ∧ ri'.1 = ri.1 ∧ (drawR C self ops X ms next k ok ρ ri'.2.1 ri'.2.2).Out rk' ∧ rk'.1 = rk.1 ∧ rk'.2 = ri.2 := by
  cases sk : slotOp ok with
  | true =>
    obtain ⟨T, hT⟩ := slot_form (C := C) (self := self) (ops := ops) (X := X) (ms := ms) (next := next) (ρ := ρ) sk k
    rw [hT] at h1
    obtain ⟨v, h3, h4⟩ := Tree.out_bind.1 h1
    cases h4
    exact ⟨ri, (v, ri.2.1, ri.2.2), h2, rfl, by rw [hT]; exact Tree.out_bind.2 ⟨v, h3, rfl⟩, rfl, rfl⟩
  | false =>
    cases si : slotOp oi with
    | true =>
      obtain ⟨T, hT⟩ := slot_form (C := C) (self := self) (ops := ops) (X := X) (ms := ms) (next := next) (ρ := ρ) si i
      rw [hT] at h2
      obtain ⟨v, h3, h4⟩ := Tree.out_bind.1 h2
      cases h4
      exact ⟨(v, h, n), rk, by rw [hT]; exact Tree.out_bind.2 ⟨v, h3, rfl⟩, rfl, h1, rfl, rfl⟩
    | false =>
      obtain ⟨f1, f2⟩ := hfull sk si
      have F1 := drawR_form f1 h1
      have F2 := drawR_form f2 h2
      cases F1 with
      | d q hl again =>
        cases F2 with
        | d q' hl' again' =>
          simp only at again'
          refine ⟨_, _, again' h n (seen_insBlks b1 hl h).symm, rfl, again _ n (seen_insBlks b2 hl' h), rfl, ?_⟩
          show (insBlks (next + 8 * k) q.2 (insBlks (next + 8 * i) q'.2 h), n) = (insBlks (next + 8 * i) q'.2 (insBlks (next + 8 * k) q.2 h), n)
          rw [insBlks_insBlks q.2 h (by omega)]
        | s hs b z hX ha hg again' =>
          simp only at again' hg
          have hout := allowed_out b1 ha _ hl
          refine ⟨_, _, again' h n (insBlks_get q.2 h hout).symm, rfl, again _ n (seen_put hX z h), rfl, ?_⟩
          show (insBlks (next + 8 * k) q.2 (h.put b z), n) = ((insBlks (next + 8 * k) q.2 h).put b z, n)
          rw [insBlks_put z q.2 h hout (by rw [← insBlks_get q.2 h hout]; exact hg)]
        | a hs kk z hk again' =>
          simp only at again' hk
          refine ⟨_, _, again' h n (fun id hid => (insBlks_get q.2 h (allowed_out b1 hid _ hl)).symm) (seen_insBlks b1 hl h).symm (fun hs => ?_), rfl,
            again _ n (seen_app (fun b hb => (hk b hb).1) b2 z h), rfl, ?_⟩
          · cases kk with
            | none => cases hs
            | some b => exact (insBlks_asc q.2 h (Nat.zero_le _)).1 (hk b rfl).2.2
          · show (insBlks (next + 8 * k) q.2 ((delOpt h kk).ins (next + 8 * i) z), n) = ((delOpt (insBlks (next + 8 * k) q.2 h) kk).ins (next + 8 * i) z, n)
            cases kk with
            | none =>
              show (insBlks (next + 8 * k) q.2 (h.ins (next + 8 * i) z), n) = ((insBlks (next + 8 * k) q.2 h).ins (next + 8 * i) z, n)
              rw [insBlks_ins z q.2 h (by omega)]
            | some b =>
              obtain ⟨_, h4, h5⟩ := hk b rfl
              show (insBlks (next + 8 * k) q.2 ((h.del b).ins (next + 8 * i) z), n) = (((insBlks (next + 8 * k) q.2 h).del b).ins (next + 8 * i) z, n)
              rw [insBlks_del q.2 h (allowed_out b1 h4 _ hl) ((insBlks_asc q.2 h (Nat.zero_le _)).1 h5), insBlks_ins z q.2 _ (by omega)]
      | s hs b z hX ha hg again =>
        cases F2 with
        | d q' hl' again' =>
          simp only at again'
          have hout := allowed_out b2 ha _ hl'
          refine ⟨_, _, again' h n (seen_put hX z h).symm, rfl, again _ n (insBlks_get q'.2 h hout), rfl, ?_⟩
          show ((insBlks (next + 8 * i) q'.2 h).put b z, n) = (insBlks (next + 8 * i) q'.2 (h.put b z), n)
          rw [insBlks_put z q'.2 h hout hg]
        | s hs' => rw [hs, hs'] at hst; cases hst
        | a hs' => rw [hs, hs'] at hst; cases hst
      | a hs kk z hk again =>
        cases F2 with
        | d q' hl' again' =>
          simp only at again'
          refine ⟨_, _, again' h n (seen_app (fun b hb => (hk b hb).1) b1 z h).symm, rfl,
            again _ n (fun id hid => insBlks_get q'.2 h (allowed_out b2 hid _ hl')) (seen_insBlks b2 hl' h) (fun hs => ?_), rfl, ?_⟩
          · cases kk with
            | none => cases hs
            | some b => exact (insBlks_asc q'.2 h (Nat.zero_le _)).2 (hk b rfl).2.2
          · show ((delOpt (insBlks (next + 8 * i) q'.2 h) kk).ins (next + 8 * k) z, n) = (insBlks (next + 8 * i) q'.2 ((delOpt h kk).ins (next + 8 * k) z), n)
            cases kk with
            | none =>
              show ((insBlks (next + 8 * i) q'.2 h).ins (next + 8 * k) z, n) = (insBlks (next + 8 * i) q'.2 (h.ins (next + 8 * k) z), n)
              rw [insBlks_ins z q'.2 h (by omega)]
            | some b =>
              obtain ⟨_, h4, h5⟩ := hk b rfl
              show (((insBlks (next + 8 * i) q'.2 h).del b).ins (next + 8 * k) z, n) = (insBlks (next + 8 * i) q'.2 ((h.del b).ins (next + 8 * k) z), n)
              rw [insBlks_del q'.2 h (allowed_out b2 h4 _ hl') h5, insBlks_ins z q'.2 _ (by omega)]
        | s hs' => rw [hs, hs'] at hst; cases hst
        | a hs' => rw [hs, hs'] at hst; cases hst

end
end Go.Fx
