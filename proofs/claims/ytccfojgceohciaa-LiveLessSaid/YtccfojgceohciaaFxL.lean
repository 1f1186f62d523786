/- One operation, and operations in their order. -/
import Derived.Test.YtccfojgceohciaaFxK
namespace Go.Fx
open Go Go.RowKit

/-! ### states -/
structure RepS (w0 : World) (S : Nat → Prop) (φ : Env) (σ : St) (a : Act) (w : World) : Prop where
  tmps : Reps w S φ σ.tmps a.tmps.toList
  mem : RepH w0 S φ σ.heap w
  fresh : ∀ id, σ.next ≤ id → φ id = none
  defers : a.defers = []

structure After (w : World) (S : Nat → Prop) (φ : Env) (next next' : Nat) (w' : World) (φ' : Env) : Prop where
  mono : Mono w S φ w' S φ'
  old : ∀ id, id < next → φ id = none → φ' id = none
  grow : next ≤ next'

theorem After.refl (w : World) (S : Nat → Prop) (φ : Env) (n : Nat) : After w S φ n n w φ := ⟨Mono.refl _ _ _, fun _ _ h => h, Nat.le_refl _⟩
theorem After.trans {w w' w'' : World} {S : Nat → Prop} {φ φ' φ'' : Env} {n n' n'' : Nat} (h : After w S φ n n' w' φ') (h' : After w' S φ' n' n'' w'' φ'') : After w S φ n n'' w'' φ'' :=
  ⟨h.mono.trans h'.mono, fun id hid hn => h'.old id (Nat.lt_of_lt_of_le hid h.grow) (h.old id hid hn), Nat.le_trans h.grow h'.grow⟩

def exOf : Ex → Exit
  | .normal => .normal
  | .exit id => .exit id
  | .goto l => .goto l
  | .ret => .ret

/-- Code within code. -/
inductive Sub : Code → Code → Prop
  | refl (c) : Sub c c
  | seqL {c a} (b) : Sub c a → Sub c (.seq a b)
  | seqR {c b} (a) : Sub c b → Sub c (.seq a b)
  | condL {c a} (x b) : Sub c a → Sub c (.cond x a b)
  | condR {c b} (x a) : Sub c b → Sub c (.cond x a b)
  | block {c a} (id) : Sub c a → Sub c (.block id a)
  | loop {c a} : Sub c a → Sub c (.loop a)
theorem Sub.trans {a b c : Code} (h : Sub a b) (h' : Sub b c) : Sub a c := by
  induction h' with
  | refl => exact h
  | seqL b _ ih => exact .seqL b ih
  | seqR b _ ih => exact .seqR b ih
  | condL x b _ ih => exact .condL x b ih
  | condR x b _ ih => exact .condR x b ih
  | block id _ ih => exact .block id ih
  | loop _ ih => exact .loop ih
def SubOf (P : Program) (g : Nat) (c : Code) : Prop := ∃ fn body, P.funcs[g]? = some fn ∧ fn.body = some body ∧ Sub c body
theorem SubOf.sub {P : Program} {g : Nat} {c d : Code} (h : SubOf P g c) (hs : Sub d c) : SubOf P g d :=
  let ⟨fn, body, h1, h2, h3⟩ := h; ⟨fn, body, h1, h2, hs.trans h3⟩

def SoundRun (C : Cfg) (self : Run) : Prop :=
  ∀ g c w0 S φ σ a w (Q : Exit → Act → World → Prop), SubOf C.P g c → RepS w0 S φ σ a w →
    (self g c σ).wp (fun r => ∀ a' w' φ', RepS w0 S φ' r.2 a' w' → After w S φ σ.next r.2.next w' φ' → Q (exOf r.1) a' w') → c.wp C.P Q a w

structure EffPost (w0 : World) (w : World) (S : Nat → Prop) (φ : Env) (next : Nat) (r : AV × Heap × Nat) (x : Value) (w' : World) (φ' : Env) : Prop where
  val : Reps w' S φ' [r.1] [x]
  mem : RepH w0 S φ' r.2.1 w'
  fresh : ∀ id, r.2.2 ≤ id → φ' id = none
  after : After w S φ next r.2.2 w' φ'

section
variable {C : Cfg} {w0 w : World} {S : Nat → Prop} {φ : Env} {h : Heap}

theorem movedE_none {k : Option Nat} {g id : Nat} {s : Slot} (hne : id ≠ g) (hn : φ id = none) : movedE φ k g s id = none := by
  unfold movedE
  rw [updE_ne _ _ hne]
  exact killO_none hn

theorem resR_sound (OK : CfgOK C) {o : Oper} {ρ : Operand → AV} {next : Nat} {a : Act} {K : Act → World → Prop} {Q : Exit → Act → World → Prop}
    (R : RepH w0 S φ h w) (hf : ∀ id, next ≤ id → φ id = none) (hops : ∀ x ∈ o.op.operands, Reps w S φ [ρ x] [a.eval x])
    (hx : (resR C o ρ h next).wp fun r => ∀ x w' φ', EffPost w0 w S φ next r x w' φ' → K (a.put o.dst x) w') : o.wp C.P a w K Q := by
  unfold resR at hx
  rw [Tree.wp_bind] at hx
  refine resD_sound OK R.heap R.disj R.sow hops (Tree.wp_mono hx fun r hr => ⟨fun id h1 _ => hf id h1, fun x w' φ' hp => ?_⟩)
  have hF : FreshE φ next r.2.length := fun id h1 _ => hf id h1
  obtain ⟨h1, h2⟩ := R.ext hF hp
  refine hr x w' φ' ⟨hp.val, h1, fun id hid => ?_, ⟨h2, fun id hid hn => ?_, Nat.le_add_right _ _⟩⟩
  · simp only at hid
    rw [hp.ext.same id (by omega)]
    exact hf id (by omega)
  · rw [hp.ext.same id (by omega)]
    exact hn

def resSem (tmps : Array Value) : ResultVar → Sem Value
  | .tmp t => pure (tmps.getD t undef)
  | .cell a t => do loadVar t (← asAddr (tmps.getD a undef))

theorem resultAV_reps {look : Nat → Option Blk} (HL : HeapRep w S φ look) {ts : List AV} {tmps : Array Value} (ht : Reps w S φ ts tmps.toList) : ∀ {rs : List ResultVar} {vs : List AV}, resultAV C.P look ts rs = some vs →
    ∃ us : List Value, (rs.mapM (resSem tmps)).run C.P w = .ok us w ∧ Reps w S φ vs us
  | [], vs, h => by cases h; exact ⟨[], by simp, .nil⟩
  | .tmp t :: rs, vs, h => by
    simp only [resultAV] at h
    split at h
    · rename_i vs' hvs
      cases h
      obtain ⟨us, h1, h2⟩ := resultAV_reps HL ht hvs
      refine ⟨tmps.getD t undef :: us, ?_, ?_⟩
      · rw [List.mapM_cons]
        simp only [resSem, Sem.run_bind, Sem.run_pure, Result.andThen_ok]
        rw [h1]
        simp
      · have := ht.nth t
        exact Reps.cons (by simpa using this) h2
    · cases h
  | .cell a t :: rs, vs, h => by
    simp only [resultAV] at h
    split at h
    · rename_i v vs' hv hvs
      cases h
      obtain ⟨us, h1, h2⟩ := resultAV_reps HL ht hvs
      have hp : Reps w S φ [nth ts a] [tmps.getD a undef] := by simpa using ht.nth a
      obtain ⟨z, v', h3, h4, h5⟩ := loadV_gives (P := C.P) HL (t := t) hp (fun x => x = v) (by rw [hv]; rfl)
      subst h4
      refine ⟨z :: us, ?_, Reps.cons h5 h2⟩
      rw [List.mapM_cons]
      have h6 : (resSem tmps (.cell a t)).run C.P w = .ok z w := by
        show (do loadVar t (← asAddr (tmps.getD a undef)) : Sem Value).run C.P w = .ok z w
        clear hp
        generalize tmps.getD a undef = p at h3 ⊢
        cases p <;> try (simp [Instr.loadAt, Instr.sureAddr] at h3; done)
        rename_i o
        cases o <;> simp_all [Instr.loadAt, Instr.sureAddr, asAddr]
      simp only [Sem.run_bind]
      rw [h6]
      simp only [Result.andThen_ok]
      rw [h1]
      simp
    · cases h

theorem results_run {look : Nat → Option Blk} (HL : HeapRep w S φ look) {ts : List AV} {tmps : Array Value} (ht : Reps w S φ ts tmps.toList) {fn : Func} {vs : List AV} (h : resultAV C.P look ts fn.results.toList = some vs) :
    ∃ x, (results fn tmps).run C.P w = .ok x w ∧ Reps w S φ [oneOrTup vs] [x] := by
  obtain ⟨us, h1, h2⟩ := resultAV_reps HL ht h
  have e : (results fn tmps).run C.P w = .ok (if h : us.toArray.size = 1 then us.toArray[0] else .tuple us.toArray) w := by
    have e0 : results fn tmps = (do let vs ← fn.results.mapM (resSem tmps); pure (if h : vs.size = 1 then vs[0] else .tuple vs)) := by
      unfold results
      congr 2
    rw [e0, ← Array.toArray_toList (xs := fn.results), List.mapM_toArray]
    simp only [Sem.run_bind, map_eq_pure_bind]
    rw [h1]
    simp
  refine ⟨_, e, ?_⟩
  match vs, us, h2 with
  | [], us, h2 => cases h2.nil_inv; exact .tup .nil .nil
  | [v], us, h2 =>
    obtain ⟨x, rfl, h3⟩ := h2.one_inv
    exact h3
  | v :: v2 :: vs, us, h2 =>
    obtain ⟨x, us, rfl, h3, h4⟩ := h2.uncons
    obtain ⟨x2, us, rfl, h5, h6⟩ := h4.uncons
    simp only [oneOrTup]
    rw [dif_neg (by simp)]
    exact .tup h2 .nil

/-- A call that is walked into. -/
theorem inlineX_sound {self : Run} (hself : SoundRun C self) {g : Nat} {args : List AV} {vals : List Value} {next : Nat} (R : RepH w0 S φ h w) (hf : ∀ id, next ≤ id → φ id = none) (ha : Reps w S φ args vals)
    {T : Ending → World → Prop} (hx : (inlineX C self g args h next).wp fun r => ∀ x w' φ', EffPost w0 w S φ next r x w' φ' → T (.returned x) w') :
    Enters C.P g ∧ Calls C.P g vals.toArray w T := by
  unfold inlineX at hx
  split at hx
  · exact hx.elim
  rename_i fn hfn
  split at hx
  · exact hx.elim
  rename_i body hbody
  split at hx
  · exact hx.elim
  rename_i hname
  refine ⟨⟨fn, hfn, by simpa using hname, by simp [hbody]⟩, ?_⟩
  rw [Tree.wp_bind] at hx
  refine calls_of_wp hfn hbody (hself g body w0 S φ _ _ w _ ⟨fn, body, hfn, hbody, .refl _⟩ ⟨?_, R, hf, rfl⟩ (Tree.wp_mono hx ?_))
  · have := ha.app (Reps.anys (w := w) (S := S) (φ := φ) (fn.ntmps - args.length) undef)
    rw [ha.len] at this ⊢
    simpa using this
  · rintro ⟨e, σ'⟩ hr a' w' φ' RS HA
    have fin : (match resultAV C.P σ'.heap.get σ'.tmps fn.results.toList with
          | some vs => Tree.ret (oneOrTup vs, σ'.heap, σ'.next)
          | none => Tree.fail).wp (fun r => ∀ x w' φ', EffPost w0 w S φ next r x w' φ' → T (.returned x) w') →
        a'.defers = [] ∧ ∃ v, (results fn a'.tmps).run C.P w' = .ok v w' ∧ T (.returned v) w' := by
      intro hr
      split at hr
      · rename_i vs hvs
        obtain ⟨x, h1, h2⟩ := results_run RS.mem.heap RS.tmps hvs
        exact ⟨RS.defers, x, h1, hr x w' φ' ⟨h2, RS.mem, RS.fresh, HA⟩⟩
      · exact hr.elim
    cases e with
    | normal => exact fin hr
    | ret => exact fin hr
    | exit id => exact hr.elim
    | goto l => exact hr.elim

theorem unit_step {o : Oper} {a : Act} {K : Act → World → Prop} {Q : Exit → Act → World → Prop} {next : Nat} {t : Tree Heap} {s : Sem Unit} (hf : ∀ id, next ≤ id → φ id = none)
    (he : execOp a.eval o = (do s; pure .skip))
    (hs : ∀ Q, t.wp Q → ∃ w' h', Q h' ∧ s.run C.P w = .ok () w' ∧ RepH w0 S φ h' w' ∧ Mono w S φ w' S φ)
    (hx : (t.bind fun h' => Tree.ret (AV.any, h', next)).wp fun r => ∀ x w' φ', EffPost w0 w S φ next r x w' φ' → K (a.put o.dst x) w') : o.wp C.P a w K Q := by
  rw [Tree.wp_bind] at hx
  obtain ⟨w', h', hq, hr, R', m⟩ := hs _ hx
  unfold Oper.wp
  rw [he, Sem.run_bind, hr]
  simp only [Result.andThen_ok, Sem.run_pure, Oper.upon_skip]
  exact hq _ w' φ ⟨.any _ .nil, R', hf, ⟨m, fun _ _ h => h, Nat.le_refl _⟩⟩

theorem effR_sound {self : Run} (hself : SoundRun C self) {o : Oper} {ρ : Operand → AV} {next : Nat} {a : Act} {K : Act → World → Prop} {Q : Exit → Act → World → Prop}
    (R : RepH w0 S φ h w) (hf : ∀ id, next ≤ id → φ id = none) (hops : ∀ x ∈ o.op.operands, Reps w S φ [ρ x] [a.eval x])
    (hx : (effR C self o ρ h next).wp fun r => ∀ x w' φ', EffPost w0 w S φ next r x w' φ' → K (a.put o.dst x) w') : o.wp C.P a w K Q := by
  unfold effR at hx
  split at hx
  · rename_i t x y ho
    exact unit_step hf (by simp [execOp, ho]) (fun Q hq => storeX_run R (hops x (by simp [ho, Op.operands])) (hops y (by simp [ho, Op.operands])) hq) hx
  · rename_i t m k x ho
    exact unit_step hf (by simp [execOp, ho]) (fun Q hq => mapUpdX_run R (hops m (by simp [ho, Op.operands])) (hops k (by simp [ho, Op.operands])) (hops x (by simp [ho, Op.operands])) hq) hx
  · rename_i t m k x ho
    exact unit_step hf (by simp [execOp, ho]) (fun Q hq => mapUpdX_run R (hops m (by simp [ho, Op.operands])) (hops k (by simp [ho, Op.operands])) (hops x (by simp [ho, Op.operands])) hq) hx
  · rename_i c ho
    split at hx
    · -- append
      rename_i hc
      split at hx
      · rename_i s x t t2 hargs htypes
        rw [Tree.wp_bind] at hx
        have hargs' : c.args = #[s, x] := by apply Array.ext'; simpa using hargs
        have htypes' : c.argTypes = #[t, t2] := by apply Array.ext'; simpa using htypes
        obtain ⟨rfl, k, blk, v, w', Bn, cap, len, hq, hr, hp⟩ := appendX_run (g := next) R R.heap R.heap (hops s (by simp [ho, Op.operands, Call.operands, hargs'])) (hops x (by simp [ho, Op.operands, Call.operands, hargs'])) (hf next (Nat.le_refl _)) hx o.type
        unfold Oper.wp
        have e : (execOp a.eval o).run C.P w = .ok (.value v) w' := by
          simp [execOp, ho, resolve, hc, invoke, builtin, hargs', htypes', hr]
        rw [e, Oper.upon_value]
        have hg := hf next (Nat.le_refl _)
        refine hq v w' _ ⟨?_, hp.moved.rep R hg hp.blk, fun id hid => ?_, ⟨hp.moved.mono hg, fun id hid hn => ?_, Nat.le_succ _⟩⟩
        · exact .own ⟨_, updE_self _ _ _, hp.fits⟩ .nil
        · simp only at hid
          exact movedE_none (by omega) (hf id (by omega))
        · exact movedE_none (by omega) hn
      · exact hx.elim
    · -- delete
      rename_i hc
      split at hx
      · rename_i m k t ts hargs htypes
        rw [Tree.wp_bind] at hx
        have hargs' : c.args = #[m, k] := by apply Array.ext'; simpa using hargs
        have ht : c.argTypes[0]? = some t := by rw [← Array.getElem?_toList, htypes]; rfl
        obtain ⟨w', h', hq, hr, R', mo⟩ := delX_run R (hops m (by simp [ho, Op.operands, Call.operands, hargs'])) (hops k (by simp [ho, Op.operands, Call.operands, hargs'])) hx c.argTypes ht o.type
        unfold Oper.wp
        have e : (execOp a.eval o).run C.P w = .ok (.value (.tuple #[])) w' := by
          simp [execOp, ho, resolve, hc, invoke, builtin, hargs', hr]
        rw [e, Oper.upon_value]
        exact hq _ w' φ ⟨.any _ .nil, R', hf, ⟨mo, fun _ _ h => h, Nat.le_refl _⟩⟩
      · exact hx.elim
    · exact hx.elim
    · split at hx
      · rename_i g args hcall
        have key : ∀ vals, Reps w S φ args vals → Enters C.P g ∧ Calls C.P g vals.toArray w fun e w' => ∃ x, e = .returned x ∧ K (a.put o.dst x) w' := fun vals hv =>
          inlineX_sound hself R hf hv (Tree.wp_mono hx fun r hr x w' φ' hp => ⟨x, rfl, hr x w' φ' hp⟩)
        have hent : Enters C.P g := by
          unfold inlineX at hx
          split at hx
          · exact hx.elim
          rename_i fn hfn
          split at hx
          · exact hx.elim
          rename_i body hbody
          split at hx
          · exact hx.elim
          rename_i hname
          exact ⟨fn, hfn, by simpa using hname, by simp [hbody]⟩
        obtain ⟨vals, hrun, hvals⟩ := callTo_run ho hops hcall hent
        unfold Oper.wp
        rw [hrun, Oper.upon_enter]
        refine (key vals hvals).2.mono ?_
        rintro e w' ⟨x, rfl, hk⟩
        exact hk
      · exact hx.elim
  · exact hx.elim

end
end Go.Fx
