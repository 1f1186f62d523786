/- A region whose order is drawn: in the world. -/
import Derived.Test.YtccfojgceohciaaFxP
namespace Go.Fx
open Go Go.RowKit

structure DrawPost (w0 w : World) (S : Nat → Prop) (φ : Env) (next i n : Nat) (r : AV × Heap × Nat) (x : Value) (w' : World) (φ' : Env) : Prop where
  val : Reps w' S φ' [r.1] [x]
  mono : Mono w S φ w' S φ'
  mem : RepH w0 S φ' r.2.1 w'
  fresh : ∀ id, r.2.2 ≤ id → φ' id = none
  grow : n ≤ r.2.2
  old : ∀ id, id < n → ¬ (next + 8 * i ≤ id ∧ id < next + 8 * i + 8) → φ id = none → φ' id = none

theorem HeapRep.sub {w : World} {S : Nat → Prop} {φ : Env} {look look' : Nat → Option Blk} (h : HeapRep w S φ look) (hs : ∀ id blk, look' id = some blk → look id = some blk) : HeapRep w S φ look' :=
  fun id blk hb => h id blk (hs id blk hb)
theorem seen_sub {X : List Nat} {mask next : Nat} {h : Heap} (id : Nat) (blk : Blk) (hb : seen X mask next h id = some blk) : h.get id = some blk := by
  unfold seen at hb
  split at hb
  · exact hb
  · cases hb

section
variable {C : Cfg} {self : Run} {ops : Array Oper} {X ms : List Nat} {next : Nat} {w0 w : World} {S : Nat → Prop} {φ : Env}

theorem drawR_sound (OK : CfgOK C) (hself : SoundRun C self) {i : Nat} {o : Oper} {ρ : Operand → AV} {h : Heap} {n : Nat} {a : Act} {K : Act → World → Prop} {Q : Exit → Act → World → Prop}
    (R : RepH w0 S φ h w) (hf : ∀ id, n ≤ id → φ id = none) (hres : ∀ id, next + 8 * i ≤ id → id < next + 8 * i + 8 → φ id = none) (hn : next + 8 * i + 8 ≤ n) (hops : ∀ x ∈ o.op.operands, Reps w S φ [ρ x] [a.eval x])
    (hx : (drawR C self ops X ms next i o ρ h n).wp fun r => ∀ x w' φ', DrawPost w0 w S φ next i n r x w' φ' → K (a.put o.dst x) w') : o.wp C.P a w K Q := by
  unfold drawR at hx
  split at hx
  · split at hx
    · exact effR_sound hself R hf hops (Tree.wp_mono hx fun r hr x w' φ' hp => hr x w' φ' ⟨hp.val, hp.after.mono, hp.mem, hp.fresh, hp.after.grow, fun id hid _ hnone => hp.after.old id hid hnone⟩)
    · split at hx
      · rename_i t p x ho
        split at hx
        · rename_i b off hb
          split at hx
          · rw [Tree.wp_bind] at hx
            rw [← hb] at hx
            obtain ⟨w', h', hq, hr, R', m⟩ := storeX_run R (hops p (by simp [ho, Op.operands])) (hops x (by simp [ho, Op.operands])) hx
            unfold Oper.wp
            have e : (execOp a.eval o).run C.P w = .ok .skip w' := by simp [execOp, ho, hr]
            rw [e, Oper.upon_skip]
            exact hq _ w' φ ⟨.any _ .nil, m, R', hf, Nat.le_refl _, fun _ _ _ h => h⟩
          · exact hx.elim
        · exact hx.elim
      · rename_i c ho
        split at hx
        · rename_i s x t t2 hc hargs htypes
          rw [Tree.wp_bind] at hx
          have hargs' : c.args = #[s, x] := by apply Array.ext'; simpa using hargs
          have htypes' : c.argTypes = #[t, t2] := by apply Array.ext'; simpa using htypes
          have hg : φ (next + 8 * i) = none := hres _ (Nat.le_refl _) (by omega)
          obtain ⟨rfl, k, blk, v, w', Bn, cap, len, hq, hr, hp⟩ := appendX_run (g := next + 8 * i) R (R.heap.sub fun id blk hb => by
            by_cases hal : allowed (ms.getD i 0) next id = true
            · rw [if_pos hal] at hb; exact hb
            · rw [if_neg hal] at hb; cases hb) (R.heap.sub seen_sub) (hops s (by simp [ho, Op.operands, Call.operands, hargs'])) (hops x (by simp [ho, Op.operands, Call.operands, hargs'])) hg hx o.type
          unfold Oper.wp
          have e : (execOp a.eval o).run C.P w = .ok (.value v) w' := by
            simp [execOp, ho, resolve, hc, invoke, builtin, hargs', htypes', hr]
          rw [e, Oper.upon_value]
          have fin : ∀ h', h' = (delOpt h k).ins (next + 8 * i) blk → DrawPost w0 w S φ next i n (.own (next + 8 * i), h', n) v w' (movedE φ k (next + 8 * i) ⟨true, Bn, cap, len⟩) := by
            rintro h' rfl
            refine ⟨.own ⟨_, updE_self _ _ _, hp.fits⟩ .nil, hp.moved.mono hg, hp.moved.rep R hg hp.blk, fun id hid => ?_, Nat.le_refl _, fun id hid hn0 hnone => ?_⟩
            · simp only at hid
              exact movedE_none (by omega) (hf id hid)
            · exact movedE_none (by omega) hnone
          cases k with
          | none => exact hq v w' _ (fin _ rfl)
          | some b =>
            simp only at hq
            split at hq
            · exact hq v w' _ (fin _ rfl)
            · exact hq.elim
        · exact hx.elim
      · exact hx.elim
  split at hx
  · exact resR_sound OK R hf hops (Tree.wp_mono hx fun r hr x w' φ' hp => hr x w' φ' ⟨hp.val, hp.after.mono, hp.mem, hp.fresh, hp.after.grow, fun id hid _ hnone => hp.after.old id hid hnone⟩)
  · rw [Tree.wp_bind] at hx
    have hx' : (resD C (next + 8 * i) o ρ (seen X (ms.getD i 0) next h)).wp fun r => r.2.length ≤ 8 ∧ ∀ x w' φ', DrawPost w0 w S φ next i n (r.1, insBlks (next + 8 * i) r.2 h, n) x w' φ' → K (a.put o.dst x) w' := by
      refine Tree.wp_mono hx fun r hr => ?_
      split at hr
      · rename_i hl; exact ⟨hl, hr⟩
      · exact hr.elim
    refine resD_sound OK (R.heap.sub seen_sub) R.disj R.sow hops (Tree.wp_mono hx' fun r ⟨hl, hr⟩ => ⟨fun id h1 h2 => hres id h1 (by omega), fun x w' φ' hp => ?_⟩)
    have hF : FreshE φ (next + 8 * i) r.2.length := fun id h1 h2 => hres id h1 (by omega)
    obtain ⟨h1, h2⟩ := R.ext hF hp
    refine hr x w' φ' ⟨hp.val, h2, h1, fun id hid => ?_, Nat.le_refl _, fun id hid hnt hnone => ?_⟩
    · simp only at hid
      rw [hp.ext.same id (by omega)]
      exact hf id hid
    · rw [hp.ext.same id (by omega)]
      exact hnone

/-! ### the whole region -/
def unl (n : Nat) (listed : Array Bool) : List Nat := (List.range n).filter fun j => !listed.getD j true
theorem mem_unl {n : Nat} {listed : Array Bool} {j : Nat} : j ∈ unl n listed ↔ j < n ∧ listed.getD j true = false := by simp [unl]
theorem getD_set {listed : Array Bool} {i : Nat} (hi : i < listed.size) (j : Nat) (d : Bool) : (listed.setIfInBounds i true).getD j d = if j = i then true else listed.getD j d := by
  simp only [Array.getD_eq_getD_getElem?, Array.getElem?_setIfInBounds]
  by_cases h : i = j
  · subst h; simp [hi]
  · simp [h, Ne.symm h]
theorem unl_set {n : Nat} {listed : Array Bool} {i : Nat} {s t : List Nat} (hi : i < listed.size) (h : unl n listed = s ++ i :: t) : unl n (listed.setIfInBounds i true) = s ++ t ∧ ∀ k ∈ s, k < i := by
  have hnd : (s ++ i :: t).Pairwise (· < ·) := by
    rw [← h]
    exact List.Pairwise.filter _ List.pairwise_lt_range
  have hs : ∀ k ∈ s, k < i := fun k hk => (List.pairwise_append.1 hnd).2.2 k hk i (by simp)
  have ht : ∀ k ∈ t, i < k := fun k hk => (List.pairwise_cons.1 (List.pairwise_append.1 hnd).2.1).1 k hk
  refine ⟨?_, hs⟩
  have e : unl n (listed.setIfInBounds i true) = (unl n listed).filter fun j => j != i := by
    unfold unl
    rw [List.filter_filter]
    congr 1
    funext j
    rw [getD_set hi]
    by_cases hj : j = i <;> simp [hj]
  rw [e, h, List.filter_append]
  have e1 : s.filter (fun j => j != i) = s := List.filter_eq_self.2 fun k hk => by have := hs k hk; simp; omega
  have e2 : (i :: t).filter (fun j => j != i) = t := by
    rw [List.filter_cons]
    simp only [bne_self_eq_false, Bool.false_eq_true, if_false]
    exact List.filter_eq_self.2 fun k hk => by have := ht k hk; simp; omega
  rw [e1, e2]

structure DInv (C : Cfg) (run : Run) (ops : Array Oper) (X ms : List Nat) (next : Nat) (w0 wS : World) (S : Nat → Prop) (φS : Env) (Q : Exit → Act → World → Prop) (listed : Array Bool) (σ : St) (a : Act) (w : World) (φ : Env) : Prop where
  tmps : Reps w S φ σ.tmps a.tmps.toList
  defers : a.defers = []
  mem : RepH w0 S φ σ.heap w
  fresh : ∀ id, σ.next ≤ id → φ id = none
  room : next + 8 * ops.size ≤ σ.next
  res : ∀ j, j < ops.size → listed.getD j true = false → ∀ id, next + 8 * j ≤ id → id < next + 8 * j + 8 → φ id = none
  mono : Mono wS S φS w S φ
  old : ∀ id, id < next → φS id = none → φ id = none
  closed : ∀ j k, j < ops.size → listed.getD j true = true → (ms.getD j 0).testBit k = true → listed.getD k true = true
  rest : (drawOps C run ops X ms next (unl ops.size listed) σ).wp fun σ' => ∀ a' w' φ', RepS w0 S φ' σ' a' w' → After wS S φS next σ'.next w' φ' → Q .normal a' w'
  size : listed.size = ops.size

theorem draw_sound (OK : CfgOK C) (hself : SoundRun C self) (D : DrawOK ops ms) {wS : World} {φS : Env} {Q : Exit → Act → World → Prop} : ∀ (fuel : Nat) (listed : Array Bool) (σ : St) (a : Act) (w : World) (φ : Env),
    DInv C self ops X ms next w0 wS S φS Q listed σ a w φ → (unl ops.size listed).length = fuel → wpAny C.P .any ops Q fuel listed a w := by
  intro fuel
  induction fuel with
  | zero =>
    intro listed σ a w φ I hl
    have hnil : unl ops.size listed = [] := List.eq_nil_of_length_eq_zero hl
    refine ⟨?_, ?_⟩
    · apply List.eq_nil_iff_forall_not_mem.2
      intro j hj
      have : j ∈ unl ops.size listed := by
        simp only [Region.ready, List.mem_filter, List.mem_range, Bool.and_eq_true, Bool.not_eq_true'] at hj
        exact mem_unl.2 ⟨hj.1, hj.2.1⟩
      rw [hnil] at this
      cases this
    · have h := I.rest
      rw [hnil] at h
      exact h a w φ ⟨I.tmps, I.mem, I.fresh, I.defers⟩ ⟨I.mono, I.old, Nat.le_trans (Nat.le_add_right _ _) I.room⟩
  | succ fuel ih =>
    intro listed σ a w φ I hl
    refine ⟨fun hr => ?_, fun i hi => ?_⟩
    · -- the least one is ready
      exfalso
      have hne : ∃ j, j < ops.size ∧ listed.getD j true = false := by
        cases hu : unl ops.size listed with
        | nil => rw [hu] at hl; cases hl
        | cons j l => exact ⟨j, mem_unl.1 (by rw [hu]; simp)⟩
      have key : ∀ j, j < ops.size → listed.getD j true = false → False := by
        intro j
        induction j using Nat.strongRecOn with
        | _ j ihj =>
          intro h1 h2
          by_cases hall : ∀ k, k < j → listed.getD k true = true
          · have ho : ops[j]? = some ops[j] := Array.getElem?_eq_getElem h1
            have : j ∈ Region.ready .any ops listed := by
              simp only [Region.ready, List.mem_filter, List.mem_range, h1, h2, true_and, ho, Option.map_some, Option.getD_some, Bool.not_false, Bool.true_and]
              rw [← Array.all_toList, List.all_eq_true]
              intro e he
              cases hb : Region.binds .any e with
              | false => rfl
              | true =>
                have h3 := D.back j _ ho e he hb
                have h4 := hall e.on h3
                have h5 : e.on < listed.size := by rw [I.size]; omega
                simp only [Bool.not_true, Bool.false_or]
                simpa [Array.getD_eq_getD_getElem?, h5] using h4
            rw [hr] at this
            cases this
          · simp only [Classical.not_forall] at hall
            obtain ⟨k, h3, h4⟩ := hall
            exact ihj k h3 (by omega) (by simpa using h4)
      obtain ⟨j, h1, h2⟩ := hne
      exact key j h1 h2
    · simp only [Region.ready, List.mem_filter, List.mem_range, Bool.and_eq_true, Bool.not_eq_true'] at hi
      obtain ⟨hi1, hi2, hi3⟩ := hi
      have hoi : ops[i]? = some ops[i] := Array.getElem?_eq_getElem hi1
      generalize ops[i] = oi at hoi
      rw [hoi] at hi3
      simp only [Option.map_some, Option.getD_some] at hi3
      rw [← Array.all_toList, List.all_eq_true] at hi3
      have hready : ∀ e ∈ oi.after.toList, Region.binds .any e = true → listed.getD e.on true = true := by
        intro e he hb
        have := hi3 e he
        rw [hb] at this
        simp only [Bool.not_true, Bool.false_or, Array.getD_eq_getD_getElem?] at this ⊢
        cases hx : listed[e.on]? with
        | none => rfl
        | some b => rw [hx] at this; simpa using this
      have hbits : ∀ k, (ms.getD i 0).testBit k = true → listed.getD k true = true := by
        intro k hb
        obtain ⟨o, ho, e, he, h1, h2, h3⟩ := D.bits i k hb
        rw [hoi] at ho
        cases ho
        have h4 := hready e he h1
        rcases h3 with rfl | h3
        · exact h4
        · exact I.closed e.on k (by omega) h4 h3
      obtain ⟨s, t, hst⟩ := List.append_of_mem (mem_unl.2 ⟨hi1, hi2⟩)
      obtain ⟨hset, hlt⟩ := unl_set (by rw [I.size]; exact hi1) hst
      have hrest := I.rest
      rw [hst] at hrest
      have hfront := drawOps_front hoi s σ (fun k hk => by
        have hki := hlt k hk
        have hku : k < ops.size ∧ listed.getD k true = false := mem_unl.1 (by rw [hst]; simp [hk])
        have hok : ops[k]? = some ops[k] := Array.getElem?_eq_getElem hku.1
        have b1 : (ms.getD i 0).testBit k = false := by
          cases hb : (ms.getD i 0).testBit k with
          | false => rfl
          | true => rw [hbits k hb] at hku; cases hku.2
        have b2 : (ms.getD k 0).testBit i = false := by
          cases hb : (ms.getD k 0).testBit i with
          | false => rfl
          | true => have := D.lt k i hb; omega
        rcases D.pair k i _ _ hki hok hoi with h1 | ⟨h1, h2⟩
        · rw [b1] at h1; cases h1
        · have nf : ∀ {x y : Nat} {oy : Oper}, x ≠ y → y < ops.size → ops[y]? = some oy → slotOp oy = false → (ms.getD x 0).testBit y = false → (ms.getD y 0).testBit x = false → fullAt ops.toList ms x = false := by
            intro x y oy hne hy hoy hsl hb hb'
            cases hfa : fullAt ops.toList ms x with
            | false => rfl
            | true =>
              simp only [fullAt, List.all_eq_true, List.mem_range] at hfa
              have := hfa y (by simpa using hy)
              have hoy' : ops.toList[y]? = some oy := by simpa using hoy
              rw [hoy', hb, hb', beq_false (Ne.symm hne)] at this
              simp [hsl] at this
          exact ⟨by omega, b1, b2, _, hok, h1, h2, fun s1 s2 => ⟨nf (by omega) hi1 hoi s2 b2 b1, nf (by omega) hku.1 hok s1 b1 b2⟩⟩) hrest
      unfold drawOps at hfront
      rw [Tree.wp_bind] at hfront
      unfold drawStep at hfront
      rw [hoi] at hfront
      simp only at hfront
      have hresi := I.res i hi1 hi2
      have hroom : next + 8 * i + 8 ≤ σ.next := by have := I.room; omega
      refine stepW_sound (DrawPost w0 w S φ next i σ.next) (fun r w' φ' => RepH w0 S φ' r.1 w' ∧ (∀ id, r.2 ≤ id → φ' id = none) ∧ σ.next ≤ r.2 ∧ Mono w S φ w' S φ' ∧
          ∀ id, id < σ.next → ¬ (next + 8 * i ≤ id ∧ id < next + 8 * i + 8) → φ id = none → φ' id = none) ?_
        ⟨I.mem, I.fresh, Nat.le_refl _, Mono.refl _ _ _, fun _ _ _ h => h⟩ hoi I.tmps I.defers ?_ (Tree.wp_mono hfront fun σ' hσ a' w' φ' h1 h2 h3 => ?_)
      · intro r x w' φ' hp
        exact ⟨hp.val, hp.mono, hp.mem, hp.fresh, hp.grow, hp.mono, hp.old⟩
      · intro ht
        exact drawR_sound OK hself I.mem I.fresh hresi hroom (fun x _ => evO_reps I.tmps x) ht
      · obtain ⟨h4, h5, h6, h7, h8⟩ := h3
        refine ih _ σ' a' w' φ' ⟨h1, h2, h4, h5, Nat.le_trans I.room h6, ?_, I.mono.trans h7, ?_, ?_, ?_, ?_⟩ ?_
        · intro j hj hju id hid1 hid2
          rw [getD_set (by rw [I.size]; exact hi1)] at hju
          split at hju
          · cases hju
          · rename_i hne
            have := I.room
            exact h8 id (by omega) (by omega) (I.res j hj hju id hid1 hid2)
        · intro id hid hnone
          have := I.room
          exact h8 id (by omega) (by omega) (I.old id hid hnone)
        · intro j k hj hjl hb
          rw [getD_set (by rw [I.size]; exact hi1)] at hjl ⊢
          split
          · rfl
          · split at hjl
            · rename_i e; subst e; exact hbits k hb
            · exact I.closed j k hj hjl hb
        · rw [hset]
          exact hσ
        · simp [I.size]
        · rw [hset]
          rw [hst] at hl
          simp only [List.length_append, List.length_cons] at hl ⊢
          omega

theorem RepH.drew {h : Heap} (R : RepH w0 S φ h w) (n : Nat) : RepH w0 S φ h { w with drawn := n } ∧ Mono w S φ { w with drawn := n } S φ := by
  have m : Mono w S φ { w with drawn := n } S φ := ⟨fun _ _ h => .inl h, fun _ h => ⟨h, rfl⟩⟩
  exact ⟨⟨fun b blk hb => let ⟨B, c, l, h1, h2⟩ := R.heap b blk hb; ⟨B, c, l, h1, h2.mono m fun _ _ => rfl⟩, R.inj, R.rng, R.below.trans ⟨rfl, rfl, rfl, Nat.le_refl _, fun _ _ => rfl⟩, R.sb⟩, m⟩

theorem region_draw_sound (OK : CfgOK C) (hself : SoundRun C self) {id : Nat} {σ : St} {a : Act} {Q : Exit → Act → World → Prop} (RS : RepS w0 S φ σ a w)
    (h : (regionX C self ops true σ).wp fun σ' => ∀ a' w' φ', RepS w0 S φ' σ' a' w' → After w S φ σ.next σ'.next w' φ' → Q .normal a' w') : (Code.region id ops true).wp C.P Q a w := by
  unfold regionX at h
  simp only at h
  split at h
  · rename_i hd
    obtain ⟨R', m⟩ := RS.mem.drew (w.drawn + 1)
    have hun : unl ops.size (Array.replicate ops.size false) = List.range ops.size := by
      unfold unl
      refine List.filter_eq_self.2 fun j hj => ?_
      simp only [List.mem_range] at hj
      simp [hj]
    refine wp_region_any OK.mixed (draw_sound OK hself (DrawOK.of hd) (wS := w) (φS := φ) ops.size _ { σ with next := σ.next + 8 * ops.size } a _ φ ⟨RS.tmps.mono m, RS.defers, R', fun id hid => RS.fresh id (by simp only at hid; omega), Nat.le_refl _, ?_, m, fun _ _ h => h, ?_, by rw [hun]; exact h, by simp⟩ (by rw [hun]; simp))
    · intro j _ _ id h1 _
      exact RS.fresh id (by omega)
    · intro j k hj hjl
      simp [hj] at hjl
  · exact h.elim

end
end Go.Fx
