/- Code. -/
import Derived.Test.YtccfojgceohciaaFxR
namespace Go.Fx
open Go Go.RowKit

structure Kept (ds : List Nat) (bump : Nat) (σ σ' : St) : Prop where
  heap : σ'.heap = σ.heap
  next : σ.next ≤ σ'.next ∧ σ'.next ≤ σ.next + bump
  len : σ'.tmps.length = σ.tmps.length
  others : ∀ j, memNat j ds = false → σ'.tmps[j]? = σ.tmps[j]?

theorem Kept.refl (ds : List Nat) (σ : St) : Kept ds 0 σ σ := ⟨rfl, ⟨Nat.le_refl _, Nat.le_refl _⟩, rfl, fun _ _ => rfl⟩
theorem memNat_app (j : Nat) : ∀ l l' : List Nat, memNat j (l ++ l') = (memNat j l || memNat j l')
  | [], _ => rfl
  | m :: l, l' => by simp [memNat, memNat_app j l l', Bool.or_assoc]
theorem Kept.trans {ds ds' : List Nat} {b b' : Nat} {σ σ' σ'' : St} (h : Kept ds b σ σ') (h' : Kept ds' b' σ' σ'') : Kept (ds ++ ds') (b + b') σ σ'' := by
  refine ⟨h'.heap.trans h.heap, ⟨Nat.le_trans h.next.1 h'.next.1, ?_⟩, h'.len.trans h.len, fun j hj => ?_⟩
  · have := h.next.2; have := h'.next.2; omega
  · rw [memNat_app, Bool.or_eq_false_iff] at hj
    rw [h'.others j hj.2, h.others j hj.1]
theorem Kept.weaken {ds ds' : List Nat} {b b' : Nat} {σ σ' : St} (h : Kept ds b σ σ') (hd : ∀ j, memNat j ds' = false → memNat j ds = false) (hb : b ≤ b') : Kept ds' b' σ σ' :=
  ⟨h.heap, ⟨h.next.1, Nat.le_trans h.next.2 (Nat.add_le_add_left hb _)⟩, h.len, fun j hj => h.others j (hd j hj)⟩

theorem setNth_len (d : Nat) (v : AV) : ∀ ts : List AV, (setNth ts d v).length = ts.length := by
  intro ts
  induction ts generalizing d with
  | nil => rfl
  | cons a ts ih => cases d with
    | zero => rfl
    | succ d => simp [setNth, ih]
theorem setNth_get {d j : Nat} (v : AV) (hne : j ≠ d) : ∀ ts : List AV, (setNth ts d v)[j]? = ts[j]? := by
  intro ts
  induction ts generalizing d j with
  | nil => rfl
  | cons a ts ih =>
    cases d with
    | zero => cases j with
      | zero => exact absurd rfl hne
      | succ j => rfl
    | succ d => cases j with
      | zero => rfl
      | succ j => simpa [setNth] using ih (d := d) (j := j) (by omega)
theorem putT_kept (dst : Option Nat) (v : AV) (ts : List AV) (h : Heap) (n : Nat) : Kept dst.toList 0 ⟨ts, h, n⟩ ⟨putT dst v ts, h, n⟩ := by
  cases dst with
  | none => exact Kept.refl _ _
  | some d =>
    refine ⟨rfl, ⟨Nat.le_refl _, Nat.le_refl _⟩, setNth_len d v ts, fun j hj => setNth_get v ?_ ts⟩
    rintro rfl
    simp [memNat] at hj

section
variable {C : Cfg}

def KeptRun (C : Cfg) (self : Run) : Prop := ∀ g c σ r, neutralCode C c = true → (self g c σ).Leaf r → r.1 = .normal ∧ Kept (writesOf c) (bumpOf c) σ r.2

theorem putG_leaf {g : Bool} {dst : Option Nat} {r : AV × Heap × Nat} {ts : List AV} {σ' : St} (h : (putG g dst r ts).Leaf σ') : ∃ v, σ' = ⟨putT dst v ts, r.2.1, r.2.2⟩ := by
  unfold putG at h
  split at h
  · rcases h with h | h
    · exact ⟨_, h.symm⟩
    · exact ⟨_, h.symm⟩
  · exact ⟨_, h.symm⟩
theorem stepW_kept {ops : Array Oper} {i : Nat} {o : Oper} {σ σ' : St} {t : Tree (AV × Heap × Nat)} (ht : ∀ r, t.Leaf r → r.2 = (σ.heap, σ.next)) (h : (stepW ops i o σ t).Leaf σ') : Kept o.dst.toList 0 σ σ' := by
  unfold stepW at h
  split at h
  · exact h.elim
  · cases h; exact putT_kept _ _ _ _ _
  · obtain ⟨r, h1, h2⟩ := Tree.leaf_bind.1 h
    obtain ⟨v, rfl⟩ := putG_leaf h2
    rw [ht r h1]
    exact putT_kept _ _ _ _ _

theorem runOps_kept (QK : QuietOK C) {self : Run} {ops : Array Oper} : ∀ (l : List Oper) (i : Nat) (σ σ' : St), (∀ o ∈ l, neutralOp C o = true) → (runOps C self ops i l σ).Leaf σ' → Kept (dstsOf l) 0 σ σ'
  | [], _, σ, σ', _, h => by cases h; exact Kept.refl _ _
  | o :: l, i, σ, σ', hn, h => by
    unfold runOps at h
    obtain ⟨σ1, h1, h2⟩ := Tree.leaf_bind.1 h
    have k2 := runOps_kept QK l (i + 1) σ1 σ' (fun o ho => hn o (by simp [ho])) h2
    unfold stepX at h1
    have hne := fun base look => neutral_op QK (hn o (by simp)) base (ρ := evO σ.tmps) (fun f => rfl) look
    rw [(hne 0 fun _ => none).1] at h1
    have k1 := stepW_kept (t := resR C o (evO σ.tmps) σ.heap σ.next) (fun r hr => by
      unfold resR at hr
      obtain ⟨q, h3, rfl⟩ := Tree.leaf_bind.1 hr
      rw [(hne _ _).2 q h3]
      rfl) h1
    refine (k1.trans k2).weaken (fun j hj => ?_) (Nat.le_refl _)
    rw [memNat_app]
    unfold dstsOf at hj ⊢
    cases hd : o.dst with
    | none => simpa [hd, memNat] using hj
    | some d => simpa [hd, memNat] using hj

theorem drawOps_kept (QK : QuietOK C) {self : Run} {ops : Array Oper} {X ms : List Nat} {next : Nat} (hn : ∀ o ∈ ops.toList, neutralOp C o = true) : ∀ (l : List Nat) (σ σ' : St), (drawOps C self ops X ms next l σ).Leaf σ' → Kept (dstsOf ops.toList) 0 σ σ'
  | [], σ, σ', h => by cases h; exact Kept.refl _ _
  | i :: l, σ, σ', h => by
    unfold drawOps at h
    obtain ⟨σ1, h1, h2⟩ := Tree.leaf_bind.1 h
    have k2 := drawOps_kept QK hn l σ1 σ' h2
    unfold drawStep at h1
    split at h1
    · rename_i o ho
      have hom : o ∈ ops.toList := by simpa using Array.mem_of_getElem? ho
      have hne := fun base look => neutral_op QK (hn o hom) base (ρ := evO σ.tmps) (fun f => rfl) look
      have k1 := stepW_kept (fun r hr => by
        unfold drawR at hr
        rw [(hne 0 fun _ => none).1] at hr
        rw [if_neg (by decide)] at hr
        split at hr
        · unfold resR at hr
          obtain ⟨q, h3, h4⟩ := Tree.leaf_bind.1 hr
          rw [(hne _ _).2 q h3] at h4
          cases h4
          rfl
        obtain ⟨q, h3, h4⟩ := Tree.leaf_bind.1 hr
        rw [(hne _ _).2 q h3] at h4
        cases h4
        rfl) h1
      refine (k1.trans k2).weaken (fun j hj => ?_) (Nat.le_refl _)
      rw [memNat_app, hj, Bool.or_false]
      cases hd : o.dst with
      | none => rfl
      | some d =>
        cases hm : memNat j (some d).toList with
        | false => rfl
        | true =>
          have : j = d := by simpa [memNat] using hm
          subst this
          have : memNat j (dstsOf ops.toList) = true := (memNat_iff _ _).2 (by simp only [dstsOf, List.mem_filterMap]; exact ⟨o, hom, hd⟩)
          rw [this] at hj
          cases hj
    · exact h1.elim

theorem region_kept (QK : QuietOK C) {self : Run} {ops : Array Oper} {draw : Bool} {σ σ' : St} (hn : ops.toList.all (neutralOp C) = true) (h : (regionX C self ops draw σ).Leaf σ') : Kept (dstsOf ops.toList) (if draw then 8 * ops.size else 0) σ σ' := by
  rw [List.all_eq_true] at hn
  unfold regionX at h
  split at h
  · exact runOps_kept QK _ _ _ _ hn h
  · simp only at h
    split at h
    · have := drawOps_kept QK hn _ _ _ h
      refine ⟨this.heap, ⟨?_, ?_⟩, this.len, this.others⟩
      · have := this.next.1; simp only at this; omega
      · have := this.next.2; simp only [if_true] at this ⊢; omega
    · exact h.elim

theorem joinSt_kept {c : Code} {σ : St} {t : Tree (Ex × St)} (ht : ∀ r, t.Leaf r → r.1 = .normal ∧ Kept (writesOf c) (bumpOf c) σ r.2) : ∀ r, (joinSt c σ t).Leaf r → r.1 = .normal ∧ Kept (writesOf c) (bumpOf c) σ r.2 := by
  intro r hr
  unfold joinSt at hr
  split at hr
  · exact ht r hr
  · simp only [asrts_leaf] at hr
    cases hr
    have hlen : ∀ l, (t.bind fun r => Tree.ret r.2.tmps).Leaf l → l.length = σ.tmps.length := by
      intro l hl
      obtain ⟨r, h1, rfl⟩ := Tree.leaf_bind.1 hl
      exact (ht r h1).2.len
    have h1 := (collapse_spec (ts0 := σ.tmps) hlen).1
    have h2 := mergeT_spec (writesOf c) 0 σ.tmps _ h1.symm
    exact ⟨rfl, rfl, ⟨Nat.le_add_right _ _, Nat.le_refl _⟩, h2.1, fun j hj => h2.2 j (by simpa using hj)⟩

/-- What is to hold at the end of a piece of code. -/
def Fin (w0 : World) (S : Nat → Prop) (φ : Env) (σ : St) (w : World) (Q : Exit → Act → World → Prop) (r : Ex × St) : Prop :=
  ∀ a' w' φ', RepS w0 S φ' r.2 a' w' → After w S φ σ.next r.2.next w' φ' → Q (exOf r.1) a' w'

theorem joinSt_sound {c : Code} {σ : St} {t : Tree (Ex × St)} (ht : ∀ r, t.Leaf r → r.1 = .normal ∧ Kept (writesOf c) (bumpOf c) σ r.2) {w0 w : World} {S : Nat → Prop} {φ : Env} {Q : Exit → Act → World → Prop}
    (h : (joinSt c σ t).wp (Fin w0 S φ σ w Q)) : t.wp (Fin w0 S φ σ w Q) := by
  unfold joinSt at h
  split at h
  · exact h
  · simp only at h
    obtain ⟨hp, hF⟩ := asrts_wp h
    have hlen : ∀ l, (t.bind fun r => Tree.ret r.2.tmps).Leaf l → l.length = σ.tmps.length := by
      intro l hl
      obtain ⟨r, h1, rfl⟩ := Tree.leaf_bind.1 hl
      exact (ht r h1).2.len
    obtain ⟨hl, hex⟩ := collapse_spec (ts0 := σ.tmps) hlen
    obtain ⟨l, hout, hrep⟩ := hex hp
    obtain ⟨r, hr, rfl⟩ := Tree.out_bind.1 hout
    obtain ⟨hn, hk⟩ := ht r (Tree.leaf_of_out hr)
    refine Tree.wp_of_out hr fun a' w' φ' RS HA => ?_
    rw [hn]
    refine hF a' w' φ' ⟨?_, ?_, fun id hid => RS.fresh id ?_, RS.defers⟩ ⟨HA.mono, HA.old, Nat.le_add_right _ _⟩
    · exact mergeT_reps (writesOf c) 0 hl.symm hk.len (hrep RS.tmps) RS.tmps (fun j hj => hk.others j (by simpa using hj))
    · have := RS.mem
      rw [hk.heap] at this
      exact this
    · have := hk.next.2
      simp only at hid
      omega

end
end Go.Fx
