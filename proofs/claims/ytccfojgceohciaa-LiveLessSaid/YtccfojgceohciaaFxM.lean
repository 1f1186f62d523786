/- A region's operations in their order. -/
import Derived.Test.YtccfojgceohciaaFxL
import Derived.Orders
namespace Go.Fx
open Go Go.RowKit

section
variable {C : Cfg} {w0 w : World} {S : Nat → Prop} {φ : Env}

theorem nth_some {ts : List AV} {n : Nat} {a : AV} (h : nth ts n = a) (ha : a ≠ .any) : ts[n]? = some a := by
  induction ts generalizing n with
  | nil => simp [nth] at h; exact absurd h.symm ha
  | cons b ts ih =>
    cases n with
    | zero => simp only [nth] at h; simp [h]
    | succ n => simpa using ih (by simpa [nth] using h)

theorem wantedV_inv {ops : Array Oper} {o : Oper} {ts : List AV} {tmps : Array Value} (ht : Reps w S φ ts tmps.toList) {b : Bool} (h : wantedV ops o ts = some b) : Region.wanted o (yielded ops tmps) = b := by
  unfold wantedV at h
  unfold Region.wanted
  split at h
  · rename_i hg
    cases h
    simp [hg]
  · rename_i j want hg
    simp only [hg]
    split at h
    · cases h
    · rename_i oj hj
      split at h
      · cases h
      · rename_i d hd
        split at h
        · rename_i b' hn
          obtain ⟨v, hv, hr⟩ := ht.get (nth_some hn (by simp))
          cases hr
          have hy : yielded ops tmps j = some b' := by
            have : tmps[d]? = some (.bool b') := by simpa using hv
            simp [yielded, hj, hd, this]
          rw [hy]
          cases h
          cases want <;> cases b' <;> rfl
        · rename_i hn
          obtain ⟨v, hv, hr⟩ := ht.get (nth_some hn (by simp))
          cases hr with
          | tup hr =>
            cases hr.nil_inv
            have hy : yielded ops tmps j = none := by
              have : tmps[d]? = some (.tuple #[]) := by simpa using hv
              simp [yielded, hj, hd, this]
            rw [hy]
            cases h
            rfl
        · cases h

theorem putT_reps {ts : List AV} {a : Act} (ht : Reps w S φ ts a.tmps.toList) (dst : Option Nat) {v : AV} {x : Value} (hv : Reps w S φ [v] [x]) : Reps w S φ (putT dst v ts) (a.put dst x).tmps.toList := by
  cases dst with
  | none => exact ht
  | some d => simpa [putT, Act.put, Array.toList_setIfInBounds] using ht.setNth d hv
theorem put_defers {a : Act} (h : a.defers = []) (dst : Option Nat) (x : Value) : (a.put dst x).defers = [] := by cases dst <;> exact h

/-- One operation under its guard, in any setting. -/
theorem stepW_sound {ops : Array Oper} {i : Nat} {o : Oper} {σ : St} {t : Tree (AV × Heap × Nat)} {a : Act} {K : Act → World → Prop} {Q : Exit → Act → World → Prop}
    (EP : AV × Heap × Nat → Value → World → Env → Prop) (R : Heap × Nat → World → Env → Prop)
    (hEP : ∀ r x w' φ', EP r x w' φ' → Reps w' S φ' [r.1] [x] ∧ Mono w S φ w' S φ' ∧ R r.2 w' φ') (h0 : R (σ.heap, σ.next) w φ)
    (hi : ops[i]? = some o) (ht : Reps w S φ σ.tmps a.tmps.toList) (hd : a.defers = [])
    (hstep : t.wp (fun r => ∀ x w' φ', EP r x w' φ' → K (a.put o.dst x) w') → o.wp C.P a w K Q)
    (h : (stepW ops i o σ t).wp fun σ' => ∀ a' w' φ', Reps w' S φ' σ'.tmps a'.tmps.toList → a'.defers = [] → R (σ'.heap, σ'.next) w' φ' → K a' w') : wpOp C.P ops Q i K a w := by
  unfold stepW at h
  unfold wpOp
  simp only [hi]
  split at h
  · exact h.elim
  · rename_i hw
    rw [wantedV_inv ht hw]
    simp only [Bool.false_eq_true, if_false]
    exact h _ w φ (putT_reps ht _ (.tup .nil .nil)) (put_defers hd _ _) h0
  · rename_i hw
    rw [wantedV_inv ht hw]
    simp only [if_true]
    refine .inl (hstep ?_)
    rw [Tree.wp_bind] at h
    refine Tree.wp_mono h fun r hr x w' φ' hp => ?_
    obtain ⟨h1, h2, h3⟩ := hEP _ _ _ _ hp
    unfold putG at hr
    split at hr
    · rename_i b _ hb
      rw [hb] at h1
      cases h1
      cases b with
      | true => exact hr.1 rfl _ w' φ' (putT_reps (ht.mono h2) _ (.blit true .nil)) (put_defers hd _ _) h3
      | false => exact hr.2 rfl _ w' φ' (putT_reps (ht.mono h2) _ (.blit false .nil)) (put_defers hd _ _) h3
    · exact hr _ w' φ' (putT_reps (ht.mono h2) _ h1) (put_defers hd _ _) h3

theorem stepX_sound (OK : CfgOK C) {self : Run} (hself : SoundRun C self) {ops : Array Oper} {i : Nat} {o : Oper} {σ : St} {a : Act} {K : Act → World → Prop} {Q : Exit → Act → World → Prop}
    (RS : RepS w0 S φ σ a w) (hi : ops[i]? = some o) (h : (stepX C self ops i o σ).wp fun σ' => ∀ a' w' φ', RepS w0 S φ' σ' a' w' → After w S φ σ.next σ'.next w' φ' → K a' w') : wpOp C.P ops Q i K a w := by
  unfold stepX at h
  refine stepW_sound (EffPost w0 w S φ σ.next) (fun r w' φ' => RepH w0 S φ' r.1 w' ∧ (∀ id, r.2 ≤ id → φ' id = none) ∧ After w S φ σ.next r.2 w' φ') ?_ ⟨RS.mem, RS.fresh, After.refl _ _ _ _⟩ hi RS.tmps RS.defers ?_
    (Tree.wp_mono h fun σ' hσ a' w' φ' h1 h2 h3 => hσ a' w' φ' ⟨h1, h3.1, h3.2.1, h2⟩ h3.2.2)
  · intro r x w' φ' hp
    exact ⟨hp.val, hp.after.mono, hp.mem, hp.fresh, hp.after⟩
  · intro ht
    split at ht
    · exact effR_sound hself RS.mem RS.fresh (fun x _ => evO_reps RS.tmps x) ht
    · exact resR_sound OK RS.mem RS.fresh (fun x _ => evO_reps RS.tmps x) ht

theorem runOps_sound (OK : CfgOK C) {self : Run} (hself : SoundRun C self) {ops : Array Oper} {Q : Exit → Act → World → Prop} : ∀ (l : List Oper) (i : Nat) {w : World} {φ : Env} {σ : St} {a : Act}, ops.toList.drop i = l → RepS w0 S φ σ a w →
    (runOps C self ops i l σ).wp (fun σ' => ∀ a' w' φ', RepS w0 S φ' σ' a' w' → After w S φ σ.next σ'.next w' φ' → Q .normal a' w') → wpOps C.P ops Q (List.range' i l.length) a w
  | [], i, w, φ, σ, a, _, RS, h => h a w φ RS (After.refl _ _ _ _)
  | o :: l, i, w, φ, σ, a, hl, RS, h => by
    have hi : ops[i]? = some o := by
      rw [← Array.getElem?_toList]
      have : (ops.toList.drop i)[0]? = some o := by rw [hl]; rfl
      simpa using this
    have hl' : ops.toList.drop (i + 1) = l := by
      have : (ops.toList.drop i).drop 1 = l := by rw [hl]; rfl
      rwa [List.drop_drop] at this
    show wpOps C.P ops Q (i :: List.range' (i + 1) l.length) a w
    rw [wpOps_cons]
    unfold runOps at h
    rw [Tree.wp_bind] at h
    refine stepX_sound OK hself RS hi (Tree.wp_mono h fun σ1 h1 a1 w1 φ1 RS1 A1 => ?_)
    exact runOps_sound OK hself l (i + 1) hl' RS1 (Tree.wp_mono h1 fun σ2 h2 a2 w2 φ2 RS2 A2 => h2 a2 w2 φ2 RS2 (A1.trans A2))

theorem region_sound (OK : CfgOK C) {self : Run} (hself : SoundRun C self) {id : Nat} {ops : Array Oper} {σ : St} {a : Act} {Q : Exit → Act → World → Prop} (RS : RepS w0 S φ σ a w)
    (h : (regionX C self ops false σ).wp fun σ' => ∀ a' w' φ', RepS w0 S φ' σ' a' w' → After w S φ σ.next σ'.next w' φ' → Q .normal a' w') : (Code.region id ops false).wp C.P Q a w := by
  refine wp_region ?_
  have := runOps_sound OK hself ops.toList 0 (by simp) RS h
  rwa [Array.length_toList, ← List.range_eq_range'] at this

end
end Go.Fx
