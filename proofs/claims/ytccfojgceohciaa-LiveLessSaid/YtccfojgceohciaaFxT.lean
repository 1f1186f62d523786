/- Code is carried out as the executor says. -/
import Derived.Test.YtccfojgceohciaaFxS
namespace Go.Fx
open Go Go.RowKit

def SoundLoop (C : Cfg) (body : Code) (L : LoopCon) : Prop :=
  ∀ w0 S φ σ a w (Q : Exit → Act → World → Prop), RepS w0 S φ σ a w → (L σ).wp (Fin w0 S φ σ w Q) → (Code.loop body).wp C.P Q a w

structure GoodCfg (C : Cfg) : Prop where
  ok : CfgOK C
  quiet : QuietOK C
  loops : ∀ g l L, findLoop C.loops g l = some L → ∀ body, SubOf C.P g (.loop body) → firstRegion body = l → SoundLoop C body L

def LoopN (P : Program) (c : Code) (Q : Exit → Act → World → Prop) : Nat → Act → World → Prop
  | 0, _, _ => False
  | n + 1, a, w => c.wp P (Exit.then (LoopN P c Q n) Q) a w

theorem least {p : Nat → Prop} (h : ∃ n, p n) : ∃ n, p n ∧ ∀ m, p m → n ≤ m := by
  obtain ⟨n, hn⟩ := h
  induction n using Nat.strongRecOn with
  | _ n ih =>
    by_cases hx : ∃ m, m < n ∧ p m
    · obtain ⟨m, h1, h2⟩ := hx
      exact ih m h1 h2
    · refine ⟨n, hn, fun m hm => ?_⟩
      rcases Nat.lt_or_ge m n with h1 | h1
      · exact (hx ⟨m, h1, hm⟩).elim
      · exact h1

open Classical in
theorem loopN_sound {P : Program} {c : Code} {Q : Exit → Act → World → Prop} {n : Nat} {a : Act} {w : World} (h : LoopN P c Q n a w) : (Code.loop c).wp P Q a w := by
  refine wp_loop (fun a w => ∃ n, LoopN P c Q n a w) (fun a w => if h : ∃ n, LoopN P c Q n a w then Classical.choose (least h) else 0) ⟨n, h⟩ fun a w hI => ?_
  have hs := (Classical.choose_spec (least hI)).1
  cases hn : Classical.choose (least hI) with
  | zero => rw [hn] at hs; exact hs.elim
  | succ m =>
    rw [hn] at hs
    refine wp_mono hs fun e a' w' he => ?_
    cases e with
    | normal =>
      have hI' : ∃ n, LoopN P c Q n a' w' := ⟨m, he⟩
      refine ⟨hI', ?_⟩
      rw [dif_pos hI', dif_pos hI, hn]
      exact Nat.lt_succ_of_le ((Classical.choose_spec (least hI')).2 m he)
    | _ => exact he

section
variable {C : Cfg}

theorem exec_succ (n g : Nat) (c : Code) (σ : St) : exec C (n + 1) g c σ = execF C (exec C n) g c σ := rfl

theorem setCond_kept (x : Operand) (b : Bool) (σ : St) : Kept (condSlot x) 0 σ { σ with tmps := setCond x b σ.tmps } := by
  cases x with
  | tmp t => exact putT_kept (some t) (.blit b) σ.tmps σ.heap σ.next
  | _ => exact Kept.refl _ _

theorem exec_kept (QK : QuietOK C) : ∀ n, KeptRun C (exec C n)
  | 0 => fun g c σ r _ h => h.elim
  | n + 1 => by
    have ih := exec_kept QK n
    intro g c σ r hn h
    rw [exec_succ] at h
    cases c with
    | skip => cases h; exact ⟨rfl, Kept.refl _ _⟩
    | region id ops draw =>
      simp only [execF, joinIf, hn, if_true] at h
      refine joinSt_kept (fun r hr => ?_) r h
      obtain ⟨σ', h1, rfl⟩ := Tree.leaf_bind.1 hr
      exact ⟨rfl, region_kept QK (by simpa [neutralCode] using hn) h1⟩
    | seq a b =>
      simp only [neutralCode, Bool.and_eq_true] at hn
      simp only [execF] at h
      obtain ⟨r1, h1, h2⟩ := Tree.leaf_bind.1 h
      obtain ⟨e1, k1⟩ := ih g a σ r1 hn.1 h1
      rw [e1] at h2
      obtain ⟨e2, k2⟩ := ih g b r1.2 r hn.2 h2
      exact ⟨e2, k1.trans k2⟩
    | cond x a b =>
      have hn' := hn
      simp only [neutralCode, Bool.and_eq_true] at hn
      have wa : ∀ {σ' : St}, Kept (condSlot x) 0 σ σ' → ∀ r, (exec C n g a σ').Leaf r → r.1 = .normal ∧ Kept (writesOf (.cond x a b)) (bumpOf (.cond x a b)) σ r.2 := by
        intro σ' k0 r hr
        obtain ⟨e1, k1⟩ := ih g a σ' r hn.1 hr
        refine ⟨e1, (k0.trans k1).weaken (fun j hj => ?_) (by simp only [bumpOf]; omega)⟩
        simp only [writesOf, memNat_app, Bool.or_eq_false_iff] at hj ⊢
        exact ⟨hj.1, hj.2.1⟩
      have wb : ∀ {σ' : St}, Kept (condSlot x) 0 σ σ' → ∀ r, (exec C n g b σ').Leaf r → r.1 = .normal ∧ Kept (writesOf (.cond x a b)) (bumpOf (.cond x a b)) σ r.2 := by
        intro σ' k0 r hr
        obtain ⟨e1, k1⟩ := ih g b σ' r hn.2 hr
        refine ⟨e1, (k0.trans k1).weaken (fun j hj => ?_) (by simp only [bumpOf]; omega)⟩
        simp only [writesOf, memNat_app, Bool.or_eq_false_iff] at hj ⊢
        exact ⟨hj.1, hj.2.2⟩
      have k0 : Kept (condSlot x) 0 σ σ := (Kept.refl [] σ).weaken (fun _ _ => rfl) (Nat.le_refl _)
      simp only [execF] at h
      split at h
      · exact wa k0 r h
      · exact wb k0 r h
      · rename_i y _
        simp only [joinIf, hn', if_true] at h
        refine joinSt_kept (fun r hr => ?_) r h
        rcases hr with hr | hr
        · exact wa (setCond_kept x true σ) r hr
        · exact wb (setCond_kept x false σ) r hr
      · exact h.elim
    | _ => simp [neutralCode] at hn

theorem setCond_reps {w0 w : World} {S : Nat → Prop} {φ : Env} {σ : St} {a : Act} (RS : RepS w0 S φ σ a w) {x : Operand} {b : Bool} (hx : a.eval x = .bool b) : RepS w0 S φ { σ with tmps := setCond x b σ.tmps } a w := by
  refine ⟨?_, RS.mem, RS.fresh, RS.defers⟩
  cases x with
  | tmp t =>
    simp only [setCond]
    by_cases ht : t < a.tmps.size
    · have hv : a.tmps[t] = .bool b := by simpa [Act.eval, ht] using hx
      have := RS.tmps.setNth t (Reps.blit b (.nil (w := w) (S := S) (φ := φ)))
      have e : a.tmps.toList.set t (.bool b) = a.tmps.toList := by
        apply List.ext_getElem?
        intro j
        rw [List.getElem?_set]
        split
        · rename_i e; subst e; simp [ht, hv]
        · rfl
      rwa [e] at this
    · have hl : σ.tmps.length = a.tmps.size := by simpa using RS.tmps.len
      have ht' : σ.tmps.length ≤ t := by rw [hl]; exact Nat.le_of_not_lt ht
      have e : setNth σ.tmps t (.blit b) = σ.tmps := by
        apply List.ext_getElem?
        intro j
        by_cases hj : j = t
        · subst hj
          rw [List.getElem?_eq_none (by rw [setNth_len]; exact ht'), List.getElem?_eq_none ht']
        · exact setNth_get _ hj _
      rw [e]
      exact RS.tmps
  | _ => exact RS.tmps

theorem exec_sound (G : GoodCfg C) : ∀ n, SoundRun C (exec C n) ∧ ∀ g body w0 S φ σ a w (Q : Exit → Act → World → Prop), SubOf C.P g (.loop body) → findLoop C.loops g (firstRegion body) = none → RepS w0 S φ σ a w →
    (exec C n g (.loop body) σ).wp (Fin w0 S φ σ w Q) → LoopN C.P body Q n a w
  | 0 => ⟨fun g c w0 S φ σ a w Q _ _ h => h.elim, fun g body w0 S φ σ a w Q _ _ _ h => h.elim⟩
  | n + 1 => by
    obtain ⟨ih, ihL⟩ := exec_sound G n
    have loopCase : ∀ g body w0 S φ σ a w (Q : Exit → Act → World → Prop), SubOf C.P g (.loop body) → findLoop C.loops g (firstRegion body) = none → RepS w0 S φ σ a w →
        (exec C (n + 1) g (.loop body) σ).wp (Fin w0 S φ σ w Q) → LoopN C.P body Q (n + 1) a w := by
      intro g body w0 S φ σ a w Q hsub hno RS h
      rw [exec_succ] at h
      simp only [execF, hno] at h
      rw [Tree.wp_bind] at h
      refine ih g body w0 S φ σ a w _ (hsub.sub (.loop (.refl _))) RS (Tree.wp_mono h fun r hr a' w' φ' RS' HA => ?_)
      obtain ⟨e, σ'⟩ := r
      cases e with
      | normal => exact ihL g body w0 S φ' σ' a' w' Q hsub hno RS' (Tree.wp_mono hr fun r' hr' a'' w'' φ'' RS'' HA' => hr' a'' w'' φ'' RS'' (HA.trans HA'))
      | exit id => exact hr a' w' φ' RS' HA
      | goto l => exact hr a' w' φ' RS' HA
      | ret => exact hr a' w' φ' RS' HA
    refine ⟨?_, loopCase⟩
    intro g c w0 S φ σ a w Q hsub RS h
    change (exec C (n + 1) g c σ).wp (Fin w0 S φ σ w Q) at h
    rw [exec_succ] at h
    cases c with
    | skip => exact wp_skip (h a w φ RS (After.refl _ _ _ _))
    | exit id => exact wp_exit (h a w φ RS (After.refl _ _ _ _))
    | ret => exact wp_ret (h a w φ RS (After.refl _ _ _ _))
    | region id ops draw =>
      have key : ((regionX C (exec C n) ops draw σ).bind fun σ => Tree.ret (Ex.normal, σ)).wp (Fin w0 S φ σ w Q) := by
        simp only [execF, joinIf] at h
        split at h
        · rename_i hn
          refine joinSt_sound (fun r hr => ?_) h
          obtain ⟨σ', h1, rfl⟩ := Tree.leaf_bind.1 hr
          exact ⟨rfl, region_kept G.quiet (by simpa [neutralCode] using hn) h1⟩
        · exact h
      rw [Tree.wp_bind] at key
      cases draw with
      | false => exact region_sound G.ok ih RS (Tree.wp_mono key fun σ' hσ a' w' φ' RS' HA => hσ a' w' φ' RS' HA)
      | true => exact region_draw_sound G.ok ih RS (Tree.wp_mono key fun σ' hσ a' w' φ' RS' HA => hσ a' w' φ' RS' HA)
    | seq x y =>
      simp only [execF] at h
      rw [Tree.wp_bind] at h
      refine wp_seq (ih g x w0 S φ σ a w _ (hsub.sub (.seqL _ (.refl _))) RS (Tree.wp_mono h fun r hr a' w' φ' RS' HA => ?_))
      obtain ⟨e, σ'⟩ := r
      cases e with
      | normal => exact ih g y w0 S φ' σ' a' w' Q (hsub.sub (.seqR _ (.refl _))) RS' (Tree.wp_mono hr fun r' hr' a'' w'' φ'' RS'' HA' => hr' a'' w'' φ'' RS'' (HA.trans HA'))
      | exit id => exact hr a' w' φ' RS' HA
      | goto l => exact hr a' w' φ' RS' HA
      | ret => exact hr a' w' φ' RS' HA
    | cond x b1 b2 =>
      have hx := evO_reps RS.tmps x
      simp only [execF] at h
      split at h
      · rename_i hv
        rw [hv] at hx
        generalize hv' : a.eval x = v at hx
        cases hx
        exact wp_cond_true hv' (ih g b1 w0 S φ σ a w Q (hsub.sub (.condL _ _ (.refl _))) RS h)
      · rename_i hv
        rw [hv] at hx
        generalize hv' : a.eval x = v at hx
        cases hx
        exact wp_cond_false hv' (ih g b2 w0 S φ σ a w Q (hsub.sub (.condR _ _ (.refl _))) RS h)
      · rename_i y hv
        rw [hv] at hx
        generalize hv' : a.eval x = v at hx
        cases hx
        have key : (Tree.ite y (exec C n g b1 { σ with tmps := setCond x true σ.tmps }) (exec C n g b2 { σ with tmps := setCond x false σ.tmps })).wp (Fin w0 S φ σ w Q) := by
          simp only [joinIf] at h
          split at h
          · rename_i hn
            refine joinSt_sound (fun r hr => ?_) h
            have hn' := hn
            simp only [neutralCode, Bool.and_eq_true] at hn'
            rcases hr with hr | hr
            · obtain ⟨e1, k1⟩ := exec_kept G.quiet n g b1 _ r hn'.1 hr
              refine ⟨e1, ((setCond_kept x true σ).trans k1).weaken (fun j hj => ?_) (by simp only [bumpOf]; omega)⟩
              simp only [writesOf, memNat_app, Bool.or_eq_false_iff] at hj ⊢
              exact ⟨hj.1, hj.2.1⟩
            · obtain ⟨e1, k1⟩ := exec_kept G.quiet n g b2 _ r hn'.2 hr
              refine ⟨e1, ((setCond_kept x false σ).trans k1).weaken (fun j hj => ?_) (by simp only [bumpOf]; omega)⟩
              simp only [writesOf, memNat_app, Bool.or_eq_false_iff] at hj ⊢
              exact ⟨hj.1, hj.2.2⟩
          · exact h
        refine wp_cond_split hv' (fun ht => ?_) (fun hf => ?_)
        · subst ht
          exact ih g b1 w0 S φ { σ with tmps := setCond x true σ.tmps } a w Q (hsub.sub (.condL _ _ (.refl _))) (setCond_reps RS hv') (key.1 rfl)
        · subst hf
          exact ih g b2 w0 S φ { σ with tmps := setCond x false σ.tmps } a w Q (hsub.sub (.condR _ _ (.refl _))) (setCond_reps RS hv') (key.2 rfl)
      · exact h.elim
    | block id body =>
      simp only [execF] at h
      rw [Tree.wp_bind] at h
      refine wp_block (ih g body w0 S φ σ a w _ (hsub.sub (.block _ (.refl _))) RS (Tree.wp_mono h fun r hr a' w' φ' RS' HA => ?_))
      obtain ⟨e, σ'⟩ := r
      cases e with
      | normal => exact hr a' w' φ' RS' HA
      | exit i =>
        simp only [exOf, Exit.inBlock] at hr ⊢
        split at hr
        · rename_i e; rw [if_pos e]; exact hr a' w' φ' RS' HA
        · rename_i e; rw [if_neg e]; exact hr a' w' φ' RS' HA
      | goto l => exact hr a' w' φ' RS' HA
      | ret => exact hr a' w' φ' RS' HA
    | loop body =>
      cases hl : findLoop C.loops g (firstRegion body) with
      | some L =>
        simp only [execF, hl] at h
        exact G.loops g _ L hl body hsub rfl w0 S φ σ a w Q RS h
      | none => exact loopN_sound (loopCase g body w0 S φ σ a w Q hsub hl RS h)
    | _ => exact h.elim

end
end Go.Fx
