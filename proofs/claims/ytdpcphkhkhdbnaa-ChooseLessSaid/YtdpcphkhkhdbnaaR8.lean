import Derived.Test.YtdpcphkhkhdbnaaR7
import Derived.Test.YtdpcphkhkhdbnaaPlT
/- The law ChooseOnce. -/
namespace Go.Fx
open Go Go.Proofs

def coBad (w : Fu.World) : Bool := !decide ((pickW w).2 = (pickW w).2) || (bif !(bandW w 1).2 then !((whoW w).1 == 2) == decide ((pickW w).1 ≥ 0) else !((whoW w).1 == 2) == false)
def coT (w : Fu.World) : Tree (AV × List Blk) := .asrt (smallW w) (.ite (!mayW w) (.ret (.blit true, [])) (.asrt (okWho w) (.asrt ((w.A.length : Int) < 17592186044416) (.asrt (okWho w) (.asrt (((pickW w).2.length : Int) < 17592186044416)
  (.ite (coBad w) (.ret (.blit false, [])) (.ret (.bool ((whoW w).1 != 2 || (whoW w).2 == (pickW w).1), []))))))))
theorem fCo (w : Fu.World) : callC c132 60 11 [.agg (encW w)] = coT w := by kernel_rfl
theorem pick_gone {w : Fu.World} (hm : mayA w.A w.Now = true) : (pickW w).2.length ≤ 8 := by
  have h4 := mayA_len hm
  have g1 : (pick1 w.A w.Cur w.Now).2.2.2.length ≤ 0 + w.A.length := foldl_len putA_len w.A (w.Now, w.Cur, [], [])
  have ht : (thereA w.A w.Cur w.Now).length ≤ w.A.length := by
    unfold thereA
    have := List.length_filter_le (stillA (pick1 w.A w.Cur w.Now).2.2.1) (sortA w.A)
    rw [sortA_len] at this
    exact this
  have g3 := foldl_len goA_len (thereA w.A w.Cur w.Now) (pick1 w.A w.Cur w.Now)
  have g3' : (pick3 w.A w.Cur w.Now).2.2.2.length ≤ _ := g3
  unfold pickW pickA
  rw [hm]
  simp only [Bool.not_true, cond_false]
  cases (((thereA w.A w.Cur w.Now).length : Int) == 0) with
  | true => simp only [cond_true]; omega
  | false =>
    simp only [cond_false]
    cases fitsA (thereA w.A w.Cur w.Now) w.Now with
    | true => simp only [cond_true]; omega
    | false =>
      simp only [cond_false]
      cases (mget (pick3 w.A w.Cur w.Now).2.2.1 (pick3 w.A w.Cur w.Now).2.1).isSome <;> simp only [cond_true, cond_false] <;> omega
theorem pick_pos {w : Fu.World} (hm : mayA w.A w.Now = true) : ((pickW w).1 != -1) = decide ((pickW w).1 ≥ 0) ∧ ((pickW w).1 ≠ -1 → maxI (pickW w).1 0 = (pickW w).1) := by
  rcases pick_spec (cur := w.Cur) hm with ⟨h1, _⟩ | ⟨a, _, h1, _, _, h2⟩
  · have h1 : (pickW w).1 = -1 := h1
    rw [h1]
    exact ⟨by decide, fun h => absurd rfl h⟩
  · have h1 : (pickW w).1 = a.ID := h1
    rw [h1]
    refine ⟨?_, fun _ => ?_⟩
    · rw [decide_eq_true (by omega)]
      simp; omega
    · unfold maxI
      split <;> omega
theorem coT_tru {w : Fu.World} (h : smallW w) : Tru (coT w) := by
  have h2 := h.2
  refine .asrt h (.ite (fun _ => .yes) fun hm => ?_)
  have hm : mayW w = true := by simpa using hm
  have hA := (mayW_iff.1 hm).2.2.2.1
  have hok := okWho_may h (mayW_live hm)
  have hg := pick_gone hA
  obtain ⟨p1, p2⟩ := pick_pos hA
  have e1 : (onceW w).2 = decide ((pickW w).1 ≥ 0) := p1
  have hbad : coBad w = false := by
    unfold coBad
    have eb : bandW w 1 = mustW w := rfl
    rw [eb, decide_eq_true rfl]
    cases hmu : (mustW w).2 with
    | true =>
      have : (whoW w).1 = 1 := by unfold whoW; rw [hmu]; rfl
      rw [this]; rfl
    | false =>
      rw [← e1]
      have : ((whoW w).1 == 2) = (onceW w).2 := by
        unfold whoW
        rw [hmu]
        cases (onceW w).2 with
        | true => rfl
        | false => cases (mayBand w).2 <;> rfl
      rw [this]
      cases (onceW w).2 <;> rfl
  refine .asrt hok (.asrt (by omega) (.asrt hok (.asrt (by omega) (.ite (fun hb => by rw [hbad] at hb; cases hb) fun _ => .of ?_))))
  unfold whoW
  cases hmu : (mustW w).2 with
  | true => rfl
  | false =>
    cases ho : (onceW w).2 with
    | true =>
      have h0 : (pickW w).1 ≠ -1 := by
        have h0 : ((pickW w).1 != -1) = true := ho
        simpa using h0
      have := p2 h0
      show (_ || maxI (pickW w).1 0 == (pickW w).1) = true
      rw [this]
      simp
    | false => cases (mayBand w).2 <;> rfl
theorem conCo_valid : ValidCon c132.P 11 (lawCon good1W) := lawCon_of (n := 60) c132_good (by kernel_rfl) fun args ⟨w, h1, h2⟩ => by
  subst h1
  exact ⟨_, fCo w, coT_tru h2⟩
end Go.Fx
