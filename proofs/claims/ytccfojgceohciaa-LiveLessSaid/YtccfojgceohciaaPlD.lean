/- Plain laws: who runs first. -/
import Derived.Test.YtccfojgceohciaaPlC
import Derived.Test.YtccfojgceohciaaFxZ
namespace Go.Fx
open Go

def jobAt (l : List Fu.Live) (i : Int) : Fu.Job := (rd .live l i).J
def nxtF (x : List Fu.Live × Int) (i : Int) : List Fu.Live × Int :=
  bif mustJ (jobAt x.1 i) && (x.2 == -1 || decide ((jobAt x.1 i).Due < (jobAt x.1 x.2).Due)) then (x.1, i) else x
/-- Who runs first: the place, or -1. -/
def firstL (l : List Fu.Live) : Int := (foldI nxtF l.length (l, -1) 0).2
/-- So far. -/
def IsFirst (l : List Fu.Live) (k at' : Int) : Prop :=
  (at' = -1 ∧ ∀ j, 0 ≤ j → j < k → mustJ (jobAt l j) = false) ∨
  (0 ≤ at' ∧ at' < k ∧ mustJ (jobAt l at') = true ∧ ∀ j, 0 ≤ j → j < k → mustJ (jobAt l j) = true → (jobAt l at').Due < (jobAt l j).Due ∨ ((jobAt l at').Due = (jobAt l j).Due ∧ at' ≤ j))
theorem isFirst_step {l : List Fu.Live} {k at' : Int} (hk : 0 ≤ k) (h : IsFirst l k at') : IsFirst l (k + 1) (nxtF (l, at') k).2 := by
  unfold nxtF
  simp only
  cases hm : mustJ (jobAt l k) with
  | false =>
    simp only [Bool.false_and, cond_false]
    rcases h with ⟨h1, h2⟩ | ⟨h1, h2, h3, h4⟩
    · refine .inl ⟨h1, fun j h0 hj => ?_⟩
      rcases Int.lt_or_eq_of_le (show j ≤ k by omega) with h5 | rfl
      · exact h2 j h0 h5
      · exact hm
    · refine .inr ⟨h1, by omega, h3, fun j h0 hj hmj => ?_⟩
      rcases Int.lt_or_eq_of_le (show j ≤ k by omega) with h5 | rfl
      · exact h4 j h0 h5 hmj
      · rw [hm] at hmj; cases hmj
  | true =>
    simp only [Bool.true_and]
    rcases h with ⟨h1, h2⟩ | ⟨h1, h2, h3, h4⟩
    · subst h1
      refine .inr ⟨hk, by simp only [beq_self_eq_true, Bool.true_or, cond_true]; omega, hm, fun j h0 hj hmj => ?_⟩
      simp only [beq_self_eq_true, Bool.true_or, cond_true]
      rcases Int.lt_or_eq_of_le (show j ≤ k by omega) with h5 | rfl
      · rw [h2 j h0 h5] at hmj; cases hmj
      · exact .inr ⟨rfl, Int.le_refl _⟩
    · have hne : (at' == -1) = false := by simp; omega
      rw [hne, Bool.false_or]
      cases hd : decide ((jobAt l k).Due < (jobAt l at').Due) with
      | true =>
        have hd := of_decide_eq_true hd
        refine .inr ⟨hk, by simp only [cond_true]; omega, hm, fun j h0 hj hmj => ?_⟩
        simp only [cond_true]
        rcases Int.lt_or_eq_of_le (show j ≤ k by omega) with h5 | rfl
        · rcases h4 j h0 h5 hmj with h6 | h6 <;> left <;> omega
        · exact .inr ⟨rfl, Int.le_refl _⟩
      | false =>
        have hd := of_decide_eq_false hd
        refine .inr ⟨h1, by simp only [cond_false]; omega, h3, fun j h0 hj hmj => ?_⟩
        simp only [cond_false]
        rcases Int.lt_or_eq_of_le (show j ≤ k by omega) with h5 | rfl
        · exact h4 j h0 h5 hmj
        · rcases Int.lt_or_eq_of_le (show (jobAt l at').Due ≤ (jobAt l j).Due by omega) with h6 | h6
          · exact .inl h6
          · exact .inr ⟨h6, by omega⟩
theorem nxtF_fst (x : List Fu.Live × Int) (i : Int) : (nxtF x i).1 = x.1 := by
  unfold nxtF
  cases (mustJ (jobAt x.1 i) && (x.2 == -1 || decide ((jobAt x.1 i).Due < (jobAt x.1 x.2).Due))) <;> rfl
theorem isFirst_fold {l : List Fu.Live} : ∀ (n : Nat) (at' k : Int), 0 ≤ k → IsFirst l k at' → IsFirst l (k + n) (foldI nxtF n (l, at') k).2 ∧ (foldI nxtF n (l, at') k).1 = l
  | 0, at', k, _, h => by simpa [foldI] using h
  | n + 1, at', k, hk, h => by
    have h1 := isFirst_step hk h
    have h2 := isFirst_fold n (nxtF (l, at') k).2 (k + 1) (by omega) h1
    have e : nxtF (l, at') k = (l, (nxtF (l, at') k).2) := Prod.ext (nxtF_fst (l, at') k) rfl
    unfold foldI
    rw [e]
    rw [show k + ((n + 1 : Nat) : Int) = k + 1 + (n : Int) by omega]
    exact h2
theorem firstL_spec (l : List Fu.Live) : IsFirst l l.length (firstL l) := by
  have := (isFirst_fold (l := l) l.length (-1) 0 (Int.le_refl _) (.inl ⟨rfl, fun j h0 hj => by omega⟩)).1
  simpa [firstL] using this
theorem isFirst_unique {l : List Fu.Live} {k a b : Int} (ha : IsFirst l k a) (hb : IsFirst l k b) : a = b := by
  rcases ha with ⟨h1, h2⟩ | ⟨h1, h2, h3, h4⟩
  · rcases hb with ⟨h5, h6⟩ | ⟨h5, h6, h7, h8⟩
    · omega
    · rw [h2 b h5 h6] at h7; cases h7
  · rcases hb with ⟨h5, h6⟩ | ⟨h5, h6, h7, h8⟩
    · rw [h6 a h1 h2] at h3; cases h3
    · rcases h4 b h5 h6 h7 with h | h <;> rcases h8 a h1 h2 h3 with h' | h' <;> omega
theorem firstL_eq {l : List Fu.Live} {a : Int} (h : IsFirst l l.length a) : firstL l = a := isFirst_unique (firstL_spec l) h
def idleL (l : List Fu.Live) : Bool := firstL l == -1
theorem firstL_range (l : List Fu.Live) : firstL l = -1 ∨ (0 ≤ firstL l ∧ firstL l < l.length) := by
  rcases firstL_spec l with h | h
  · exact .inl h.1
  · exact .inr ⟨h.1, h.2.1⟩

/-! ### what one time comes to -/
def beginAll (l : List Fu.Live) (now : Int) : List Fu.Live := l.map (beginL now)
def runFirst (l : List Fu.Live) : List Fu.Live := bif firstL l == -1 then l else upd .live l (firstL l) { (rd .live l (firstL l)) with J := stepJ (jobAt l (firstL l)) }
def endL (now : Int) (x : Fu.Live) : Fu.Live := { x with J := atJ x.J now }
def missL (now : Int) (x : Fu.Live) : Bool := overJ x.J now && mustJ x.J
def stepL (l : List Fu.Live) (now : Int) : List Fu.Live := (runFirst (beginAll l now)).map (endL (now + 1))
def missedL (l : List Fu.Live) (now : Int) : Bool := (runFirst (beginAll l now)).any (missL (now + 1))

end Go.Fx
