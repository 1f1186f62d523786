/- Plain laws: what holds of tasks from time to time. -/
import Derived.Test.YtccfojgceohciaaPlD
namespace Go.Fx
open Go

/-- A job that is there, of a task, that began by a time. -/
def JobI (x : Fu.Live) (by' : Int) : Prop :=
  x.J = zeroJ ∨ (x.J.On = true ∧ (0 ≤ x.J.J ∧ x.N = x.J.J + 1) ∧ (0 ≤ x.J.Rel ∧ x.J.Rel < by') ∧ x.J.Due = x.At ∧ x.J.C = x.S.C ∧ (1 ≤ x.J.D ∧ x.J.D ≤ 20) ∧ (0 ≤ x.J.Ran ∧ x.J.Ran < x.J.C ∧ x.J.Ran < x.J.D) ∧ x.J.Mand = onP x.S.M x.S.K x.J.J)
/-- A task at a time, its next job's number at most b. -/
def LiveI (b : Int) (x : Fu.Live) (t : Int) : Prop := perOK x.S x.P = true ∧ (t ≤ x.At ∧ x.At ≤ t + 48) ∧ (0 ≤ x.N ∧ x.N ≤ b) ∧ JobI x t
/-- Behind the beginning. -/
def LiveB (b : Int) (x : Fu.Live) (t : Int) : Prop := perOK x.S x.P = true ∧ (t < x.At ∧ x.At ≤ t + 48) ∧ (0 ≤ x.N ∧ x.N ≤ b) ∧ JobI x (t + 1)
theorem LiveOK.inv {x : Fu.Live} {t : Int} (h : LiveOK x t) : LiveI 549755813888 x t := by
  obtain ⟨h1, h2, h3, h4, h5⟩ := h
  refine ⟨h1, h2, h3, ?_⟩
  rcases h4.2 with h6 | ⟨h6, h7, h8, h9, h10, h11, h12⟩
  · exact .inl h6.2
  · right
    rcases h5 with h5 | ⟨h13, h14, h15⟩
    · rw [h5] at h6; cases h6
    · exact ⟨h6, ⟨h7.1, h15⟩, ⟨h8.1, h13⟩, h14, h9, h10, h11, h12⟩
theorem perOK_P {s : Fu.Spec} {p : Int} (h : perOK s p = true) : 1 ≤ p ∧ p ≤ 48 ∧ s.C ≤ p ∧ 1 ≤ s.C ∧ s.C ≤ 6 := by
  obtain ⟨⟨h1, h2, _⟩, h3, h4⟩ := perOK_iff.1 h
  omega
theorem newJ_of {b : Int} {x : Fu.Live} {t : Int} (h : LiveI b x t) (h0 : 0 ≤ t) (h1 : t ≤ 1099511627000) (hb : b ≤ 1099511627776) : newJ x.S x.N t (t + x.P) x.S.C = jobOf x.S x.N t (t + x.P) x.S.C := by
  obtain ⟨h2, h3, h4, _⟩ := h
  have h5 := perOK_P h2
  have : mayJ x.S (jobOf x.S x.N t (t + x.P) x.S.C) = true := by
    unfold mayJ
    refine decide_eq_true ⟨(perOK_iff.1 h2).1, .inr ⟨rfl, ?_, ?_, rfl, ?_, ?_, rfl⟩⟩ <;> simp only [jobOf] <;> omega
  simp [newJ, this]
theorem beginL_inv {b : Int} {x : Fu.Live} {t : Int} (h : LiveI b x t) (h0 : 0 ≤ t) (h1 : t ≤ 1099511627000) (hb : b ≤ 1099511627776) : LiveB (b + 1) (beginL t x) t := by
  have hn := newJ_of h h0 h1 hb
  obtain ⟨h2, h3, h4, h5⟩ := h
  have h6 := perOK_P h2
  unfold beginL
  cases hd : decide (x.At ≤ t) with
  | true =>
    simp only [cond_true]
    rw [hn]
    refine ⟨h2, ?_, ?_, .inr ⟨rfl, ⟨h4.1, rfl⟩, ?_, rfl, rfl, ?_, ?_, rfl⟩⟩ <;> simp only [jobOf] <;> omega
  | false =>
    have hd := of_decide_eq_false hd
    simp only [cond_false]
    refine ⟨h2, ⟨by omega, h3.2⟩, ⟨h4.1, by omega⟩, ?_⟩
    rcases h5 with h5 | ⟨a1, a2, a3, a4⟩
    · exact .inl h5
    · exact .inr ⟨a1, a2, ⟨a3.1, by omega⟩, a4⟩
theorem stepJ_inv {b : Int} {x : Fu.Live} {t : Int} (h : LiveB b x t) : LiveB b { x with J := stepJ x.J } t := by
  obtain ⟨h2, h3, h4, h5⟩ := h
  refine ⟨h2, h3, h4, ?_⟩
  rcases h5 with h5 | ⟨a1, a2, a3, a4, a5, a6, a7, a8⟩
  · left; simp only [h5]; rfl
  · simp only [JobI]
    unfold stepJ
    rw [a1]
    simp only [cond_true]
    cases hd : (decide (x.J.Ran + 1 ≥ x.J.D) || decide (x.J.Ran + 1 ≥ x.J.C)) with
    | true => exact .inl rfl
    | false =>
      simp only [Bool.or_eq_false_iff, decide_eq_false_iff_not] at hd
      exact .inr ⟨a1, a2, a3, a4, a5, a6, ⟨by simp only [cond_false, ran1]; omega, by simp only [cond_false, ran1]; omega, by simp only [cond_false, ran1]; omega⟩, a8⟩
theorem endL_inv {b : Int} {x : Fu.Live} {t : Int} (h : LiveB b x t) : LiveI b (endL (t + 1) x) (t + 1) := by
  obtain ⟨h2, h3, h4, h5⟩ := h
  refine ⟨h2, ⟨by simp only [endL]; omega, by simp only [endL]; omega⟩, h4, ?_⟩
  simp only [JobI, endL]
  unfold atJ
  cases overJ x.J (t + 1) with
  | true => exact .inl rfl
  | false => exact h5
theorem LiveB.small {b : Int} {x : Fu.Live} {t : Int} (h : LiveB b x t) : -1000000 ≤ x.J.C ∧ x.J.C ≤ 1000000 ∧ -1000000 ≤ x.J.Ran ∧ x.J.Ran ≤ 1000000 := by
  obtain ⟨h2, _, _, h5⟩ := h
  have h6 := perOK_P h2
  rcases h5 with h5 | ⟨_, _, _, _, a5, _, a7, _⟩
  · rw [h5]; decide
  · omega
theorem LiveI.small {b : Int} {x : Fu.Live} {t : Int} (h : LiveI b x t) : -1000000 ≤ x.J.C ∧ x.J.C ≤ 1000000 ∧ -1000000 ≤ x.J.Ran ∧ x.J.Ran ≤ 1000000 := by
  obtain ⟨h2, _, _, h5⟩ := h
  have h6 := perOK_P h2
  rcases h5 with h5 | ⟨_, _, _, _, a5, _, a7, _⟩
  · rw [h5]; decide
  · omega
/-- All tasks at a time. -/
def AllI (b : Int) (l : List Fu.Live) (t : Int) : Prop := l.length ≤ 4 ∧ ∀ x ∈ l, LiveI b x t
def AllB (b : Int) (l : List Fu.Live) (t : Int) : Prop := l.length ≤ 4 ∧ ∀ x ∈ l, LiveB b x t
theorem mem_updL {l : List Fu.Live} {i : Int} {z y : Fu.Live} (h : y ∈ upd .live l i z) : y ∈ l ∨ y = z := List.mem_or_eq_of_mem_set h
theorem rd_memL {l : List Fu.Live} {i : Int} (h0 : 0 ≤ i) (h1 : i < l.length) : rd .live l i ∈ l := by
  have hlt : i.toNat < l.length := by omega
  have : rd .live l i = l[i.toNat] := by simp [rd, hlt]
  rw [this]
  exact List.getElem_mem _
theorem runFirst_all {b : Int} {l : List Fu.Live} {t : Int} (h : AllB b l t) : AllB b (runFirst l) t := by
  unfold runFirst
  rcases firstL_range l with hf | ⟨h0, h1⟩
  · rw [hf]; exact h
  · rw [show (firstL l == -1) = false by simp; omega]
    simp only [cond_false]
    refine ⟨by rw [upd_len (r := .live)]; exact h.1, fun y hy => ?_⟩
    rcases mem_updL hy with h2 | h2
    · exact h.2 y h2
    · rw [h2]; exact stepJ_inv (h.2 _ (rd_memL h0 h1))
theorem begin_all {b : Int} {l : List Fu.Live} {t : Int} (h : AllI b l t) (h0 : 0 ≤ t) (h1 : t ≤ 1099511627000) (hb : b ≤ 1099511627776) : AllB (b + 1) (beginAll l t) t := by
  refine ⟨by simp only [beginAll, List.length_map]; exact h.1, fun y hy => ?_⟩
  obtain ⟨x, hx, rfl⟩ := List.mem_map.1 hy
  exact beginL_inv (h.2 x hx) h0 h1 hb
theorem step_all {b : Int} {l : List Fu.Live} {t : Int} (h : AllI b l t) (h0 : 0 ≤ t) (h1 : t ≤ 1099511627000) (hb : b ≤ 1099511627776) : AllI (b + 1) (stepL l t) (t + 1) := by
  have h2 := runFirst_all (begin_all h h0 h1 hb)
  refine ⟨by simp only [stepL, List.length_map]; exact h2.1, fun y hy => ?_⟩
  obtain ⟨x, hx, rfl⟩ := List.mem_map.1 hy
  exact endL_inv (h2.2 x hx)
theorem mayL_all {l : List Fu.Live} {t : Int} (h : mayL l t = true) : AllI 549755813888 l t ∧ 0 ≤ t ∧ t ≤ 549755813888 := by
  obtain ⟨h1, h2, h3⟩ := mayL_iff.1 h
  exact ⟨⟨h1, fun x hx => (h3 x hx).inv⟩, h2.1, h2.2⟩

/-! ### looking on -/
def lookR : Nat → List Fu.Live → Int → Int × Bool
  | 0, _, t => (t, false)
  | n + 1, l, t => bif idleL l then (t, true) else bif missedL l t then (t, false) else lookR n (stepL l t) (t + 1)
def lookL (l : List Fu.Live) (now : Int) : Int × Bool := bif mayL l now then lookR 2000 l now else (0, false)
def nxtK (x : List Fu.Live × Int) (i : Int) : List Fu.Live × Int := (stepL x.1 (x.2 + i), x.2)
def brkK (x : List Fu.Live × Int) (i : Int) : Option (Int × Int × Bool) := bif idleL x.1 then some (x.2, x.2 + i, true) else bif missedL x.1 (x.2 + i) then some (x.2, x.2 + i, false) else none
theorem lookR_brk (now : Int) : ∀ (n : Nat) (l : List Fu.Live) (i : Int), lookR n l (now + i) = match brkI nxtK brkK n (l, now) i with | some (_, t, b) => (t, b) | none => (now + i + n, false)
  | 0, l, i => by simp [lookR, brkI]
  | n + 1, l, i => by
    unfold lookR brkI
    have e : brkK (l, now) i = bif idleL l then some (now, now + i, true) else bif missedL l (now + i) then some (now, now + i, false) else none := rfl
    rw [e]
    cases idleL l with
    | true => rfl
    | false =>
      cases missedL l (now + i) with
      | true => rfl
      | false =>
        simp only [cond_false]
        rw [Int.add_assoc, lookR_brk now n (stepL l (now + i)) (i + 1)]
        show (match brkI nxtK brkK n (stepL l (now + i), now) (i + 1) with | some (_, t, b) => (t, b) | none => (now + (i + 1) + n, false)) = _
        rw [show now + (i + 1) + (n : Int) = now + i + ((n + 1 : Nat) : Int) by omega]
        rfl

end Go.Fx
