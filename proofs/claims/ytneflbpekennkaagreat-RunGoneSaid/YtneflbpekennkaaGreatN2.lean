import Derived.Test.YtneflbpekennkaaGreatN1
import Derived.Test.YtneflbpekennkaaGreatPlU
/- The law RunGone. -/
namespace Go.Fx
open Go Go.Proofs

noncomputable def c135 : Cfg := c134.addCon 12 conTick
theorem c135_good : GoodCfg c135 := c134_good.addCon conTick_valid (by kernel_rfl)
theorem noCur_A (x : Fu.World) : (noCur x).A = x.A ∧ (noCur x).T = x.T ∧ (noCur x).Now = x.Now := by
  unfold noCur
  cases (atA x.A x.Cur == -1) <;> exact ⟨rfl, rfl, rfl⟩
theorem noCur_in {x : Fu.World} (h : ∃ a ∈ x.A, a.ID = x.Cur) : (noCur x).Cur = x.Cur := by
  unfold noCur
  have := (atA_spec h).1
  have : (atA x.A x.Cur == -1) = false := by rw [beq_eq_false_iff_ne]; omega
  rw [this]
  rfl
theorem mid_task {w : Fu.World} {d : List Int} (h : (whoW (startW w d)).1 = 1 ∨ (whoW (startW w d)).1 = 3) : midW w d = (noCur (ranTask (leftW w d) (whoW (startW w d)).2), stepF (rd .task (leftW w d).T (idxT (leftW w d).T (whoW (startW w d)).2)).J) := by
  have e : ((whoW (startW w d)).1 == 1 || (whoW (startW w d)).1 == 3) = true := by rcases h with h | h <;> rw [h] <;> rfl
  unfold midW ranW ranWho curW
  rw [e]
  rfl
theorem mid_none {w : Fu.World} {d : List Int} (h : (whoW (startW w d)).1 = 0) : midW w d = (noCur (leftW w d), 0) := by
  unfold midW ranW ranWho curW
  rw [h]
  rfl
/-- The world in which a job that came once runs. -/
def onceX (w : Fu.World) (d : List Int) : Fu.World := { leftW w d with Cur := (whoW (startW w d)).2 }
theorem mid_once {w : Fu.World} {d : List Int} (h : (whoW (startW w d)).1 = 2) : midW w d = bif doneB (leftW w d).A (whoW (startW w d)).2 then (noCur { onceX w d with A := (ranAs (leftW w d).A (whoW (startW w d)).2).eraseIdx (atA (leftW w d).A (whoW (startW w d)).2).toNat }, 1) else (noCur { onceX w d with A := ranAs (leftW w d).A (whoW (startW w d)).2 }, 0) := by
  unfold midW ranW ranWho curW
  rw [h]
  have e : ∀ b : Bool, ((noCur (bif b then (({ onceX w d with A := (ranAs (leftW w d).A (whoW (startW w d)).2).eraseIdx (atA (leftW w d).A (whoW (startW w d)).2).toNat } : Fu.World), (1 : Int)) else ({ onceX w d with A := ranAs (leftW w d).A (whoW (startW w d)).2 }, 0)).1, (bif b then (({ onceX w d with A := (ranAs (leftW w d).A (whoW (startW w d)).2).eraseIdx (atA (leftW w d).A (whoW (startW w d)).2).toNat } : Fu.World), (1 : Int)) else ({ onceX w d with A := ranAs (leftW w d).A (whoW (startW w d)).2 }, 0)).2) : Fu.World × Int) =
      bif b then (noCur { onceX w d with A := (ranAs (leftW w d).A (whoW (startW w d)).2).eraseIdx (atA (leftW w d).A (whoW (startW w d)).2).toNat }, 1) else (noCur { onceX w d with A := ranAs (leftW w d).A (whoW (startW w d)).2 }, 0) := fun b => by cases b <;> rfl
  exact e _
theorem who_range {x : Fu.World} (hA : mayA x.A x.Now = true) : (whoW x).1 = 1 ∨ (whoW x).1 = 2 ∨ (whoW x).1 = 3 ∨ (whoW x).1 = 0 := by
  rcases who_spec hA with ⟨t, _, e, _⟩ | ⟨_, ⟨a, _, e, _⟩ | ⟨_, _, ⟨t, _, e, _⟩ | ⟨e, _⟩⟩⟩ <;> rw [e] <;> simp
theorem who_once {x : Fu.World} (hA : mayA x.A x.Now = true) (h : (whoW x).1 = 2) : ∃ a ∈ x.A, (whoW x).2 = a.ID ∧ (pickW x).1 = a.ID ∧ a.ID ∉ (pickW x).2 ∧ lateA x.Now a = false ∧ ∀ t ∈ x.T, mustJ t.J = false := by
  rcases who_spec hA with ⟨t, _, e, _⟩ | ⟨h0, ⟨a, ha, e, k1, k2, k3⟩ | ⟨_, _, ⟨t, _, e, _⟩ | ⟨e, _⟩⟩⟩
  · rw [e] at h; simp at h
  · exact ⟨a, ha, by rw [e], k1, k2, k3, h0⟩
  · rw [e] at h; simp at h
  · rw [e] at h; simp at h
theorem once_there {w : Fu.World} {d : List Int} (hA : mayA w.A w.Now = true) (h : (whoW (startW w d)).1 = 2) : ∃ a ∈ (leftW w d).A, a.ID = (whoW (startW w d)).2 := by
  obtain ⟨a, ha, e, _, k2, _⟩ := who_once (x := startW w d) hA h
  refine ⟨a, List.mem_filter.2 ⟨ha, ?_⟩, e.symm⟩
  cases hh : hasI (pickW (startW w d)).2 a.ID with
  | false => rfl
  | true => exact absurd (hasI_iff.1 hh) k2
theorem ranAs_ids (A : List Fu.Ape) (id : Int) : idsA (ranAs A id) = idsA A := by
  unfold ranAs idsA upd
  apply List.ext_getElem?
  intro i
  rw [List.getElem?_map, List.getElem?_map, List.getElem?_set]
  by_cases hi : (atA A id).toNat = i
  · rw [if_pos hi]
    subst hi
    by_cases hl : (atA A id).toNat < A.length
    · rw [if_pos hl, List.getElem?_eq_getElem hl]
      simp [ranA, rd, hl]
    · rw [if_neg hl, List.getElem?_eq_none (by omega)]
  · rw [if_neg hi]
theorem tick_len {w : Fu.World} (hm : mayW w = true) (d : List Int) : ((tickW w d).A.length : Int) = w.A.length - (pickW (startW w d)).2.length - (bif (whoW (startW w d)).1 == 2 && (midW w d).2 == 1 then 1 else 0) ∧
    ((whoW (startW w d)).1 = 2 → (midW w d).2 = 1 ∨ ((midW w d).2 = 0 ∧ (tickW w d).Cur = (whoW (startW w d)).2)) := by
  have hA : mayA w.A w.Now = true := (mayW_iff.1 hm).2.2.2.1
  have hg := gone_len (x := startW w d) hA
  have hl : (leftW w d).A.length + (pickW (startW w d)).2.length = w.A.length := hg
  have eA : (tickW w d).A = (midW w d).1.A := rfl
  have eC : (tickW w d).Cur = (midW w d).1.Cur := rfl
  rw [eA, eC]
  rcases who_range (x := startW w d) hA with h | h | h | h
  · rw [mid_task (.inl h), h]
    refine ⟨?_, fun h => by omega⟩
    simp only [(noCur_A _).1]
    show ((leftW w d).A.length : Int) = _
    simp
    omega
  · rw [mid_once h, h]
    obtain ⟨hi, _⟩ := atA_spec (once_there hA h)
    have hr := ranAs_len (leftW w d).A (whoW (startW w d)).2
    cases hd : doneB (leftW w d).A (whoW (startW w d)).2 with
    | true =>
      refine ⟨?_, fun _ => .inl rfl⟩
      simp only [cond_true, (noCur_A _).1]
      rw [List.length_eraseIdx_of_lt (by omega)]
      simp
      omega
    | false =>
      refine ⟨?_, fun _ => .inr ⟨rfl, ?_⟩⟩
      · simp only [cond_false, (noCur_A _).1]
        simp
        omega
      · simp only [cond_false]
        refine noCur_in ?_
        show ∃ a ∈ ranAs (leftW w d).A (whoW (startW w d)).2, a.ID = (whoW (startW w d)).2
        obtain ⟨a, ha, e⟩ := once_there hA h
        have : (whoW (startW w d)).2 ∈ idsA (ranAs (leftW w d).A (whoW (startW w d)).2) := by
          rw [ranAs_ids]
          exact List.mem_map.2 ⟨a, ha, e⟩
        obtain ⟨b, hb, e2⟩ := List.mem_map.1 this
        exact ⟨b, hb, e2⟩
  · rw [mid_task (.inr h), h]
    refine ⟨?_, fun h => by omega⟩
    simp only [(noCur_A _).1]
    show ((leftW w d).A.length : Int) = _
    simp
    omega
  · rw [mid_none h, h]
    refine ⟨?_, fun h => by omega⟩
    simp only [(noCur_A _).1]
    simp
    omega
def rgT (w : Fu.World) (d : List Int) : Tree (AV × List Blk) := .asrt (smallW w) (.ite (!mayW w || decide ((d.length : Int) > 100)) (.ret (.blit true, [])) (.asrt (smallW w) (.ite (!mayW w || w.Now == 274877906944) (.ret (.bool ((w.A.length : Int) == w.A.length), []))
  (.ret (.bool (((tickW w d).A.length : Int) == IntKind.i64.wrap (IntKind.i64.wrap ((w.A.length : Int) - (pickW (startW w d)).2.length) - (bif (whoW (startW w d)).1 == 2 && (midW w d).2 == 1 then 1 else 0)) && ((whoW (startW w d)).1 != 2 || ((midW w d).2 == 1 || (midW w d).2 == 0 && (tickW w d).Cur == (whoW (startW w d)).2))), [])))))
theorem fRg (w : Fu.World) (d : List Int) : callC c135 60 5 [.agg (encW w), .view (.int .i64) d] = rgT w d := by kernel_rfl
theorem rgT_tru {w : Fu.World} {d : List Int} (h : smallW w) : Tru (rgT w d) := by
  refine .asrt h (.ite (fun _ => .yes) fun hb => .asrt h (.ite (fun _ => .of (by simp)) fun _ => .of ?_))
  have hm : mayW w = true := by
    rw [Bool.or_eq_false_iff] at hb
    simpa using hb.1
  obtain ⟨k1, k2⟩ := tick_len hm d
  have hA := (mayA_iff.1 (mayW_iff.1 hm).2.2.2.1).2.2.1
  have hg := gone_len (x := startW w d) (mayW_iff.1 hm).2.2.2.1
  have hl : (leftW w d).A.length + (pickW (startW w d)).2.length = w.A.length := hg
  have hx : (0 : Int) ≤ (bif (whoW (startW w d)).1 == 2 && (midW w d).2 == 1 then (1 : Int) else 0) ∧ (bif (whoW (startW w d)).1 == 2 && (midW w d).2 == 1 then (1 : Int) else 0) ≤ 1 := by
    cases ((whoW (startW w d)).1 == 2 && (midW w d).2 == 1) <;> simp
  rw [wrap_fits (n := (w.A.length : Int) - (pickW (startW w d)).2.length) (by omega) (by omega), wrap_fits (by omega) (by omega), ← k1]
  rw [Bool.and_eq_true]
  refine ⟨by simp, ?_⟩
  by_cases h2 : (whoW (startW w d)).1 = 2
  · rcases k2 h2 with k | ⟨k, k'⟩
    · rw [k]; simp
    · rw [k, k']; simp
  · have : ((whoW (startW w d)).1 != 2) = true := by simpa using h2
    rw [this]; rfl
theorem conRg_valid : ValidCon c135.P 5 (lawCon good2V) := lawCon_of (n := 60) c135_good (by kernel_rfl) fun args ⟨w, xs, h1, h2, _⟩ => by
  subst h1
  exact ⟨_, fRg w xs, rgT_tru h2⟩
end Go.Fx
