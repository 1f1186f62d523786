/- The wire seat's functions: what may be asked. -/
import Derived.Test.YtinlnjoapcpmaaaW3
namespace Go.Fx
open Go Go.Proofs

def badF (n s : Int) : Bool := decide (n < 0) || decide (shrI .i64 n (IntKind.i64.wrap (8 * s)) > 0)
def no : Tree (AV × List Blk) := .ret (.blit false, [])
def endT (o p : Fu.Op) : Tree (AV × List Blk) :=
  .asrt ((o.D.length : Int) < 9223372036854775807) (.asrt (decide (o = p) = true → decide ((o.D.length : Int) ≤ 4) = true → (o.D.length : Int) < 9223372036854775807)
    (.ret (.bool (decide (o = p) && (decide ((o.D.length : Int) ≤ 4) && !o.D.any odd)), [])))
def lastT (o p : Fu.Op) : Tree (AV × List Blk) := .ite (o.Kind == 4) (endT o { p with D := o.D }) (endT o p)
def chks : List (Int × Int) → Tree (AV × List Blk) → Tree (AV × List Blk)
  | [], t => t
  | (n, s) :: l, t => .ite (badF n s) no (chks l t)
/-- What a kind has, and how many bytes each has; what is asked with no more than that. -/
def hasOf (o : Fu.Op) : List (Int × Int) × Fu.Op :=
  if o.Kind = 0 then ([(o.S.C, 1), (o.S.T, 1), (o.S.Max, 1), (o.S.M, 1), (o.S.K, 1), (o.S.E, 1)], ⟨o.Kind, 0, o.S, 0, 0, 0, 0, 0, []⟩)
  else if o.Kind = 1 then ([(o.ID, 2), (o.T, 1), (o.Max, 1)], ⟨o.Kind, o.ID, ⟨0, 0, 0, 0, 0, 0⟩, o.T, o.Max, 0, 0, 0, []⟩)
  else if o.Kind = 2 then ([(o.ID, 2)], ⟨o.Kind, o.ID, ⟨0, 0, 0, 0, 0, 0⟩, 0, 0, 0, 0, 0, []⟩)
  else if o.Kind = 3 then ([(o.Within, 1), (o.C, 1), (o.V, 2)], ⟨o.Kind, 0, ⟨0, 0, 0, 0, 0, 0⟩, 0, 0, o.Within, o.C, o.V, []⟩)
  else ([], ⟨o.Kind, 0, ⟨0, 0, 0, 0, 0, 0⟩, 0, 0, 0, 0, 0, if o.Kind = 4 then o.D else []⟩)
theorem f10 (o : Fu.Op) : callC w11 200 10 [opAV o] =
    .ite (decide (o.Kind < 0) || decide (o.Kind ≥ 5)) no
      (.ite (o.Kind == 0) (chks [(o.S.C, 1), (o.S.T, 1), (o.S.Max, 1), (o.S.M, 1), (o.S.K, 1), (o.S.E, 1)] (lastT o ⟨o.Kind, 0, o.S, 0, 0, 0, 0, 0, []⟩))
      (.ite (o.Kind == 1) (chks [(o.ID, 2), (o.T, 1), (o.Max, 1)] (lastT o ⟨o.Kind, o.ID, ⟨0, 0, 0, 0, 0, 0⟩, o.T, o.Max, 0, 0, 0, []⟩))
      (.ite (o.Kind == 2) (chks [(o.ID, 2)] (lastT o ⟨o.Kind, o.ID, ⟨0, 0, 0, 0, 0, 0⟩, 0, 0, 0, 0, 0, []⟩))
      (.ite (o.Kind == 3) (chks [(o.Within, 1), (o.C, 1), (o.V, 2)] (lastT o ⟨o.Kind, 0, ⟨0, 0, 0, 0, 0, 0⟩, 0, 0, o.Within, o.C, o.V, []⟩))
        (lastT o ⟨o.Kind, 0, ⟨0, 0, 0, 0, 0, 0⟩, 0, 0, 0, 0, 0, []⟩))))) := by kernel_rfl

/-- Comes to such a truth. -/
def Res (t : Tree (AV × List Blk)) (b : Bool) : Prop := ∃ v, AsArg v (.bool b) ∧ t.Out (v, [])
theorem Res.no {b : Bool} (h : b = false) : Res no b := ⟨_, .blit h.symm, rfl⟩
theorem Res.ite {c : Bool} {t e : Tree (AV × List Blk)} {b : Bool} (h1 : c = true → Res t b) (h2 : c = false → Res e b) : Res (.ite c t e) b := by
  cases c with
  | true => obtain ⟨v, h3, h4⟩ := h1 rfl; exact ⟨v, h3, (Tree.out_ite_true rfl).2 h4⟩
  | false => obtain ⟨v, h3, h4⟩ := h2 rfl; exact ⟨v, h3, (Tree.out_ite_false rfl).2 h4⟩
theorem Res.chks {t : Tree (AV × List Blk)} {b : Bool} : ∀ {l : List (Int × Int)}, (l.all (fun p => !badF p.1 p.2) = false → b = false) → (l.all (fun p => !badF p.1 p.2) = true → Res t b) → Res (chks l t) b
  | [], _, h => h rfl
  | (n, s) :: l, h1, h2 => by
    refine Res.ite (fun hb => Res.no (h1 (by simp [hb]))) (fun hb => Res.chks (fun h => h1 ?_) (fun h => h2 ?_))
    · simp only [List.all_cons, h, Bool.and_false]
    · simp only [List.all_cons, h, hb, Bool.not_false, Bool.and_self]
def endB (o p : Fu.Op) : Bool := decide (o = p) && (decide ((o.D.length : Int) ≤ 4) && !o.D.any odd)
theorem Res.endT {o p : Fu.Op} (hl : (o.D.length : Int) < 9223372036854775807) : Res (endT o p) (endB o p) := ⟨_, .refl _, ⟨hl, ⟨fun _ _ => hl, rfl⟩⟩⟩
/-- What may be asked. -/
def mayOp (o : Fu.Op) : Bool := !(decide (o.Kind < 0) || decide (o.Kind ≥ 5)) && ((hasOf o).1.all (fun p => !badF p.1 p.2) && endB o (hasOf o).2)

theorem may_res (o : Fu.Op) (hl : (o.D.length : Int) < 9223372036854775807) : ∃ v, AsArg v (.bool (mayOp o)) ∧ Gets (callC w11 200 10 [opAV o]) (v, []) := by
  have key : Res (.ite (decide (o.Kind < 0) || decide (o.Kind ≥ 5)) no
      (.ite (o.Kind == 0) (chks [(o.S.C, 1), (o.S.T, 1), (o.S.Max, 1), (o.S.M, 1), (o.S.K, 1), (o.S.E, 1)] (lastT o ⟨o.Kind, 0, o.S, 0, 0, 0, 0, 0, []⟩))
      (.ite (o.Kind == 1) (chks [(o.ID, 2), (o.T, 1), (o.Max, 1)] (lastT o ⟨o.Kind, o.ID, ⟨0, 0, 0, 0, 0, 0⟩, o.T, o.Max, 0, 0, 0, []⟩))
      (.ite (o.Kind == 2) (chks [(o.ID, 2)] (lastT o ⟨o.Kind, o.ID, ⟨0, 0, 0, 0, 0, 0⟩, 0, 0, 0, 0, 0, []⟩))
      (.ite (o.Kind == 3) (chks [(o.Within, 1), (o.C, 1), (o.V, 2)] (lastT o ⟨o.Kind, 0, ⟨0, 0, 0, 0, 0, 0⟩, 0, 0, o.Within, o.C, o.V, []⟩))
        (lastT o ⟨o.Kind, 0, ⟨0, 0, 0, 0, 0, 0⟩, 0, 0, 0, 0, 0, []⟩)))))) (mayOp o) := by
    have step : ∀ (l : List (Int × Int)) (p : Fu.Op), (hasOf o) = (l, if o.Kind = 4 then { p with D := o.D } else p) → (decide (o.Kind < 0) || decide (o.Kind ≥ 5)) = false → Res (chks l (lastT o p)) (mayOp o) := by
      intro l p hh hk
      have hm : mayOp o = (l.all (fun p => !badF p.1 p.2) && endB o (if o.Kind = 4 then { p with D := o.D } else p)) := by simp only [mayOp, hk, hh, Bool.not_false, Bool.true_and]
      rw [hm]
      refine Res.chks (fun h => by rw [h]; rfl) (fun h => ?_)
      rw [h, Bool.true_and]
      refine Res.ite (fun h4 => ?_) (fun h4 => ?_)
      · rw [if_pos (by simpa using h4)]; exact Res.endT hl
      · rw [if_neg (by simpa using h4)]; exact Res.endT hl
    refine Res.ite (fun hk => Res.no (by simp only [mayOp, hk]; rfl)) fun hk => ?_
    refine Res.ite (fun h0 => ?_) fun h0 => Res.ite (fun h1 => ?_) fun h1 => Res.ite (fun h2 => ?_) fun h2 => Res.ite (fun h3 => ?_) fun h3 => ?_
    · have e : o.Kind = 0 := by simpa using h0
      exact step _ _ (by simp [hasOf, e]) hk
    · have e : o.Kind = 1 := by simpa using h1
      exact step _ _ (by simp [hasOf, e]) hk
    · have e : o.Kind = 2 := by simpa using h2
      exact step _ _ (by simp [hasOf, e]) hk
    · have e : o.Kind = 3 := by simpa using h3
      exact step _ _ (by simp [hasOf, e]) hk
    · have e0 : ¬ o.Kind = 0 := by simpa using h0
      have e1 : ¬ o.Kind = 1 := by simpa using h1
      have e2 : ¬ o.Kind = 2 := by simpa using h2
      have e3 : ¬ o.Kind = 3 := by simpa using h3
      refine step [] _ ?_ hk
      simp only [hasOf, e0, e1, e2, e3, if_false]
      by_cases e4 : o.Kind = 4 <;> simp [e4]
  obtain ⟨v, h1, h2⟩ := key
  exact ⟨v, h1, .of_eq (f10 o) h2⟩

def conMay : Con
  | [x] => match opOf x with
    | some o => .asrt ((o.D.length : Int) < 9223372036854775807) (.ret (.bool (mayOp o), []))
    | none => .fail
  | _ => .fail
theorem conMay_quiet : noBlks conMay := by
  intro args r h
  unfold conMay at h
  split at h
  · split at h
    · cases h; rfl
    · exact h.elim
  · exact h.elim
theorem con10_valid : ValidCon w11.P 10 conMay := by
  refine con_of (n := 200) w11_good (by kernel_rfl) fun args r h => ?_
  unfold conMay at h
  split at h
  · split at h
    · rename_i o ho
      obtain ⟨hlen, h⟩ := h
      cases h
      obtain ⟨v, h1, h2⟩ := may_res o hlen
      exact ⟨_, v, .cons (.op ho) .nil, h1, h2⟩
    · exact h.elim
  · exact h.elim
noncomputable def w12 : Cfg := w11.addQuiet 10 conMay
theorem w12_good : GoodCfg w12 := w11_good.addQuiet con10_valid conMay_quiet

end Go.Fx
