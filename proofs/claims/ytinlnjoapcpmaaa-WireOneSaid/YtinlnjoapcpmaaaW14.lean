/- The wire seat's functions: contracts that tell it flatly; the chapter's example. -/
import Derived.Test.YtinlnjoapcpmaaaW13
namespace Go.Fx
open Go Go.Proofs

def zeroOp : Fu.Op := ⟨0, 0, ⟨0, 0, 0, 0, 0, 0⟩, 0, 0, 0, 0, 0, []⟩
def putO (o : Fu.Op) : List Int := if mayOp o = true then putB o else []
def getO (b : List Int) : Fu.Op := if asks b = true then cand b else zeroOp
def answerO (a b : Int) : List Int := if mayReply a b = true then answerL a b else []
def isA (b : List Int) : Bool := decide (b.length = 7) && mayReply (errOf b) (getL 0 (b.drop 1))
def aE (b : List Int) : Int := if isA b = true then errOf b else 0
def aN (b : List Int) : Int := if isA b = true then getL 0 (b.drop 1) else 0

def con9f : Con
  | [x] => match opOf x with
    | some o => .asrt ((o.D.length : Int) < 9223372036854775807) (.ret (.tup [.view (.int .u8) (putO o), .bool (mayOp o)], []))
    | none => .fail
  | _ => .fail
def con11f : Con
  | [x] => match x.asView (.int .u8) with
    | some b => .asrt (bytesOK b ∧ (b.length : Int) < 17592186044416) (.ret (.tup [opAV (getO b), .bool (asks b)], []))
    | none => .fail
  | _ => .fail
def con17f : Con
  | [.agg [x, y]] => match x.i, y.i with
    | some a, some b => .ret (.tup [.view (.int .u8) (answerO a b), .bool (mayReply a b)], [])
    | _, _ => .fail
  | _ => .fail
def con19f : Con
  | [x] => match x.asView (.int .u8) with
    | some b => .ret (.tup [.agg [.int .i64 (aE b), .int .i64 (aN b)], .bool (isA b)], [])
    | none => .fail
  | _ => .fail
theorem con9f_valid {P : Program} {g : Nat} (V : ValidCon P g con9) : ValidCon P g con9f := V.frozen.weaken fun args r h => by
  unfold con9f at h
  unfold frozen con9
  split at h
  · split at h
    · rename_i o ho
      obtain ⟨h1, h2⟩ := h
      cases h2
      simp only [ho]
      cases hm : mayOp o with
      | true =>
        refine ⟨.tup [.view (.int .u8) (putB o), .blit true], .tup (.cons (.eq (by simp [putO, hm])) (.cons (.blit rfl) .nil)), h1, ?_⟩
        exact (Tree.out_ite_true rfl).2 rfl
      | false =>
        refine ⟨.tup [.nils, .blit false], .tup (.cons (.view (by simp [putO, hm, AV.asView, castView])) (.cons (.blit rfl) .nil)), h1, ?_⟩
        exact (Tree.out_ite_false rfl).2 rfl
    · exact h.elim
  · exact h.elim
theorem opA (o : Fu.Op) {d : AV} (h : AsArg d (.view (.int .i64) o.D)) : AsArg (.agg (opCellsD o d)) (opAV o) :=
  .agg (.cons (.refl _) (.cons (.refl _) (.cons (.refl _) (.cons (.refl _) (.cons (.refl _) (.cons (.refl _) (.cons (.refl _) (.cons (.refl _) (.cons (.refl _) (.cons (.refl _) (.cons (.refl _) (.cons (.refl _) (.cons (.refl _) (.cons h .nil))))))))))))))
theorem zeroA : AsArg (.agg (zeros 13 ++ [.nils])) (opAV zeroOp) :=
  .agg (.cons zAs (.cons zAs (.cons zAs (.cons zAs (.cons zAs (.cons zAs (.cons zAs (.cons zAs (.cons zAs (.cons zAs (.cons zAs (.cons zAs (.cons zAs (.cons (.view rfl) .nil))))))))))))))
theorem cand_nil {b : List Int} (h : (cand b).Kind ≠ 4) : (cand b).D = [] := by
  unfold cand at h ⊢
  simp only at h ⊢
  split
  · rfl
  split
  · rfl
  split
  · rfl
  split
  · rfl
  · rename_i h0 h1 h2 h3
    simp only [h0, h1, h2, h3, if_false] at h
    exact if_neg h
theorem con11f_valid {P : Program} {g : Nat} (V : ValidCon P g con11) : ValidCon P g con11f := V.frozen.weaken fun args r h => by
  unfold con11f at h
  unfold frozen con11
  split at h
  · split at h
    · rename_i b hb
      obtain ⟨h1, h2⟩ := h
      cases h2
      simp only [hb]
      cases hm : asks b with
      | true =>
        by_cases hk : (cand b).Kind = 4
        · refine ⟨.tup [opAV (cand b), .blit true], .tup (.cons (.eq (by simp [getO, hm])) (.cons (.blit rfl) .nil)), h1, ?_⟩
          exact (Tree.out_ite_true rfl).2 ((Tree.out_ite_true (by simp [hk])).2 rfl)
        · refine ⟨.tup [.agg (opCellsD (cand b) .nils), .blit true], .tup (.cons ?_ (.cons (.blit rfl) .nil)), h1, ?_⟩
          · have : getO b = cand b := by simp [getO, hm]
            rw [this]
            exact opA _ (.view (by rw [cand_nil hk]; rfl))
          · exact (Tree.out_ite_true rfl).2 ((Tree.out_ite_false (by simp [hk])).2 rfl)
      | false =>
        refine ⟨.tup [.agg (zeros 13 ++ [.nils]), .blit false], .tup (.cons ?_ (.cons (.blit rfl) .nil)), h1, ?_⟩
        · have : getO b = zeroOp := by simp [getO, hm]
          rw [this]
          exact zeroA
        · exact (Tree.out_ite_false rfl).2 rfl
    · exact h.elim
  · exact h.elim
theorem con17f_valid {P : Program} {g : Nat} (V : ValidCon P g con17) : ValidCon P g con17f := V.frozen.weaken fun args r h => by
  unfold con17f at h
  unfold frozen con17
  split at h
  · split at h
    · rename_i a b ha hb
      cases h
      simp only [ha, hb]
      cases hm : mayReply a b with
      | true =>
        refine ⟨.tup [.view (.int .u8) (answerL a b), .blit true], .tup (.cons (.eq (by simp [answerO, hm])) (.cons (.blit rfl) .nil)), ?_⟩
        exact (Tree.out_ite_false rfl).2 rfl
      | false =>
        refine ⟨.tup [.nils, .blit false], .tup (.cons (.view (by simp [answerO, hm, AV.asView, castView])) (.cons (.blit rfl) .nil)), ?_⟩
        exact (Tree.out_ite_true rfl).2 rfl
    · exact h.elim
  · exact h.elim
theorem con19f_valid {P : Program} {g : Nat} (V : ValidCon P g con19) : ValidCon P g con19f := V.weaken fun args r h => by
  unfold con19f at h
  unfold con19
  split at h
  · split at h
    · rename_i b hb
      cases h
      simp only [hb]
      cases hm : isA b with
      | true =>
        refine ⟨.tup [.agg [.int .i64 (errOf b), .int .i64 (getL 0 (b.drop 1))], .blit true], .tup (.cons (.eq (by simp [aE, aN, hm])) (.cons (.blit rfl) .nil)), ?_⟩
        exact (Tree.out_ite_true hm).2 rfl
      | false =>
        refine ⟨.tup [.agg [.lit .i64 0, .lit .i64 0], .blit false], .tup (.cons (.agg (.cons (.lit (by simp [aE, hm])) (.cons (.lit (by simp [aN, hm])) .nil))) (.cons (.blit rfl) .nil)), ?_⟩
        exact (Tree.out_ite_false hm).2 rfl
    · exact h.elim
  · exact h.elim
theorem con9f_quiet : noBlks con9f := by
  intro args r h
  unfold con9f at h
  split at h
  · split at h
    · cases h; rfl
    · exact h.elim
  · exact h.elim
theorem con11f_quiet : noBlks con11f := by
  intro args r h
  unfold con11f at h
  split at h
  · split at h
    · cases h; rfl
    · exact h.elim
  · exact h.elim
theorem con17f_quiet : noBlks con17f := by
  intro args r h
  unfold con17f at h
  split at h
  · split at h
    · cases h; rfl
    · exact h.elim
  · exact h.elim
theorem con19f_quiet : noBlks con19f := by
  intro args r h
  unfold con19f at h
  split at h
  · split at h
    · cases h; rfl
    · exact h.elim
  · exact h.elim
noncomputable def w32a : Cfg := w31.addQuiet 9 con9f
theorem w32a_good : GoodCfg w32a := w31_good.addQuiet (con9f_valid con9_valid) con9f_quiet
noncomputable def w32b : Cfg := w32a.addQuiet 11 con11f
theorem w32b_good : GoodCfg w32b := w32a_good.addQuiet (con11f_valid con11_valid) con11f_quiet
noncomputable def w32c : Cfg := w32b.addQuiet 17 con17f
theorem w32c_good : GoodCfg w32c := w32b_good.addQuiet (con17f_valid con17_valid) con17f_quiet
noncomputable def w32d : Cfg := w32c.addQuiet 19 con19f
theorem w32d_good : GoodCfg w32d := w32c_good.addQuiet (con19f_valid con19_valid) con19f_quiet

def o258 : Fu.Op := ⟨2, 258, ⟨0, 0, 0, 0, 0, 0⟩, 0, 0, 0, 0, 0, []⟩
def noT : Tree (AV × List Blk) := .ret (.blit false, [])
theorem f8 : callC w32d 100 8 [] =
    .asrt ((o258.D.length : Int) < 9223372036854775807) (.asrt (bytesOK (putO o258) ∧ ((putO o258).length : Int) < 17592186044416)
      (.ite (mayOp o258) (.ite (asks (putO o258)) (.asrt (((putO o258).length : Int) < 9223372036854775807)
        (.ite (decide (putO o258 = [2, 1, 2])) (.ite ((getO (putO o258)).ID == 258)
          (.asrt (((getO (putO o258)).D.length : Int) < 9223372036854775807) (.ret (.bool (mayOp (getO (putO o258))), []))) noT) noT)) noT) noT)) := by kernel_rfl
def con8 : Con
  | [] => .ret (.blit true, [])
  | _ => .fail
theorem con8_valid : ValidCon w32d.P 8 con8 := by
  refine con_of (n := 100) w32d_good (by kernel_rfl) fun args r h => ?_
  unfold con8 at h
  split at h
  · cases h
    have e3 : mayOp o258 = true := by decide +kernel
    have e1 : putO o258 = [2, 1, 2] := by decide +kernel
    have e2 : cand [2, 1, 2] = o258 := rfl
    have e4 : asks [2, 1, 2] = true := by decide +kernel
    have e5 : getO [2, 1, 2] = o258 := by unfold getO; rw [e4, e2]; rfl
    refine ⟨[], .bool true, .nil, .boolLit rfl, .of_eq f8 ?_⟩
    rw [e1, e5, e4, e3]
    exact ⟨by decide, ⟨fun x hx => by simp at hx; omega, by decide⟩, (Tree.out_ite_true rfl).2 ((Tree.out_ite_true rfl).2 ⟨by decide, (Tree.out_ite_true (by decide)).2 ((Tree.out_ite_true rfl).2 ⟨by decide, congrArg (fun b => (AV.bool b, ([] : List Blk))) e3⟩)⟩)⟩
  · exact h.elim
theorem con8_quiet : noBlks con8 := by
  intro args r h
  unfold con8 at h
  split at h
  · cases h; rfl
  · exact h.elim
noncomputable def w33 : Cfg := w32d.addQuiet 8 con8
theorem w33_good : GoodCfg w33 := w32d_good.addQuiet con8_valid con8_quiet

end Go.Fx
