/- The wire seat's functions: what is asked, as bytes. -/
import Derived.Test.YtinlnjoapcpmaaaW9
import Derived.Test.YtinlnjoapcpmaaaFxY
namespace Go.Fx
open Go Go.Proofs

def opL (k : Int) (o : Fu.Op) : AV := .agg (.lit .i64 k :: (opCells o).drop 1)
def noPut : Tree (AV × List Blk) := .ret (.tup [.nils, .blit false], [])
def isPut (xs : List Int) : Tree (AV × List Blk) := .ret (.tup [.own 0, .blit true], [.rows (.int .u8) 5 xs])
def putK (k : Int) (o : Fu.Op) (t : Tree (AV × List Blk)) : Tree (AV × List Blk) :=
  .asrt ((o.D.length : Int) < 9223372036854775807) (.ite (!mayOp { o with Kind := k }) noPut t)
theorem f9_0 (o : Fu.Op) : callC w29 100 9 [opL 0 o] = putK 0 o (putsT isPut true [IntKind.u8.wrap 0] [byteOf o.S.C 0, byteOf o.S.T 0, byteOf o.S.Max 0, byteOf o.S.M 0, byteOf o.S.K 0, byteOf o.S.E 0]) := by kernel_rfl
theorem f9_1 (o : Fu.Op) : callC w29 100 9 [opL 1 o] = putK 1 o (putsT isPut true [IntKind.u8.wrap 1] [byteOf o.ID 8, byteOf o.ID 0, byteOf o.T 0, byteOf o.Max 0]) := by kernel_rfl
theorem f9_2 (o : Fu.Op) : callC w29 100 9 [opL 2 o] = putK 2 o (putsT isPut true [IntKind.u8.wrap 2] [byteOf o.ID 8, byteOf o.ID 0]) := by kernel_rfl
theorem f9_3 (o : Fu.Op) : callC w29 100 9 [opL 3 o] = putK 3 o (putsT isPut true [IntKind.u8.wrap 3] [byteOf o.Within 0, byteOf o.C 0, byteOf o.V 8, byteOf o.V 0]) := by kernel_rfl
theorem f9_4 (o : Fu.Op) : callC w29 100 9 [opL 4 o] = putK 4 o (putsT (fun ys => .asrt (5 = 5 ∧ T9 (o.D, (o.D.length : Int), 0, ys) = T9 (o.D, (o.D.length : Int), 0, ys))
    (.asrt (0 ≤ (0 : Int) ∧ (0 : Int) ≤ o.D.length ∧ (o.D.length : Int) = o.D.length ∧ ys.length + (o.D.length - (0 : Int).toNat) ≤ 140737488355328 ∧ (o.D.length : Int) < 9223372036854775807)
      (isPut (ys ++ (o.D.drop (0 : Int).toNat).map IntKind.u8.wrap)))) true [IntKind.u8.wrap 4] [IntKind.u8.wrap o.D.length]) := by kernel_rfl

/-- What stands behind 'may', for any kind. -/
noncomputable def rest9 (o : Fu.Op) : Tree (AV × List Blk) := match callC w29 100 9 [opAV o] with | .asrt _ (.ite _ _ e) => e | _ => .fail
theorem f9 (o : Fu.Op) : callC w29 100 9 [opAV o] = .asrt ((o.D.length : Int) < 9223372036854775807) (.ite (!mayOp o) noPut (rest9 o)) := by kernel_rfl

theorem AsArg.opL {x : AV} {o : Fu.Op} {k : Int} (h : opOf x = some o) (hk : o.Kind = k) : AsArg x (opL k o) := (AsArg.op h).trans (.agg (.cons (.toLit hk) (AsArgs.refl _)))
/-- The bytes of what is asked. -/
def putB (o : Fu.Op) : List Int :=
  IntKind.u8.wrap o.Kind :: (if o.Kind = 0 then [byteOf o.S.C 0, byteOf o.S.T 0, byteOf o.S.Max 0, byteOf o.S.M 0, byteOf o.S.K 0, byteOf o.S.E 0]
    else if o.Kind = 1 then [byteOf o.ID 8, byteOf o.ID 0, byteOf o.T 0, byteOf o.Max 0]
    else if o.Kind = 2 then [byteOf o.ID 8, byteOf o.ID 0]
    else if o.Kind = 3 then [byteOf o.Within 0, byteOf o.C 0, byteOf o.V 8, byteOf o.V 0]
    else IntKind.u8.wrap o.D.length :: o.D.map IntKind.u8.wrap)
def con9 : Con
  | [x] => match opOf x with
    | some o => .asrt ((o.D.length : Int) < 9223372036854775807) (.ite (mayOp o) (isPut (putB o)) noPut)
    | none => .fail
  | _ => .fail

theorem may_kind {o : Fu.Op} (h : mayOp o = true) : o.Kind = 0 ∨ o.Kind = 1 ∨ o.Kind = 2 ∨ o.Kind = 3 ∨ o.Kind = 4 := by
  unfold mayOp at h
  simp only [Bool.and_eq_true, Bool.not_eq_true', Bool.or_eq_false_iff, decide_eq_false_iff_not] at h
  omega
theorem may_len {o : Fu.Op} (h : mayOp o = true) : o.D.length ≤ 4 := by
  unfold mayOp endB at h
  simp only [Bool.and_eq_true, decide_eq_true_eq] at h
  omega
theorem con9_valid : ValidCon w29.P 9 con9 := by
  refine con_of (n := 100) w29_good (by kernel_rfl) fun args r h => ?_
  unfold con9 at h
  split at h
  · split at h
    · rename_i o ho
      obtain ⟨hlen, h⟩ := h
      cases hm : mayOp o with
      | false =>
        rw [hm] at h
        exact ⟨_, r.1, .cons (.op ho) .nil, .refl _, .of_eq (f9 o) (Tree.out_asrt.2 ⟨by omega, (Tree.out_ite_true (by rw [hm]; rfl)).2 ((Tree.out_ite_false rfl).1 h)⟩)⟩
      | true =>
      rw [hm] at h
      replace h := (Tree.out_ite_true rfl).1 h
      have hl4 := may_len hm
      rcases may_kind hm with hk | hk | hk | hk | hk
      · have eo : ({ o with Kind := 0 } : Fu.Op) = o := by cases o; simp only at hk; subst hk; rfl
        refine ⟨_, r.1, .cons (.opL ho hk) .nil, .refl _, .of_eq (f9_0 o) (Tree.out_asrt.2 ⟨by omega, (Tree.out_ite_false (by rw [eo, hm]; rfl)).2 ((putsT_out _ _ _ (by simp)).2 ?_)⟩)⟩
        have eb : putB o = [IntKind.u8.wrap 0] ++ [byteOf o.S.C 0, byteOf o.S.T 0, byteOf o.S.Max 0, byteOf o.S.M 0, byteOf o.S.K 0, byteOf o.S.E 0] := by simp [putB, hk]
        rw [eb] at h
        exact h
      · have eo : ({ o with Kind := 1 } : Fu.Op) = o := by cases o; simp only at hk; subst hk; rfl
        refine ⟨_, r.1, .cons (.opL ho hk) .nil, .refl _, .of_eq (f9_1 o) (Tree.out_asrt.2 ⟨by omega, (Tree.out_ite_false (by rw [eo, hm]; rfl)).2 ((putsT_out _ _ _ (by simp)).2 ?_)⟩)⟩
        have eb : putB o = [IntKind.u8.wrap 1] ++ [byteOf o.ID 8, byteOf o.ID 0, byteOf o.T 0, byteOf o.Max 0] := by simp [putB, hk]
        rw [eb] at h
        exact h
      · have eo : ({ o with Kind := 2 } : Fu.Op) = o := by cases o; simp only at hk; subst hk; rfl
        refine ⟨_, r.1, .cons (.opL ho hk) .nil, .refl _, .of_eq (f9_2 o) (Tree.out_asrt.2 ⟨by omega, (Tree.out_ite_false (by rw [eo, hm]; rfl)).2 ((putsT_out _ _ _ (by simp)).2 ?_)⟩)⟩
        have eb : putB o = [IntKind.u8.wrap 2] ++ [byteOf o.ID 8, byteOf o.ID 0] := by simp [putB, hk]
        rw [eb] at h
        exact h
      · have eo : ({ o with Kind := 3 } : Fu.Op) = o := by cases o; simp only at hk; subst hk; rfl
        refine ⟨_, r.1, .cons (.opL ho hk) .nil, .refl _, .of_eq (f9_3 o) (Tree.out_asrt.2 ⟨by omega, (Tree.out_ite_false (by rw [eo, hm]; rfl)).2 ((putsT_out _ _ _ (by simp)).2 ?_)⟩)⟩
        have eb : putB o = [IntKind.u8.wrap 3] ++ [byteOf o.Within 0, byteOf o.C 0, byteOf o.V 8, byteOf o.V 0] := by simp [putB, hk]
        rw [eb] at h
        exact h
      · have eo : ({ o with Kind := 4 } : Fu.Op) = o := by cases o; simp only at hk; subst hk; rfl
        refine ⟨_, r.1, .cons (.opL ho hk) .nil, .refl _, .of_eq (f9_4 o) (Tree.out_asrt.2 ⟨by omega, (Tree.out_ite_false (by rw [eo, hm]; rfl)).2 ((putsT_out _ _ _ (by simp)).2 ?_)⟩)⟩
        have eb : putB o = [IntKind.u8.wrap 4] ++ ([IntKind.u8.wrap o.D.length] ++ o.D.map IntKind.u8.wrap) := by simp [putB, hk]
        rw [eb] at h
        exact ⟨⟨rfl, rfl⟩, ⟨⟨by omega, by omega, rfl, by simp; omega, by omega⟩, by simpa [List.append_assoc] using h⟩⟩
    · exact h.elim
  · exact h.elim
noncomputable def w30 : Cfg := w29.addCon 9 con9
theorem w30_good : GoodCfg w30 := w29_good.addCon con9_valid (by kernel_rfl)

end Go.Fx
