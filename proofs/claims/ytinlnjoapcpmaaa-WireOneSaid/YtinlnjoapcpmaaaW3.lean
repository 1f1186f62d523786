/- The wire seat's functions: two things that are asked are the same. -/
import Derived.Test.YtinlnjoapcpmaaaW2
namespace Go.Fx
open Go Go.Proofs

def opCells (o : Fu.Op) : List AV := [.int .i64 o.Kind, .int .i64 o.ID, .int .i64 o.S.C, .int .i64 o.S.T, .int .i64 o.S.Max, .int .i64 o.S.M, .int .i64 o.S.K, .int .i64 o.S.E, .int .i64 o.T, .int .i64 o.Max, .int .i64 o.Within, .int .i64 o.C, .int .i64 o.V, .view (.int .i64) o.D]
def opAV (o : Fu.Op) : AV := .agg (opCells o)
def opOf : AV → Option Fu.Op
  | .agg [a, b, c, d, e, f, g, h, i, j, k, l, m, n] =>
    match a.i, b.i, c.i, d.i, e.i, f.i, g.i, h.i, i.i, j.i, k.i, l.i, m.i, n.asView (.int .i64) with
    | some a, some b, some c, some d, some e, some f, some g, some h, some i, some j, some k, some l, some m, some n => some ⟨a, b, ⟨c, d, e, f, g, h⟩, i, j, k, l, m, n⟩
    | _, _, _, _, _, _, _, _, _, _, _, _, _, _ => none
  | _ => none
theorem AsArg.op {x : AV} {o : Fu.Op} (h : opOf x = some o) : AsArg x (opAV o) := by
  unfold opOf at h
  split at h
  · split at h
    · rename_i h1 h2 h3 h4 h5 h6 h7 h8 h9 h10 h11 h12 h13 h14
      cases h
      exact .agg (.cons (.i h1) (.cons (.i h2) (.cons (.i h3) (.cons (.i h4) (.cons (.i h5) (.cons (.i h6) (.cons (.i h7) (.cons (.i h8) (.cons (.i h9) (.cons (.i h10) (.cons (.i h11) (.cons (.i h12) (.cons (.i h13) (.cons (.view h14) .nil))))))))))))))
    · cases h
  · cases h

/-- Field by field. -/
def sameOp (a b : Fu.Op) : Bool :=
  (a.Kind == b.Kind && (a.ID == b.ID && (a.S.C == b.S.C && (a.S.T == b.S.T && (a.S.Max == b.S.Max && (a.S.M == b.S.M && (a.S.K == b.S.K && a.S.E == b.S.E)))) &&
    (a.T == b.T && (a.Max == b.Max && (a.Within == b.Within && (a.C == b.C && a.V == b.V)))))))
theorem sameOp_iff (a b : Fu.Op) : (decide (a.D = b.D) && sameOp a b) = decide (a = b) := by
  obtain ⟨a1, a2, ⟨a3, a4, a5, a6, a7, a8⟩, a9, a10, a11, a12, a13, a14⟩ := a
  obtain ⟨b1, b2, ⟨b3, b4, b5, b6, b7, b8⟩, b9, b10, b11, b12, b13, b14⟩ := b
  rw [Bool.eq_iff_iff]
  simp only [sameOp, Bool.and_eq_true, decide_eq_true_eq, beq_iff_eq, Fu.Op.mk.injEq, Fu.Spec.mk.injEq]
  constructor
  · rintro ⟨h14, h1, h2, ⟨h3, h4, h5, h6, h7, h8⟩, h9, h10, h11, h12, h13⟩
    exact ⟨h1, h2, ⟨h3, h4, h5, h6, h7, h8⟩, h9, h10, h11, h12, h13, h14⟩
  · rintro ⟨h1, h2, ⟨h3, h4, h5, h6, h7, h8⟩, h9, h10, h11, h12, h13, h14⟩
    exact ⟨h14, h1, h2, ⟨h3, h4, h5, h6, h7, h8⟩, h9, h10, h11, h12, h13⟩

def conSame : Con
  | [x, y] => match opOf x, opOf y with
    | some a, some b => .asrt ((a.D.length : Int) < 9223372036854775807) (.ret (.bool (decide (a = b)), []))
    | _, _ => .fail
  | _ => .fail
theorem conSame_quiet : noBlks conSame := by
  intro args r h
  unfold conSame at h
  split at h
  · split at h
    · cases h; rfl
    · exact h.elim
  · exact h.elim

/-! ### wire.Same -/
theorem f14 (a b : Fu.Op) : callC w9 100 14 [opAV a, opAV b] =
    .asrt ((a.D.length : Int) < 9223372036854775807) (.ite (!decide (a.D = b.D)) (.ret (.blit false, [])) (.ret (.bool (sameOp a b), []))) := by kernel_rfl
theorem con14_valid : ValidCon w9.P 14 conSame := by
  refine con_of (n := 100) w9_good (by kernel_rfl) fun args r h => ?_
  unfold conSame at h
  split at h
  · split at h
    · rename_i a b ha hb
      obtain ⟨hlen, h⟩ := h
      cases h
      by_cases hd : a.D = b.D
      · refine ⟨_, _, .cons (.op ha) (.cons (.op hb) .nil), .eq (congrArg AV.bool ?_), .of_eq (f14 a b) (Tree.out_asrt.2 ⟨hlen, (Tree.out_ite_false (by simp [hd])).2 rfl⟩)⟩
        rw [← sameOp_iff, decide_eq_true hd, Bool.true_and]
      · refine ⟨_, _, .cons (.op ha) (.cons (.op hb) .nil), .blit ?_, .of_eq (f14 a b) (Tree.out_asrt.2 ⟨hlen, (Tree.out_ite_true (by simp [hd])).2 rfl⟩)⟩
        rw [← sameOp_iff, decide_eq_false hd, Bool.false_and]
    · exact h.elim
  · exact h.elim
noncomputable def w10 : Cfg := w9.addQuiet 14 conSame
theorem w10_good : GoodCfg w10 := w9_good.addQuiet con14_valid conSame_quiet

/-! ### fuseeref16.Same -/
theorem f12 (a b : Fu.Op) : callC w9 100 12 [opAV a, opAV b] =
    .asrt ((a.D.length : Int) < 9223372036854775807) (.ret (.bool (decide (a.D = b.D) && sameOp a b), [])) := by kernel_rfl
theorem con12_valid : ValidCon w9.P 12 conSame := by
  refine con_of (n := 100) w9_good (by kernel_rfl) fun args r h => ?_
  unfold conSame at h
  split at h
  · split at h
    · rename_i a b ha hb
      obtain ⟨hlen, h⟩ := h
      cases h
      exact ⟨_, _, .cons (.op ha) (.cons (.op hb) .nil), .eq (congrArg AV.bool (sameOp_iff a b)), .of_eq (f12 a b) (Tree.out_asrt.2 ⟨hlen, rfl⟩)⟩
    · exact h.elim
  · exact h.elim
noncomputable def w11 : Cfg := w10.addQuiet 12 conSame
theorem w11_good : GoodCfg w11 := w10_good.addQuiet con12_valid conSame_quiet

end Go.Fx
