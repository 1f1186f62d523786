/- The wire seat's functions: the chapter's example. -/
import Derived.Test.YtinlnjoapcpmaaaW13
namespace Go.Fx
open Go Go.Proofs

def o258 : Fu.Op := ⟨2, 258, ⟨0, 0, 0, 0, 0, 0⟩, 0, 0, 0, 0, 0, []⟩
def noT : Tree (AV × List Blk) := .ret (.blit false, [])
noncomputable def junk8 (path : List Nat) : Tree (AV × List Blk) := nav0 path (callC w32 100 8 [])
theorem f8 : callC w32 100 8 [] =
    .asrt ((o258.D.length : Int) < 9223372036854775807) (.ite (mayOp o258)
      (.asrt (bytesOK (putB o258) ∧ ((putB o258).length : Int) < 17592186044416) (.ite (asks (putB o258))
        (.ite ((cand (putB o258)).Kind == 4) (junk8 [0, 1, 0, 1, 1])
          (.asrt (((putB o258).length : Int) < 9223372036854775807) (.ite (decide (putB o258 = [2, 1, 2])) (.ite ((cand (putB o258)).ID == 258)
            (.asrt ((({ cand (putB o258) with D := [] } : Fu.Op).D.length : Int) < 9223372036854775807) (.ret (.bool (mayOp { cand (putB o258) with D := [] }), [])))
            noT) noT))) noT)) (junk8 [0, 2])) := by kernel_rfl
def con8 : Con
  | [] => .ret (.blit true, [])
  | _ => .fail
theorem con8_valid : ValidCon w32.P 8 con8 := by
  refine con_of (n := 100) w32_good (by kernel_rfl) fun args r h => ?_
  unfold con8 at h
  split at h
  · cases h
    refine ⟨[], .bool true, .nil, .boolLit rfl, .of_eq f8 ?_⟩
    have e1 : putB o258 = [2, 1, 2] := by decide +kernel
    have e2 : cand (putB o258) = o258 := by rw [e1]; rfl
    have e3 : mayOp o258 = true := by decide +kernel
    have e4 : asks (putB o258) = true := by unfold asks; rw [e2, e3, e1]; rfl
    have e5 : bytesOK (putB o258) := by rw [e1]; intro x hx; simp at hx; omega
    have e6 : ({ cand (putB o258) with D := [] } : Fu.Op) = o258 := by rw [e2]; rfl
    refine Tree.out_asrt.2 ⟨by decide, (Tree.out_ite_true e3).2 (Tree.out_asrt.2 ⟨⟨e5, by rw [e1]; decide⟩, (Tree.out_ite_true e4).2 ((Tree.out_ite_false (by rw [e2]; decide)).2 (Tree.out_asrt.2 ⟨by rw [e1]; decide, (Tree.out_ite_true (by rw [e1]; rfl)).2 ((Tree.out_ite_true (by rw [e2]; rfl)).2 (Tree.out_asrt.2 ⟨by decide, ?_⟩))⟩))⟩)⟩
    rw [e6, e3]
    rfl
  · exact h.elim
theorem con8_quiet : noBlks con8 := by
  intro args r h
  unfold con8 at h
  split at h
  · cases h; rfl
  · exact h.elim
noncomputable def w33 : Cfg := w32.addQuiet 8 con8
theorem w33_good : GoodCfg w33 := w32_good.addQuiet con8_valid con8_quiet

end Go.Fx
