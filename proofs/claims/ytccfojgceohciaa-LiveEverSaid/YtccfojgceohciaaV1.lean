import Derived.Test.YtccfojgceohciaaC2
/- The live seat: the chapter's example. -/
namespace Go.Fx
open Go Go.Proofs

noncomputable def cO1 : Cfg := cPre.addCon 13 conLStep
theorem cO1_good : GoodCfg cO1 := cPre_good.addCon conLStep_valid (by kernel_rfl)
noncomputable def cO2 : Cfg := cO1.addQuiet 15 conLook
theorem cO2_good : GoodCfg cO2 := cO1_good.addQuiet conLook_valid flatCon_quiet
def x0 : Fu.Live := ⟨⟨2, 10, 20, 1, 2, 3⟩, zeroJ, 10, 0, 0⟩
def l0 : List Fu.Live := [x0]
def l1 : List Fu.Live := stepL l0 0
def upB : Bool := mayL l0 0 && (idleL l0 && (!missedL l0 0 && (firstL l1 == 0 && ((rd .live l1 0).J.Ran == 1 && ((rd .live l1 0).At == 10 && ((lookL l0 0).2 && ((lookL l0 0).1 == 0 && ((lookL l1 1).2 && (lookL l1 1).1 == 2))))))))
def pre0 (t : Tree (AV × List Blk)) : Tree (AV × List Blk) :=
  .asrt (okSt (l0, 0)) (.asrt (smallL l0) (.asrt (smallL l1) (.asrt (smallL l0) (.asrt (mayL l0 0 = true → okF l0) (.asrt (mayL l0 0 = true → idleL l0 = true → (!missedL l0 0) = true → okF l1)
    (.asrt (mayL l0 0 = true → idleL l0 = true → (!missedL l0 0) = true → (firstL l1 == 0) = true → 0 ≤ (0 : Int) ∧ 0 < (l1.length : Int)) (.asrt (mayL l0 0 = true → idleL l0 = true → (!missedL l0 0) = true → (firstL l1 == 0) = true → 0 ≤ (0 : Int) ∧ 0 < (l1.length : Int))
    (.asrt (mayL l0 0 = true → idleL l0 = true → (!missedL l0 0) = true → (firstL l1 == 0) = true → ((rd .live l1 0).J.Ran == 1) = true → 0 ≤ (0 : Int) ∧ 0 < (l1.length : Int)) (.asrt (mayL l0 0 = true → idleL l0 = true → (!missedL l0 0) = true → (firstL l1 == 0) = true → ((rd .live l1 0).J.Ran == 1) = true → 0 ≤ (0 : Int) ∧ 0 < (l1.length : Int)) t)))))))))
theorem fAwake : callC cO2 60 11 [] = pre0 (.ret (.bool upB, [])) := by kernel_rfl
def conTrue : Con
  | [] => .ret (.blit true, [])
  | _ => .fail
theorem conTrue_quiet : noBlks conTrue := by
  intro args r h
  unfold conTrue at h
  split at h
  · cases h; rfl
  · exact h.elim
theorem conAwake_valid : ValidCon c43.P 11 conTrue := by
  refine con_of (C := cO2) (n := 60) cO2_good (by kernel_rfl) fun args r h => ?_
  unfold conTrue at h
  split at h
  · cases h
    have e1 : upB = true := by decide +kernel
    have e2 : l1.length = 1 := by decide +kernel
    have hm : mayL l0 0 = true := by decide +kernel
    obtain ⟨hA, _, _⟩ := mayL_all hm
    have hA1 : AllI (549755813888 + 1) l1 (0 + 1) := step_all hA (by omega) (by omega) (by omega)
    refine ⟨[], .bool true, .nil, .boolLit rfl, .of_eq fAwake ?_⟩
    rw [e1]
    exact ⟨okSt_of hA (by omega) (by omega) (by omega), by unfold smallL l0; simp, by unfold smallL; omega, by unfold smallL l0; simp, fun _ => okF_of hA, fun _ _ _ => okF_of hA1, fun _ _ _ _ => by omega, fun _ _ _ _ => by omega, fun _ _ _ _ _ => by omega, fun _ _ _ _ _ => by omega, rfl⟩
  · exact h.elim
noncomputable def c44 : Cfg := c43.addQuiet 11 conTrue
theorem c44_good : GoodCfg c44 := c43_good.addQuiet conAwake_valid conTrue_quiet

end Go.Fx
