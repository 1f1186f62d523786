import Derived.Test.YtneflbpekennkaaGreatB26
/- Contracts: copies of slices of tasks, and of jobs that came once. -/
namespace Go.Fx
open Go Go.Proofs

noncomputable def bClT : Code := bodyOf c64.P 27
theorem bCl_eqT : bClT = clB bClT := by kernel_rfl
def boundLT (xs : List Fu.Task) : Prop := (xs.length : Int) * 176 ≤ 140737488355328
theorem cl_h0T (xs : List Fu.Task) : exec c64 30 27 (Code.region 0 (clO0 bClT) false) ⟨cl0 .task xs, [], 0⟩ = .ret (.normal, ⟨cl1 .task xs, [], 0⟩) := by kernel_rfl
theorem cl_h2T (xs : List Fu.Task) : exec c64 30 27 ((Code.region 2 (clO2 bClT) false).seq .ret) ⟨cl2 .task xs true, [], 0⟩ = .ret (.ret, ⟨cl2 .task xs true, [], 0⟩) := by kernel_rfl
theorem cl_h3T (xs : List Fu.Task) : roundN c64 30 27 ((Code.region 3 (clO3 bClT) false).seq .ret) (norm2 0 [] [] []) (norm2 0 [.tmp 2] [0] (sets (Js 8) [(2, .keep)])) ⟨cl2 .task xs false, [], 0⟩ = .asrt (([] ++ xs).length * 176 ≤ 140737488355328) (.ret (.ret, clEnd .task 47 xs)) := by kernel_rfl
theorem cl_weakT (xs : List Fu.Task) (h : xs = []) : Weak 0 ⟨cl2 .task xs true, [], 0⟩ (clEnd .task 47 xs) := by
  subst h
  exact (Weak.ownSlot 0 2 .task 47 ⟨cl2 .task [] true, [], 0⟩).trans (Weak.gens 0 (sets (Js 8) [(2, .keep)]) _)
theorem clRun_soundT : SoundRun c64 (cloneRun 27 bClT .task 47 boundLT) := by
  have := cloneRun_sound c64_good (g := 27) (n := 30) (o0 := clO0 bClT) (m := opNo (clO1 bClT) 0) (q := opNo (clO1 bClT) 1) (o2 := clO2 bClT) (o3 := clO3 bClT) (r := .task) (e := 47) (bound := boundLT) (t' := 22)
    (by kernel_rfl) (by kernel_rfl) (by kernel_rfl) (by kernel_rfl) (by kernel_rfl) (by kernel_rfl) (by kernel_rfl : c64.P.underlying 22 = some (.slice 47))
    (fun xs => .of_eq (cl_h0T xs) rfl) (fun xs => ⟨_, .of_eq (cl_h2T xs) rfl, cl_weakT xs⟩) (fun xs hb => ?_)
  · rw [← show bClT = cloneBody (clO0 bClT) (opNo (clO1 bClT) 0) (opNo (clO1 bClT) 1) (clO2 bClT) (clO3 bClT) from bCl_eqT] at this
    exact this
  · exact round_ret (Weak.norm2 0 [.tmp 2] [0] (sets (Js 8) [(2, .keep)])) (cl_h3T xs) (by unfold boundLT at hb; simp only [List.nil_append]; omega)
theorem cl_treeT (xs : List Fu.Task) : callR c64 (cloneRun 27 bClT .task 47 boundLT) 27 [.view .task xs] =
  .asrt (27 = 27 ∧ bClT = bClT ∧ (⟨cl0 .task xs, [], 0⟩ : St) = ⟨cl0 .task xs, [], 0⟩ ∧ boundLT xs) (.ret (.own 0, [.rows .task 47 xs])) := by kernel_rfl
def conCloneT : Con := resCon (d1 (dView .task)) boundLT fun xs => (.own 0, [.rows .task 47 xs])
theorem conClone_validT : ValidCon c64.P 27 conCloneT := clone_valid clRun_soundT (by kernel_rfl) fun xs h => .of_eq (cl_treeT xs) ⟨⟨rfl, rfl, rfl, h⟩, rfl⟩
noncomputable def c65 : Cfg := c64.addCon 27 conCloneT
theorem c65_good : GoodCfg c65 := c64_good.addCon conClone_validT (by kernel_rfl)

noncomputable def bClA : Code := bodyOf c65.P 28
theorem bCl_eqA : bClA = clB bClA := by kernel_rfl
def boundLA (xs : List Fu.Ape) : Prop := (xs.length : Int) * 40 ≤ 140737488355328
theorem cl_h0A (xs : List Fu.Ape) : exec c65 30 28 (Code.region 0 (clO0 bClA) false) ⟨cl0 .ape xs, [], 0⟩ = .ret (.normal, ⟨cl1 .ape xs, [], 0⟩) := by kernel_rfl
theorem cl_h2A (xs : List Fu.Ape) : exec c65 30 28 ((Code.region 2 (clO2 bClA) false).seq .ret) ⟨cl2 .ape xs true, [], 0⟩ = .ret (.ret, ⟨cl2 .ape xs true, [], 0⟩) := by kernel_rfl
theorem cl_h3A (xs : List Fu.Ape) : roundN c65 30 28 ((Code.region 3 (clO3 bClA) false).seq .ret) (norm2 0 [] [] []) (norm2 0 [.tmp 2] [0] (sets (Js 8) [(2, .keep)])) ⟨cl2 .ape xs false, [], 0⟩ = .asrt (([] ++ xs).length * 40 ≤ 140737488355328) (.ret (.ret, clEnd .ape 49 xs)) := by kernel_rfl
theorem cl_weakA (xs : List Fu.Ape) (h : xs = []) : Weak 0 ⟨cl2 .ape xs true, [], 0⟩ (clEnd .ape 49 xs) := by
  subst h
  exact (Weak.ownSlot 0 2 .ape 49 ⟨cl2 .ape [] true, [], 0⟩).trans (Weak.gens 0 (sets (Js 8) [(2, .keep)]) _)
theorem clRun_soundA : SoundRun c65 (cloneRun 28 bClA .ape 49 boundLA) := by
  have := cloneRun_sound c65_good (g := 28) (n := 30) (o0 := clO0 bClA) (m := opNo (clO1 bClA) 0) (q := opNo (clO1 bClA) 1) (o2 := clO2 bClA) (o3 := clO3 bClA) (r := .ape) (e := 49) (bound := boundLA) (t' := 23)
    (by kernel_rfl) (by kernel_rfl) (by kernel_rfl) (by kernel_rfl) (by kernel_rfl) (by kernel_rfl) (by kernel_rfl : c65.P.underlying 23 = some (.slice 49))
    (fun xs => .of_eq (cl_h0A xs) rfl) (fun xs => ⟨_, .of_eq (cl_h2A xs) rfl, cl_weakA xs⟩) (fun xs hb => ?_)
  · rw [← show bClA = cloneBody (clO0 bClA) (opNo (clO1 bClA) 0) (opNo (clO1 bClA) 1) (clO2 bClA) (clO3 bClA) from bCl_eqA] at this
    exact this
  · exact round_ret (Weak.norm2 0 [.tmp 2] [0] (sets (Js 8) [(2, .keep)])) (cl_h3A xs) (by unfold boundLA at hb; simp only [List.nil_append]; omega)
theorem cl_treeA (xs : List Fu.Ape) : callR c65 (cloneRun 28 bClA .ape 49 boundLA) 28 [.view .ape xs] =
  .asrt (28 = 28 ∧ bClA = bClA ∧ (⟨cl0 .ape xs, [], 0⟩ : St) = ⟨cl0 .ape xs, [], 0⟩ ∧ boundLA xs) (.ret (.own 0, [.rows .ape 49 xs])) := by kernel_rfl
def conCloneA : Con := resCon (d1 (dView .ape)) boundLA fun xs => (.own 0, [.rows .ape 49 xs])
theorem conClone_validA : ValidCon c65.P 28 conCloneA := clone_valid clRun_soundA (by kernel_rfl) fun xs h => .of_eq (cl_treeA xs) ⟨⟨rfl, rfl, rfl, h⟩, rfl⟩
noncomputable def c66 : Cfg := c65.addCon 28 conCloneA
theorem c66_good : GoodCfg c66 := c65_good.addCon conClone_validA (by kernel_rfl)



end Go.Fx
