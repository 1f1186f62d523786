/- Contracts: copies of slices. -/
import Derived.Test.YtccfojgceohciaaB7
import Derived.Test.YtccfojgceohciaaFxCl
namespace Go.Fx
open Go Go.Proofs

noncomputable def bCl : Code := bodyOf c33.P 38
theorem bCl_eq : bCl = clB bCl := by kernel_rfl
def boundL (xs : List Fu.Live) : Prop := (xs.length : Int) * 136 ≤ 140737488355328
theorem cl_h0 (xs : List Fu.Live) : exec c33 30 38 (Code.region 0 (clO0 bCl) false) ⟨cl0 .live xs, [], 0⟩ = .ret (.normal, ⟨cl1 .live xs, [], 0⟩) := by kernel_rfl
theorem cl_h2 (xs : List Fu.Live) : exec c33 30 38 ((Code.region 2 (clO2 bCl) false).seq .ret) ⟨cl2 .live xs true, [], 0⟩ = .ret (.ret, ⟨cl2 .live xs true, [], 0⟩) := by kernel_rfl
theorem cl_h3 (xs : List Fu.Live) : roundN c33 30 38 ((Code.region 3 (clO3 bCl) false).seq .ret) (norm2 0 [] [] []) (norm2 0 [.tmp 2] [0] (sets (Js 8) [(2, .keep)])) ⟨cl2 .live xs false, [], 0⟩ = .asrt (([] ++ xs).length * 136 ≤ 140737488355328) (.ret (.ret, clEnd .live 39 xs)) := by kernel_rfl
theorem cl_weak (xs : List Fu.Live) (h : xs = []) : Weak 0 ⟨cl2 .live xs true, [], 0⟩ (clEnd .live 39 xs) := by
  subst h
  exact (Weak.ownSlot 0 2 .live 39 ⟨cl2 .live [] true, [], 0⟩).trans (Weak.gens 0 (sets (Js 8) [(2, .keep)]) _)
theorem clRun_sound : SoundRun c33 (cloneRun 38 bCl .live 39 boundL) := by
  have := cloneRun_sound c33_good (g := 38) (n := 30) (o0 := clO0 bCl) (m := opNo (clO1 bCl) 0) (q := opNo (clO1 bCl) 1) (o2 := clO2 bCl) (o3 := clO3 bCl) (r := .live) (e := 39) (bound := boundL) (t' := 22)
    (by kernel_rfl) (by kernel_rfl) (by kernel_rfl) (by kernel_rfl) (by kernel_rfl) (by kernel_rfl) (by kernel_rfl : c33.P.underlying 22 = some (.slice 39))
    (fun xs => .of_eq (cl_h0 xs) rfl) (fun xs => ⟨_, .of_eq (cl_h2 xs) rfl, cl_weak xs⟩) (fun xs hb => ?_)
  · rw [← show bCl = cloneBody (clO0 bCl) (opNo (clO1 bCl) 0) (opNo (clO1 bCl) 1) (clO2 bCl) (clO3 bCl) from bCl_eq] at this
    exact this
  · exact round_ret (Weak.norm2 0 [.tmp 2] [0] (sets (Js 8) [(2, .keep)])) (cl_h3 xs) (by unfold boundL at hb; simp only [List.nil_append]; omega)
theorem cl_tree (xs : List Fu.Live) : callR c33 (cloneRun 38 bCl .live 39 boundL) 38 [.view .live xs] =
  .asrt (38 = 38 ∧ bCl = bCl ∧ (⟨cl0 .live xs, [], 0⟩ : St) = ⟨cl0 .live xs, [], 0⟩ ∧ boundL xs) (.ret (.own 0, [.rows .live 39 xs])) := by kernel_rfl
def conClone : Con := resCon (d1 (dView .live)) boundL fun xs => (.own 0, [.rows .live 39 xs])
theorem conClone_valid : ValidCon c33.P 38 conClone := clone_valid clRun_sound (by kernel_rfl) fun xs h => .of_eq (cl_tree xs) ⟨⟨rfl, rfl, rfl, h⟩, rfl⟩
noncomputable def c34 : Cfg := c33.addCon 38 conClone
theorem c34_good : GoodCfg c34 := c33_good.addCon conClone_valid (by kernel_rfl)

end Go.Fx
