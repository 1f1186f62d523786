import Derived.Test.YtneflbpekennkaaGreatB38
/- How worlds are opened. -/
namespace Go.Fx
open Go Go.Proofs

theorem oU64 : Opens Tryz.prog 43 fun zs => ∃ n, zs = [.int .u64 n] ∧ (Lit.int .u64 n).wf = true := Opens.int Tryz.underlying43
theorem oRing : Opens Tryz.prog 45 fun zs => ∃ r : Fu.Ring, zs = encRing r :=
  (Opens.struct Tryz.underlying45 (.cons oInt (by kernel_rfl) (.cons oU64 (by kernel_rfl) (.nil _))) (by kernel_rfl)).mono fun zs h => by
    obtain ⟨_, _, rfl, ⟨a, rfl, _⟩, _, _, rfl, ⟨b, rfl, _⟩, rfl⟩ := h
    exact ⟨⟨a, b⟩, rfl⟩
theorem oTask : Opens Tryz.prog 47 fun zs => ∃ t : Fu.Task, zs = encTask t :=
  (Opens.struct Tryz.underlying47 (.cons oInt (by kernel_rfl) (.cons oSpec (by kernel_rfl) (.cons oInt (by kernel_rfl) (.cons oInt (by kernel_rfl) (.cons oInt (by kernel_rfl) (.cons oInt (by kernel_rfl) (.cons oJob (by kernel_rfl) (.cons oRing (by kernel_rfl) (.cons oBool (by kernel_rfl) (.nil _)))))))))) (by kernel_rfl)).mono fun zs h => by
    obtain ⟨_, _, rfl, ⟨a, rfl, _⟩, _, _, rfl, ⟨s, rfl⟩, _, _, rfl, ⟨b, rfl, _⟩, _, _, rfl, ⟨c, rfl, _⟩, _, _, rfl, ⟨d, rfl, _⟩, _, _, rfl, ⟨e, rfl, _⟩, _, _, rfl, ⟨j, rfl⟩, _, _, rfl, ⟨r, rfl⟩, _, _, rfl, ⟨k, rfl⟩, rfl⟩ := h
    exact ⟨⟨a, s, b, c, d, e, j, r, k⟩, rfl⟩
theorem oTasks : Opens Tryz.prog 22 fun zs => ∃ xs : List Fu.Task, zs = [.view .task xs] ∧ (xs.length : Int) * 176 ≤ 140737488355328 :=
  (Opens.slice .task (ok := fun _ => True) Tryz.underlying22 oTask (fun zs ⟨n, h⟩ => ⟨n, h, trivial⟩) (by kernel_rfl) (by decide)).mono fun zs ⟨xs, h1, h2, _⟩ => ⟨xs, h1, by
    have e : Tryz.prog.bytesOf 47 = 176 := by kernel_rfl
    rw [e] at h2
    unfold reachBytes at h2
    omega⟩
theorem oApe : Opens Tryz.prog 49 fun zs => ∃ a : Fu.Ape, zs = encApe a :=
  (Opens.struct Tryz.underlying49 (.cons oInt (by kernel_rfl) (.cons oInt (by kernel_rfl) (.cons oInt (by kernel_rfl) (.cons oInt (by kernel_rfl) (.cons oInt (by kernel_rfl) (.nil _)))))) (by kernel_rfl)).mono fun zs h => by
    obtain ⟨_, _, rfl, ⟨a, rfl, _⟩, _, _, rfl, ⟨b, rfl, _⟩, _, _, rfl, ⟨c, rfl, _⟩, _, _, rfl, ⟨d, rfl, _⟩, _, _, rfl, ⟨e, rfl, _⟩, rfl⟩ := h
    exact ⟨⟨a, b, c, d, e⟩, rfl⟩
theorem oApes : Opens Tryz.prog 23 fun zs => ∃ xs : List Fu.Ape, zs = [.view .ape xs] ∧ (xs.length : Int) * 40 ≤ 140737488355328 :=
  (Opens.slice .ape (ok := fun _ => True) Tryz.underlying23 oApe (fun zs ⟨n, h⟩ => ⟨n, h, trivial⟩) (by kernel_rfl) (by decide)).mono fun zs ⟨xs, h1, h2, _⟩ => ⟨xs, h1, by
    have e : Tryz.prog.bytesOf 49 = 40 := by kernel_rfl
    rw [e] at h2
    unfold reachBytes at h2
    omega⟩
theorem oWorld : Opens Tryz.prog 25 fun zs => ∃ w : Fu.World, zs = encW w ∧ smallW w ∧ wf64 w.Now :=
  (Opens.struct Tryz.underlying25 (.cons oInt (by kernel_rfl) (.cons oTasks (by kernel_rfl) (.cons oApes (by kernel_rfl) (.cons oInt (by kernel_rfl) (.nil _))))) (by kernel_rfl)).mono fun zs h => by
    obtain ⟨_, _, rfl, ⟨a, rfl, ha⟩, _, _, rfl, ⟨T, rfl, hT⟩, _, _, rfl, ⟨A, rfl, hA⟩, _, _, rfl, ⟨c, rfl, _⟩, rfl⟩ := h
    exact ⟨⟨a, T, A, c⟩, rfl, ⟨hT, hA⟩, ha⟩
end Go.Fx
