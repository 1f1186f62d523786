import Derived.Test.YtdpcphkhkhdbnaaB38
/- How worlds are opened. -/
namespace Go.Fx
open Go Go.Proofs

theorem oU64 : Opens Try.prog 35 fun zs => ∃ n, zs = [.int .u64 n] ∧ (Lit.int .u64 n).wf = true := Opens.int Try.underlying35
theorem oRing : Opens Try.prog 37 fun zs => ∃ r : Fu.Ring, zs = encRing r :=
  (Opens.struct Try.underlying37 (.cons oInt (by kernel_rfl) (.cons oU64 (by kernel_rfl) (.nil _))) (by kernel_rfl)).mono fun zs h => by
    obtain ⟨_, _, rfl, ⟨a, rfl, _⟩, _, _, rfl, ⟨b, rfl, _⟩, rfl⟩ := h
    exact ⟨⟨a, b⟩, rfl⟩
theorem oTask : Opens Try.prog 39 fun zs => ∃ t : Fu.Task, zs = encTask t :=
  (Opens.struct Try.underlying39 (.cons oInt (by kernel_rfl) (.cons oSpec (by kernel_rfl) (.cons oInt (by kernel_rfl) (.cons oInt (by kernel_rfl) (.cons oInt (by kernel_rfl) (.cons oInt (by kernel_rfl) (.cons oJob (by kernel_rfl) (.cons oRing (by kernel_rfl) (.cons oBool (by kernel_rfl) (.nil _)))))))))) (by kernel_rfl)).mono fun zs h => by
    obtain ⟨_, _, rfl, ⟨a, rfl, _⟩, _, _, rfl, ⟨s, rfl⟩, _, _, rfl, ⟨b, rfl, _⟩, _, _, rfl, ⟨c, rfl, _⟩, _, _, rfl, ⟨d, rfl, _⟩, _, _, rfl, ⟨e, rfl, _⟩, _, _, rfl, ⟨j, rfl⟩, _, _, rfl, ⟨r, rfl⟩, _, _, rfl, ⟨k, rfl⟩, rfl⟩ := h
    exact ⟨⟨a, s, b, c, d, e, j, r, k⟩, rfl⟩
theorem oTasks : Opens Try.prog 22 fun zs => ∃ xs : List Fu.Task, zs = [.view .task xs] ∧ (xs.length : Int) * 176 ≤ 140737488355328 :=
  (Opens.slice .task (ok := fun _ => True) Try.underlying22 oTask (fun zs ⟨n, h⟩ => ⟨n, h, trivial⟩) (by kernel_rfl) (by decide)).mono fun zs ⟨xs, h1, h2, _⟩ => ⟨xs, h1, by
    have e : Try.prog.bytesOf 39 = 176 := by kernel_rfl
    rw [e] at h2
    unfold reachBytes at h2
    omega⟩
theorem oApe : Opens Try.prog 63 fun zs => ∃ a : Fu.Ape, zs = encApe a :=
  (Opens.struct Try.underlying63 (.cons oInt (by kernel_rfl) (.cons oInt (by kernel_rfl) (.cons oInt (by kernel_rfl) (.cons oInt (by kernel_rfl) (.cons oInt (by kernel_rfl) (.nil _)))))) (by kernel_rfl)).mono fun zs h => by
    obtain ⟨_, _, rfl, ⟨a, rfl, _⟩, _, _, rfl, ⟨b, rfl, _⟩, _, _, rfl, ⟨c, rfl, _⟩, _, _, rfl, ⟨d, rfl, _⟩, _, _, rfl, ⟨e, rfl, _⟩, rfl⟩ := h
    exact ⟨⟨a, b, c, d, e⟩, rfl⟩
theorem oApes : Opens Try.prog 23 fun zs => ∃ xs : List Fu.Ape, zs = [.view .ape xs] ∧ (xs.length : Int) * 40 ≤ 140737488355328 :=
  (Opens.slice .ape (ok := fun _ => True) Try.underlying23 oApe (fun zs ⟨n, h⟩ => ⟨n, h, trivial⟩) (by kernel_rfl) (by decide)).mono fun zs ⟨xs, h1, h2, _⟩ => ⟨xs, h1, by
    have e : Try.prog.bytesOf 63 = 40 := by kernel_rfl
    rw [e] at h2
    unfold reachBytes at h2
    omega⟩
theorem oWorld : Opens Try.prog 25 fun zs => ∃ w : Fu.World, zs = encW w ∧ smallW w ∧ wf64 w.Now :=
  (Opens.struct Try.underlying25 (.cons oInt (by kernel_rfl) (.cons oTasks (by kernel_rfl) (.cons oApes (by kernel_rfl) (.cons oInt (by kernel_rfl) (.nil _))))) (by kernel_rfl)).mono fun zs h => by
    obtain ⟨_, _, rfl, ⟨a, rfl, ha⟩, _, _, rfl, ⟨T, rfl, hT⟩, _, _, rfl, ⟨A, rfl, hA⟩, _, _, rfl, ⟨c, rfl, _⟩, rfl⟩ := h
    exact ⟨⟨a, T, A, c⟩, rfl, ⟨hT, hA⟩, ha⟩
end Go.Fx
