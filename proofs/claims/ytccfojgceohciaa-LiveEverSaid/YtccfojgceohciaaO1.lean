import Derived.Test.YtccfojgceohciaaV1
/- How arguments are opened. -/
namespace Go.Fx
open Go Go.Proofs

theorem oInt : Opens Try.prog 3 fun zs => ∃ n, zs = [.int .i64 n] ∧ wf64 n := (Opens.int Try.underlying3).mono fun _ ⟨n, h1, h2⟩ => ⟨n, h1, bounds_i64 h2⟩
theorem oBool : Opens Try.prog 4 fun zs => ∃ b, zs = [.bool b] := Opens.bool Try.underlying4
theorem oInts : Opens Try.prog 33 fun zs => ∃ xs : List Int, zs = [.view (.int .i64) xs] ∧ (xs.length : Int) < 17592186044416 ∧ ∀ x ∈ xs, wf64 x :=
  (Opens.slice (.int .i64) (ok := fun n : Int => wf64 n) Try.underlying33 oInt (fun zs ⟨n, h, h'⟩ => ⟨n, h, h'⟩) (by kernel_rfl) (by decide)).mono fun zs ⟨xs, h1, h2, h3⟩ => ⟨xs, h1, by
    have e : Try.prog.bytesOf 3 = 8 := by kernel_rfl
    rw [e] at h2
    unfold reachBytes at h2
    omega, h3⟩
theorem oSpec : Opens Try.prog 37 fun zs => ∃ s : Fu.Spec, zs = encSpec s :=
  (Opens.struct Try.underlying37 (.cons oInt (by kernel_rfl) (.cons oInt (by kernel_rfl) (.cons oInt (by kernel_rfl) (.cons oInt (by kernel_rfl) (.cons oInt (by kernel_rfl) (.cons oInt (by kernel_rfl) (.nil _))))))) (by kernel_rfl)).mono fun zs h => by
    obtain ⟨_, _, rfl, ⟨a, rfl, _⟩, _, _, rfl, ⟨b, rfl, _⟩, _, _, rfl, ⟨c, rfl, _⟩, _, _, rfl, ⟨d, rfl, _⟩, _, _, rfl, ⟨e, rfl, _⟩, _, _, rfl, ⟨f, rfl, _⟩, rfl⟩ := h
    exact ⟨⟨a, b, c, d, e, f⟩, rfl⟩
theorem oJob : Opens Try.prog 35 fun zs => ∃ j : Fu.Job, zs = encJob j :=
  (Opens.struct Try.underlying35 (.cons oBool (by kernel_rfl) (.cons oInt (by kernel_rfl) (.cons oInt (by kernel_rfl) (.cons oInt (by kernel_rfl) (.cons oBool (by kernel_rfl) (.cons oInt (by kernel_rfl) (.cons oInt (by kernel_rfl) (.cons oInt (by kernel_rfl) (.nil _))))))))) (by kernel_rfl)).mono fun zs h => by
    obtain ⟨_, _, rfl, ⟨a, rfl⟩, _, _, rfl, ⟨b, rfl, _⟩, _, _, rfl, ⟨c, rfl, _⟩, _, _, rfl, ⟨d, rfl, _⟩, _, _, rfl, ⟨e, rfl⟩, _, _, rfl, ⟨f, rfl, _⟩, _, _, rfl, ⟨g, rfl, _⟩, _, _, rfl, ⟨h, rfl, _⟩, rfl⟩ := h
    exact ⟨⟨a, b, c, d, e, f, g, h⟩, rfl⟩
theorem oLive : Opens Try.prog 39 fun zs => ∃ x : Fu.Live, zs = encLive x :=
  (Opens.struct Try.underlying39 (.cons oSpec (by kernel_rfl) (.cons oJob (by kernel_rfl) (.cons oInt (by kernel_rfl) (.cons oInt (by kernel_rfl) (.cons oInt (by kernel_rfl) (.nil _)))))) (by kernel_rfl)).mono fun zs h => by
    obtain ⟨_, _, rfl, ⟨s, rfl⟩, _, _, rfl, ⟨j, rfl⟩, _, _, rfl, ⟨a, rfl, _⟩, _, _, rfl, ⟨b, rfl, _⟩, _, _, rfl, ⟨c, rfl, _⟩, rfl⟩ := h
    exact ⟨⟨s, j, a, b, c⟩, rfl⟩
theorem oLives : Opens Try.prog 22 fun zs => ∃ xs : List Fu.Live, zs = [.view .live xs] ∧ (xs.length : Int) * 128 ≤ 140737488351232 :=
  (Opens.slice .live (ok := fun _ => True) Try.underlying22 oLive (fun zs ⟨n, h⟩ => ⟨n, h, trivial⟩) (by kernel_rfl) (by decide)).mono fun zs ⟨xs, h1, h2, _⟩ => ⟨xs, h1, by
    have e : Try.prog.bytesOf 39 = 136 := by kernel_rfl
    rw [e] at h2
    unfold reachBytes at h2
    omega⟩

end Go.Fx
