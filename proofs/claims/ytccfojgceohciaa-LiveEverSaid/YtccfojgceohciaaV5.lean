import Derived.Test.YtccfojgceohciaaV4
import Derived.Test.YtccfojgceohciaaPlG
/- The law LiveLess. -/
namespace Go.Fx
open Go Go.Proofs

def headL (l : List Fu.Live) (i : Int) : List Fu.Live := [] ++ (l.take i.toNat).drop (0 : Int).toNat
def cutL (l : List Fu.Live) (i : Int) : List Fu.Live := headL l i ++ (l.take (l.length : Int).toNat).drop (IntKind.i64.wrap (i + 1)).toNat
def lessT (l : List Fu.Live) (now i : Int) : Tree (AV × List Blk) :=
  .asrt (smallL l) (.ite (!mayL l now || (decide (i < 0) || decide (i ≥ l.length))) (.ret (.blit true, [])) (.asrt (smallL l) (.asrt (0 ≤ (0 : Int) ∧ (0 : Int) ≤ i ∧ i ≤ l.length) (.asrt ((headL l i).length * 136 ≤ 140737488355328)
    (.asrt (0 ≤ IntKind.i64.wrap (i + 1) ∧ IntKind.i64.wrap (i + 1) ≤ l.length ∧ (l.length : Int) ≤ l.length) (.asrt ((cutL l i).length * 136 ≤ 140737488355328) (.asrt (smallL (cutL l i))
      (.ret (.bool (!(lookL l now).2 || ((lookL (cutL l i) now).2 && (decide ((lookL (cutL l i) now).1 ≤ (lookL l now).1) && decide ((lookL (cutL l i) now).1 ≥ now)))), [])))))))))
theorem fLess (l : List Fu.Live) (now i : Int) : callC c49 60 5 [.view .live l, .int .i64 now, .int .i64 i] = lessT l now i := by kernel_rfl
theorem cutL_sub {l : List Fu.Live} {i : Int} (h0 : 0 ≤ i) (h1 : i < l.length) (h2 : (l.length : Int) < 17592186044416) : List.Sublist (cutL l i) l := by
  unfold cutL headL
  rw [wrap_fits (by omega) (by omega), show (l.length : Int).toNat = l.length by omega, show (0 : Int).toNat = 0 by rfl, List.take_length, List.drop_zero, List.nil_append]
  have e : l = l.take i.toNat ++ l.drop i.toNat := (List.take_append_drop _ _).symm
  conv => rhs; rw [e]
  refine List.Sublist.append_left ?_ _
  have e2 : l.drop (i + 1).toNat = (l.drop i.toNat).drop 1 := by rw [List.drop_drop]; congr 1; omega
  rw [e2]
  exact List.drop_sublist _ _
theorem lessT_tru {l : List Fu.Live} {now i : Int} (h : smallL l) : Tru (lessT l now i) := by
  refine .asrt h (.ite (fun _ => .yes) fun hm => ?_)
  simp only [Bool.or_eq_false_iff, decide_eq_false_iff_not, Bool.not_eq_false'] at hm
  obtain ⟨hmay, h0, h1⟩ := hm
  obtain ⟨hA, _, _⟩ := mayL_all hmay
  have hlen := hA.1
  have hi0 : 0 ≤ i := by omega
  have hi1 : i < (l.length : Int) := by omega
  have hs := cutL_sub hi0 hi1 (by omega)
  have hl := hs.length_le
  have hh : (headL l i).length ≤ (cutL l i).length := by unfold cutL; rw [List.length_append]; omega
  refine .asrt h (.asrt ⟨by omega, hi0, by omega⟩ (.asrt (by omega) (.asrt ?_ (.asrt (by omega) (.asrt (by unfold smallL; omega) (.of ?_))))))
  · rw [wrap_fits (by omega) (by omega)]; omega
  · cases hk : (lookL l now).2 with
    | false => rfl
    | true =>
      obtain ⟨m, k1, k2, k3⟩ := look_less (n := (lookL l now).1) hs (by rw [← hk])
      rw [k1]
      simp only [Bool.not_true, Bool.false_or, Bool.true_and, Bool.and_eq_true, decide_eq_true_eq]
      omega
/-- Arguments: tasks, and two numbers. -/
def good3L (args : List AV) : Prop := ∃ (l : List Fu.Live) (now i : Int), args = [.view .live l, .int .i64 now, .int .i64 i] ∧ (l.length : Int) * 128 ≤ 140737488351232 ∧ wf64 now ∧ wf64 i
theorem conLess_valid : ValidCon c49.P 5 (lawCon good3L) := lawCon_of (n := 60) c49_good (by kernel_rfl) fun args ⟨l, now, i, h1, h2, _⟩ => by
  subst h1
  exact ⟨_, fLess l now i, lessT_tru (smallL_of h2)⟩

end Go.Fx
