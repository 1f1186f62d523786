/- The wire seat's functions: what bytes answer. -/
import Derived.Test.YtinlnjoapcpmaaaW6
namespace Go.Fx
open Go Go.Proofs

/-! ### wire.Answered -/
def noReply : Tree (AV × List Blk) := .ret (.tup [.agg [.lit .i64 0, .lit .i64 0], .blit false], [])
def tailOf (b : List Int) : List Int := (b.take (b.length : Int).toNat).drop (1 : Int).toNat
def errOf (b : List Int) : Int := IntKind.i64.wrap (rd (.int .u8) b 0)
theorem f19 (b : List Int) : callC w15 100 19 [.view (.int .u8) b] =
    .ite ((b.length : Int) != 7) noReply
      (.asrt (0 ≤ (0 : Int) ∧ (0 : Int) < b.length) (.asrt (0 ≤ (1 : Int) ∧ (1 : Int) ≤ b.length ∧ (b.length : Int) ≤ b.length) (.asrt (((tailOf b).length : Int) < 9223372036854775807)
        (.ite (!mayReply (errOf b) (getL 0 (tailOf b))) noReply (.ret (.tup [.agg [.int .i64 (errOf b), .int .i64 (getL 0 (tailOf b))], .blit true], [])))))) := by kernel_rfl
theorem tail_eq (b : List Int) : tailOf b = b.drop 1 := by simp [tailOf]
def con19 : Con
  | [x] => match x.asView (.int .u8) with
    | some b => .ite (decide (b.length = 7) && mayReply (errOf b) (getL 0 (b.drop 1)))
        (.ret (.tup [.agg [.int .i64 (errOf b), .int .i64 (getL 0 (b.drop 1))], .blit true], [])) noReply
    | none => .fail
  | _ => .fail
theorem con19_valid : ValidCon w15.P 19 con19 := by
  refine con_of (n := 100) w15_good (by kernel_rfl) fun args r h => ?_
  unfold con19 at h
  split at h
  · split at h
    · rename_i b hb
      refine ⟨_, r.1, .cons (.view hb) .nil, .refl _, .of_eq (f19 b) ?_⟩
      rw [tail_eq]
      by_cases hl : b.length = 7
      · refine (Tree.out_ite_false (by simp [hl])).2 (Tree.out_asrt.2 ⟨⟨by omega, by omega⟩, Tree.out_asrt.2 ⟨⟨by omega, by omega, by omega⟩, Tree.out_asrt.2 ⟨by simp; omega, ?_⟩⟩⟩)
        cases hm : mayReply (errOf b) (getL 0 (b.drop 1)) with
        | true =>
          rw [hm] at h
          have h' := (Tree.out_ite_true (by simp [hl])).1 h
          refine (Tree.out_ite_false rfl).2 ?_
          exact h'
        | false =>
          rw [hm] at h
          have h' := (Tree.out_ite_false (by simp)).1 h
          refine (Tree.out_ite_true rfl).2 ?_
          exact h'
      · have h' := (Tree.out_ite_false (by simp [hl])).1 h
        refine (Tree.out_ite_true (by simpa using fun e => hl (by exact_mod_cast e))).2 ?_
        exact h'
    · exact h.elim
  · exact h.elim
theorem con19_quiet : noBlks con19 := by
  intro args r h
  unfold con19 at h
  split at h
  · split at h
    · rcases h with h | h <;> cases h <;> rfl
    · exact h.elim
  · exact h.elim
noncomputable def w16 : Cfg := w15.addQuiet 19 con19
theorem w16_good : GoodCfg w16 := w15_good.addQuiet con19_valid con19_quiet

end Go.Fx
