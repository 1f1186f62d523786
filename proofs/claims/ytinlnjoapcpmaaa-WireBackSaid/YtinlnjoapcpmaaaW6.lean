/- The wire seat's functions: what is answered. -/
import Derived.Test.YtinlnjoapcpmaaaW5
namespace Go.Fx
open Go Go.Proofs

def byteOf (n s : Int) : Int := IntKind.u8.wrap (shrI .i64 n s)
/-- Appends of single bytes, one behind the other: the first onto a whole array, the others onto what is grown. -/
def putsT {α : Type} (k : List Int → Tree α) : Bool → List Int → List Int → Tree α
  | _, xs, [] => k xs
  | true, xs, y :: l => .asrt ([y] ≠ [] ∧ (xs ++ [y]).length * 1 ≤ 140737488355328) (putsT k false (xs ++ [y]) l)
  | false, xs, y :: l => .asrt ((xs ++ [y]).length * 1 ≤ 140737488355328) (putsT k false (xs ++ [y]) l)
theorem putsT_out {α : Type} {k : List Int → Tree α} {r : α} : ∀ (l : List Int) (f : Bool) (xs : List Int), xs.length + l.length ≤ 140737488355328 → ((putsT k f xs l).Out r ↔ (k (xs ++ l)).Out r)
  | [], f, xs, _ => by cases f <;> simp [putsT]
  | y :: l, f, xs, h => by
    simp only [List.length_cons] at h
    have ih := putsT_out (k := k) (r := r) l false (xs ++ [y]) (by simp; omega)
    have hl : (xs ++ [y]).length * 1 ≤ 140737488355328 := by simp; omega
    cases f with
    | true =>
      show (([y] ≠ [] ∧ (xs ++ [y]).length * 1 ≤ 140737488355328) ∧ (putsT k false (xs ++ [y]) l).Out r) ↔ _
      rw [ih]
      simp only [ne_eq, reduceCtorEq, not_false_eq_true, true_and, hl, List.append_assoc, List.singleton_append]
    | false =>
      show ((xs ++ [y]).length * 1 ≤ 140737488355328 ∧ (putsT k false (xs ++ [y]) l).Out r) ↔ _
      rw [ih]
      simp only [hl, true_and, List.append_assoc, List.singleton_append]

/-! ### wire.Answer -/
def mayReply (a b : Int) : Bool := decide (a ≥ 0) && (decide (a ≤ 8) && (decide (b ≥ 0) && decide (b ≤ 1099511627776)))
theorem f17 (a b : Int) : callC w14 100 17 [.agg [.int .i64 a, .int .i64 b]] =
    .ite (!mayReply a b) (.ret (.tup [.nils, .blit false], []))
      (putsT (fun xs => .ret (.tup [.own 0, .blit true], [.rows (.int .u8) 5 xs])) true [IntKind.u8.wrap a] [byteOf b 40, byteOf b 32, byteOf b 24, byteOf b 16, byteOf b 8, byteOf b 0]) := by kernel_rfl

def answerL (a b : Int) : List Int := [IntKind.u8.wrap a, byteOf b 40, byteOf b 32, byteOf b 24, byteOf b 16, byteOf b 8, byteOf b 0]
def con17 : Con
  | [.agg [x, y]] => match x.i, y.i with
    | some a, some b => .ite (!mayReply a b) (.ret (.tup [.nils, .blit false], [])) (.ret (.tup [.own 0, .blit true], [.rows (.int .u8) 5 (answerL a b)]))
    | _, _ => .fail
  | _ => .fail
theorem con17_valid : ValidCon w14.P 17 con17 := by
  refine con_of (n := 100) w14_good (by kernel_rfl) fun args r h => ?_
  unfold con17 at h
  split at h
  · split at h
    · rename_i a b ha hb
      refine ⟨_, r.1, .cons (.agg (.cons (.i ha) (.cons (.i hb) .nil))) .nil, .refl _, .of_eq (f17 a b) ?_⟩
      cases hm : (!mayReply a b) with
      | true =>
        rw [hm] at h
        exact (Tree.out_ite_true rfl).2 ((Tree.out_ite_true rfl).1 h)
      | false =>
        rw [hm] at h
        refine (Tree.out_ite_false rfl).2 ((putsT_out _ _ _ (by simp)).2 ?_)
        exact (Tree.out_ite_false rfl).1 h
    · exact h.elim
  · exact h.elim
noncomputable def w15 : Cfg := w14.addCon 17 con17
theorem w15_good : GoodCfg w15 := w14_good.addCon con17_valid (by kernel_rfl)

end Go.Fx
