/- The wire seat's functions, one by one: numbers that are odd. -/
import Derived.Test.YtinlnjoapcpmaaaFxW
import Derived.Test.YtinlnjoapcpmaaaProg
import Derived.KernelRfl
namespace Go.Fx
open Go Go.Proofs

noncomputable def rtyW : TypeId → Option RTy
  | 3 => some (.int .i64)
  | 5 => some (.int .u8)
  | _ => none
noncomputable def w0 : Cfg := ⟨Try.prog, rtyW, [], [], [], []⟩
theorem w0_good : GoodCfg w0 := GoodCfg.base (by kernel_rfl) rfl rfl rfl rfl

/-! ### wire.May$1 -/
def odd (d : Int) : Bool := decide (d < 1) || decide (20 < d)
theorem f24 (a : Int) : callC w0 30 24 [.int .i64 a] = .ret (.bool (odd a), []) := by kernel_rfl
def con24 : Con
  | [a] => match a.i with | some n => .ret (.bool (odd n), []) | none => .fail
  | _ => .fail

theorem con24_valid : ValidCon w0.P 24 con24 := by
  refine con_of (n := 30) w0_good (by kernel_rfl) fun args r h => ?_
  unfold con24 at h
  split at h
  · rename_i a
    split at h
    · rename_i n hn
      exact ⟨_, _, .cons (.i hn) .nil, .refl _, .of_eq (f24 n) h⟩
    · exact h.elim
  · exact h.elim
noncomputable def w1 : Cfg := w0.addQuiet 24 con24
theorem w1_good : GoodCfg w1 := w0_good.addQuiet con24_valid (by
  intro args r h
  unfold con24 at h
  split at h
  · split at h
    · cases h; rfl
    · exact h.elim
  · exact h.elim)

/-! ### slices.IndexFunc -/
def T44 (x : List Int × Int × Int) : St := ⟨puts (J 19) [(0, .view (.int .i64) x.1), (1, .fn (.func 24) [] []), (7, .int .i64 x.2.1), (8, .int .i64 x.2.2)], [], 0⟩
def s44 : List Sh := sets (Js 19) [(0, .keep), (1, .keep), (7, .keep), (8, .int)]
def e44 : List Sh := sets (Js 19) [(4, .keep)]
theorem b44 (xs : List Int) (n i : Int) : roundT w1 60 44 (loopAt w1.P 44 2) 0 [] s44 e44 (T44 (xs, n, i)) =
    .ite (decide (i < n)) (.asrt (0 ≤ i ∧ i < xs.length) (.ite (odd (rd (.int .i64) xs i)) (.ret (.ret, ⟨puts (J 19) [(4, .int .i64 i)], [], 0⟩)) (.ret (.normal, T44 (xs, n, IntKind.i64.wrap (i + 1))))))
      (.ret (.exit 0, ⟨J 19, [], 0⟩)) := by kernel_rfl
/-- The first place from i on, of so many, of a number that is odd. -/
def idx44 (xs : List Int) : Nat → Int → Option Int
  | 0, _ => none
  | k + 1, i => if odd (rd (.int .i64) xs i) = true then some i else idx44 xs k (i + 1)
def L44x (x : List Int × Int × Int) : Tree (Ex × St) :=
  .asrt (0 ≤ x.2.2 ∧ x.2.2 ≤ x.1.length ∧ x.2.1 = x.1.length ∧ (x.1.length : Int) < 9223372036854775807)
    (optT 0 (idx44 x.1 (x.1.length - x.2.2.toNat) x.2.2) (fun i => .ret (.ret, ⟨puts (J 19) [(4, .int .i64 i)], [], 0⟩)) (.ret (.exit 0, ⟨J 19, [], 0⟩)))
def L44 : LoopCon := fun σ =>
  match σ.tmps, σ.heap, σ.next with
  | [.view (.int .i64) xs, .fn (.func 24) [] [], _, _, _, _, _, .int .i64 n, .lit .i64 0, _, _, _, _, _, _, _, _, _, _], [], 0 => L44x (xs, n, 0)
  | _, _, _ => .fail
def m44 (x : List Int × Int × Int) : Nat := x.1.length - x.2.2.toNat
theorem h44 (xs : List Int) (n i : Int) (r : Ex × St) (h : (L44x (xs, n, i)).Out r) : Holds (roundT w1 60 44 (loopAt w1.P 44 2) 0 [] s44 e44 (T44 (xs, n, i))) (Rnd T44 m44 L44x (xs, n, i) r) := by
  refine .of_eq (b44 xs n i) ?_
  unfold L44x at h
  have h' := Tree.out_asrt.1 h
  have h0 : 0 ≤ i := h'.1.1
  have h1 : i ≤ xs.length := h'.1.2.1
  have h2 : n = xs.length := h'.1.2.2.1
  have h3 : (xs.length : Int) < 9223372036854775807 := h'.1.2.2.2
  replace h := optT_out.1 h'.2
  clear h'
  simp only at h
  subst h2
  refine ⟨fun hi => ?_, fun hi => ?_⟩
  · have hi := of_decide_eq_true hi
    have hk : xs.length - i.toNat = (xs.length - (i + 1).toNat) + 1 := by omega
    rw [hk] at h
    unfold idx44 at h
    refine ⟨⟨h0, hi⟩, fun ho => ?_, fun ho => ?_⟩
    · rw [ho] at h
      exact Rnd.ret h
    · rw [ho] at h
      rw [wrap_fits (by omega) (by omega)]
      refine Rnd.go (m := m44) (x := (xs, (xs.length : Int), i)) (xs, (xs.length : Int), i + 1) (show xs.length - (i + 1).toNat < xs.length - i.toNat by omega) ?_
      unfold L44x
      exact Tree.out_asrt.2 ⟨⟨(show 0 ≤ i + 1 by omega), (show i + 1 ≤ xs.length by omega), rfl, h3⟩, optT_out.2 h⟩
  · have hi := of_decide_eq_false hi
    have hk : xs.length - i.toNat = 0 := by omega
    rw [hk] at h
    exact Rnd.out h
theorem l44 (hs : SubOf w1.P 44 (.loop (loopAt w1.P 44 2))) : SoundLoop w1 (loopAt w1.P 44 2) L44 := by
  refine loop_rule2 (C := w1) (g := 44) (l := 2) w1_good 60 0 [] s44 e44 hs T44 L44x m44 (fun x r h => h44 x.1 x.2.1 x.2.2 r h) (fun σ r h => ?_)
  obtain ⟨ts, hp, nx⟩ := σ
  unfold L44 at h
  simp only at h
  split at h
  · exact ⟨rfl, (_, _, _), rfl, h⟩
  · exact h.elim
noncomputable def w2 : Cfg := w1.addLoop 44 2 L44
theorem w2_good : GoodCfg w2 := w1_good.addLoop (by unfold OneLoop; kernel_rfl) l44

theorem f25 (xs : List Int) : callC w2 60 25 [.view (.int .i64) xs, .fn (.func 24) [] []] =
  .asrt (0 ≤ (0 : Int) ∧ (0 : Int) ≤ xs.length ∧ (xs.length : Int) = xs.length ∧ (xs.length : Int) < 9223372036854775807)
    (optT 0 (idx44 xs (xs.length - (0 : Int).toNat) 0) (fun i => .ret (.bool (decide (i ≥ 0)), [])) (.ret (.blit false, []))) := by kernel_rfl
theorem idx44_any (xs : List Int) : ∀ (k : Nat) (i : Int), 0 ≤ i → k = xs.length - i.toNat → (match idx44 xs k i with | some j => 0 ≤ j ∧ (xs.drop i.toNat).any odd = true | none => (xs.drop i.toNat).any odd = false)
  | 0, i, h0, hk => by
    have : xs.drop i.toNat = [] := List.drop_eq_nil_of_le (by omega)
    simp [idx44, this]
  | k + 1, i, h0, hk => by
    have hlt : i.toNat < xs.length := by omega
    have hd : xs.drop i.toNat = xs[i.toNat] :: xs.drop (i + 1).toNat := by
      rw [show (i + 1).toNat = i.toNat + 1 by omega, List.getElem_cons_drop]
    have hr : rd (.int .i64) xs i = xs[i.toNat] := by simp [rd, hlt]
    have ih := idx44_any xs k (i + 1) (by omega) (by omega)
    unfold idx44
    rw [hd, List.any_cons, ← hr]
    cases ho : odd (rd (.int .i64) xs i) with
    | true => simpa using h0
    | false => simpa using ih
def con25 : Con
  | [l, .fn (.func 24) [] []] => match l.asView (.int .i64) with
    | some xs => .asrt ((xs.length : Int) < 9223372036854775807) (.ret (.bool (xs.any odd), []))
    | none => .fail
  | _ => .fail
theorem con25_valid : ValidCon w2.P 25 con25 := by
  refine con_of (n := 60) w2_good (by kernel_rfl) fun args r h => ?_
  unfold con25 at h
  split at h
  · rename_i l
    split at h
    · rename_i xs hl
      obtain ⟨hb, h⟩ := h
      cases h
      have hx := idx44_any xs (xs.length - (0 : Int).toNat) 0 (by omega) rfl
      cases hi : idx44 xs (xs.length - (0 : Int).toNat) 0 with
      | some j =>
        rw [hi] at hx
        simp only [Int.toNat_zero, List.drop_zero] at hx
        refine ⟨_, _, .cons (.view hl) (.cons (.refl _) .nil), .refl _, ?_⟩
        refine .of_eq (f25 xs) ?_
        rw [hi, hx.2]
        exact ⟨⟨by omega, by omega, rfl, hb⟩, optT_out.2 (by simp [Tree.Out, hx.1])⟩
      | none =>
        rw [hi] at hx
        simp only [Int.toNat_zero, List.drop_zero] at hx
        refine ⟨_, _, .cons (.view hl) (.cons (.refl _) .nil), .blit rfl, ?_⟩
        refine .of_eq (f25 xs) ?_
        rw [hi, hx]
        exact ⟨⟨by omega, by omega, rfl, hb⟩, optT_out.2 rfl⟩
    · exact h.elim
  · exact h.elim

end Go.Fx
