/- The wire seat's functions: what is the same. -/
import Derived.Test.YtinlnjoapcpmaaaW1
namespace Go.Fx
open Go Go.Proofs

theorem con25_quiet : noBlks con25 := by
  intro args r h
  unfold con25 at h
  split at h
  · split at h
    · cases h; rfl
    · exact h.elim
  · exact h.elim
noncomputable def w3 : Cfg := w2.addQuiet 25 con25
theorem w3_good : GoodCfg w3 := w2_good.addQuiet con25_valid con25_quiet

/-! ### function 28 -/
def T28 (x : List Int × List Int × Int × Int) : St := ⟨puts (J 26) [(0, .view (.int .i64) x.1), (1, .view (.int .i64) x.2.1), (12, .int .i64 x.2.2.1), (13, .int .i64 x.2.2.2)], [], 0⟩
def s28 : List Sh := sets (Js 26) [(0, .keep), (1, .keep), (12, .keep), (13, .int)]
def e28 : List Sh := sets (Js 26) [(4, .keep)]
theorem b28 (xs ys : List Int) (n i : Int) : roundT w3 60 28 (loopAt w3.P 28 4) 0 [] s28 e28 (T28 (xs, ys, n, i)) =
    .ite (decide (i < n)) (.asrt (0 ≤ i ∧ i < xs.length) (.asrt (0 ≤ i ∧ i < ys.length) (.ite (rd (.int .i64) xs i != rd (.int .i64) ys i) (.ret (.ret, ⟨puts (J 26) [(4, .blit false)], [], 0⟩)) (.ret (.normal, T28 (xs, ys, n, IntKind.i64.wrap (i + 1)))))))
      (.ret (.exit 0, ⟨J 26, [], 0⟩)) := by kernel_rfl
def L28x (x : List Int × List Int × Int × Int) : Tree (Ex × St) :=
  .asrt (0 ≤ x.2.2.2 ∧ x.2.2.2 ≤ x.1.length ∧ x.2.2.1 = x.1.length ∧ x.1.length = x.2.1.length ∧ (x.1.length : Int) < 9223372036854775807)
    (.ite (decide (x.1.drop x.2.2.2.toNat = x.2.1.drop x.2.2.2.toNat)) (.ret (.exit 0, ⟨J 26, [], 0⟩)) (.ret (.ret, ⟨puts (J 26) [(4, .blit false)], [], 0⟩)))
def L28 : LoopCon := fun σ =>
  match σ.tmps, σ.heap, σ.next with
  | [.view (.int .i64) xs, .view (.int .i64) ys, _, _, _, _, _, _, _, _, _, _, .int .i64 n, .lit .i64 0, _, _, _, _, _, _, _, _, _, _, _, _], [], 0 => L28x (xs, ys, n, 0)
  | _, _, _ => .fail
def m28 (x : List Int × List Int × Int × Int) : Nat := x.1.length - x.2.2.2.toNat
theorem h28 (xs ys : List Int) (n i : Int) (r : Ex × St) (h : (L28x (xs, ys, n, i)).Out r) : Holds (roundT w3 60 28 (loopAt w3.P 28 4) 0 [] s28 e28 (T28 (xs, ys, n, i))) (Rnd T28 m28 L28x (xs, ys, n, i) r) := by
  refine .of_eq (b28 xs ys n i) ?_
  unfold L28x at h
  have h' := Tree.out_asrt.1 h
  have h0 : 0 ≤ i := h'.1.1
  have h1 : i ≤ xs.length := h'.1.2.1
  have h2 : n = xs.length := h'.1.2.2.1
  have h3 : xs.length = ys.length := h'.1.2.2.2.1
  have h4 : (xs.length : Int) < 9223372036854775807 := h'.1.2.2.2.2
  replace h := h'.2
  clear h'
  simp only at h
  subst h2
  refine ⟨fun hi => ?_, fun hi => ?_⟩
  · have hi := of_decide_eq_true hi
    refine ⟨⟨h0, hi⟩, ⟨h0, by omega⟩, fun ho => ?_, fun ho => ?_⟩
    · have hne : ¬ rd (.int .i64) xs i = rd (.int .i64) ys i := by simpa using ho
      rw [Tree.out_ite_false (by rw [drop_rd (r := .int .i64) h0 hi, drop_rd (r := .int .i64) (xs := ys) h0 (by omega)]; simp [hne])] at h
      exact Rnd.ret h
    · have heq : rd (.int .i64) xs i = rd (.int .i64) ys i := by simpa using ho
      rw [wrap_fits (by omega) (by omega)]
      refine Rnd.go (m := m28) (x := (xs, ys, (xs.length : Int), i)) (xs, ys, (xs.length : Int), i + 1) (show xs.length - (i + 1).toNat < xs.length - i.toNat by omega) ?_
      unfold L28x
      refine Tree.out_asrt.2 ⟨⟨(show 0 ≤ i + 1 by omega), (show i + 1 ≤ xs.length by omega), rfl, h3, h4⟩, ?_⟩
      rw [drop_rd (r := .int .i64) h0 hi, drop_rd (r := .int .i64) (xs := ys) h0 (by omega), heq] at h
      simpa only [List.cons.injEq, true_and] using h
  · have hi := of_decide_eq_false hi
    rw [Tree.out_ite_true (by rw [drop_end (by omega), drop_end (by omega)]; simp)] at h
    exact Rnd.out h
theorem l28 (hs : SubOf w3.P 28 (.loop (loopAt w3.P 28 4))) : SoundLoop w3 (loopAt w3.P 28 4) L28 := by
  refine loop_rule2 (C := w3) (g := 28) (l := 4) w3_good 60 0 [] s28 e28 hs T28 L28x m28 (fun x r h => h28 x.1 x.2.1 x.2.2.1 x.2.2.2 r h) (fun σ r h => ?_)
  obtain ⟨ts, hp, nx⟩ := σ
  unfold L28 at h
  simp only at h
  split at h
  · exact ⟨rfl, (_, _, _, _), rfl, h⟩
  · exact h.elim
noncomputable def w4 : Cfg := w3.addLoop 28 4 L28
theorem w4_good : GoodCfg w4 := w3_good.addLoop (by unfold OneLoop; kernel_rfl) l28
theorem f28 (xs ys : List Int) : callC w4 60 28 [.view (.int .i64) xs, .view (.int .i64) ys] =
  .ite ((xs.length : Int) != ys.length) (.ret (.blit false, [])) (.asrt (0 ≤ (0 : Int) ∧ (0 : Int) ≤ xs.length ∧ (xs.length : Int) = xs.length ∧ xs.length = ys.length ∧ (xs.length : Int) < 9223372036854775807)
    (.ite (decide (xs.drop (0 : Int).toNat = ys.drop (0 : Int).toNat)) (.ret (.blit true, [])) (.ret (.blit false, [])))) := by kernel_rfl
def con28 : Con
  | [a, b] => match a.asView (.int .i64), b.asView (.int .i64) with
    | some xs, some ys => .asrt ((xs.length : Int) < 9223372036854775807) (.ret (.bool (decide (xs = ys)), []))
    | _, _ => .fail
  | _ => .fail
theorem con28_valid : ValidCon w4.P 28 con28 := by
  refine con_of (n := 60) w4_good (by kernel_rfl) fun args r h => ?_
  unfold con28 at h
  split at h
  · split at h
    · rename_i xs ys ha hb
      obtain ⟨hlen, h⟩ := h
      cases h
      by_cases hl : xs.length = ys.length
      · by_cases he : xs = ys
        · refine ⟨_, _, .cons (.view ha) (.cons (.view hb) .nil), .blit (decide_eq_true he).symm, .of_eq (f28 xs ys) ?_⟩
          rw [Tree.out_ite_false (by simp [hl])]
          exact Tree.out_asrt.2 ⟨⟨by omega, by omega, rfl, hl, hlen⟩, (Tree.out_ite_true (by simpa using he)).2 rfl⟩
        · refine ⟨_, _, .cons (.view ha) (.cons (.view hb) .nil), .blit (decide_eq_false he).symm, .of_eq (f28 xs ys) ?_⟩
          rw [Tree.out_ite_false (by simp [hl])]
          exact Tree.out_asrt.2 ⟨⟨by omega, by omega, rfl, hl, hlen⟩, (Tree.out_ite_false (by simpa using he)).2 rfl⟩
      · have he : ¬ xs = ys := fun e => hl (by rw [e])
        refine ⟨_, _, .cons (.view ha) (.cons (.view hb) .nil), .blit (decide_eq_false he).symm, .of_eq (f28 xs ys) ?_⟩
        exact (Tree.out_ite_true (by simpa using fun e => hl (by exact_mod_cast e))).2 rfl
    · exact h.elim
  · exact h.elim
theorem con28_quiet : noBlks con28 := by
  intro args r h
  unfold con28 at h
  split at h
  · split at h
    · cases h; rfl
    · exact h.elim
  · exact h.elim
noncomputable def w5 : Cfg := w4.addQuiet 28 con28
theorem w5_good : GoodCfg w5 := w4_good.addQuiet con28_valid con28_quiet

/-! ### function 13 -/
def T13 (x : List Int × List Int × Int × Int) : St := ⟨puts (J 26) [(0, .view (.int .u8) x.1), (1, .view (.int .u8) x.2.1), (5, .int .i64 x.2.2.2)], [], 0⟩
def s13 : List Sh := sets (Js 26) [(0, .keep), (1, .keep), (5, .int)]
def e13 : List Sh := sets (Js 26) [(4, .keep)]
theorem b13 (xs ys : List Int) (n i : Int) : roundT w5 60 13 (loopAt w5.P 13 4) 0 [] s13 e13 (T13 (xs, ys, n, i)) =
    .ite (decide (i < (xs.length : Int))) (.asrt (0 ≤ i ∧ i < xs.length) (.asrt (0 ≤ i ∧ i < ys.length) (.ite (rd (.int .u8) xs i != rd (.int .u8) ys i) (.ret (.ret, ⟨puts (J 26) [(4, .blit false)], [], 0⟩)) (.ret (.normal, T13 (xs, ys, n, IntKind.i64.wrap (i + 1)))))))
      (.ret (.exit 0, ⟨J 26, [], 0⟩)) := by kernel_rfl
def L13x (x : List Int × List Int × Int × Int) : Tree (Ex × St) :=
  .asrt (0 ≤ x.2.2.2 ∧ x.2.2.2 ≤ x.1.length ∧ x.2.2.1 = x.1.length ∧ x.1.length = x.2.1.length ∧ (x.1.length : Int) < 9223372036854775807)
    (.ite (decide (x.1.drop x.2.2.2.toNat = x.2.1.drop x.2.2.2.toNat)) (.ret (.exit 0, ⟨J 26, [], 0⟩)) (.ret (.ret, ⟨puts (J 26) [(4, .blit false)], [], 0⟩)))
def L13 : LoopCon := fun σ =>
  match σ.tmps, σ.heap, σ.next with
  | [.view (.int .u8) xs, .view (.int .u8) ys, _, _, _, .lit .i64 0, _, _, _, _, _, _, _, _, _, _, _, _, _, _, _, _, _, _, _, _], [], 0 => L13x (xs, ys, xs.length, 0)
  | _, _, _ => .fail
def m13 (x : List Int × List Int × Int × Int) : Nat := x.1.length - x.2.2.2.toNat
theorem h13 (xs ys : List Int) (n i : Int) (r : Ex × St) (h : (L13x (xs, ys, n, i)).Out r) : Holds (roundT w5 60 13 (loopAt w5.P 13 4) 0 [] s13 e13 (T13 (xs, ys, n, i))) (Rnd T13 m13 L13x (xs, ys, n, i) r) := by
  refine .of_eq (b13 xs ys n i) ?_
  unfold L13x at h
  have h' := Tree.out_asrt.1 h
  have h0 : 0 ≤ i := h'.1.1
  have h1 : i ≤ xs.length := h'.1.2.1
  have h2 : n = xs.length := h'.1.2.2.1
  have h3 : xs.length = ys.length := h'.1.2.2.2.1
  have h4 : (xs.length : Int) < 9223372036854775807 := h'.1.2.2.2.2
  replace h := h'.2
  clear h'
  simp only at h
  subst h2
  refine ⟨fun hi => ?_, fun hi => ?_⟩
  · have hi := of_decide_eq_true hi
    refine ⟨⟨h0, hi⟩, ⟨h0, by omega⟩, fun ho => ?_, fun ho => ?_⟩
    · have hne : ¬ rd (.int .u8) xs i = rd (.int .u8) ys i := by simpa using ho
      rw [Tree.out_ite_false (by rw [drop_rd (r := .int .u8) h0 hi, drop_rd (r := .int .u8) (xs := ys) h0 (by omega)]; simp [hne])] at h
      exact Rnd.ret h
    · have heq : rd (.int .u8) xs i = rd (.int .u8) ys i := by simpa using ho
      rw [wrap_fits (by omega) (by omega)]
      refine Rnd.go (m := m13) (x := (xs, ys, (xs.length : Int), i)) (xs, ys, (xs.length : Int), i + 1) (show xs.length - (i + 1).toNat < xs.length - i.toNat by omega) ?_
      unfold L13x
      refine Tree.out_asrt.2 ⟨⟨(show 0 ≤ i + 1 by omega), (show i + 1 ≤ xs.length by omega), rfl, h3, h4⟩, ?_⟩
      rw [drop_rd (r := .int .u8) h0 hi, drop_rd (r := .int .u8) (xs := ys) h0 (by omega), heq] at h
      simpa only [List.cons.injEq, true_and] using h
  · have hi := of_decide_eq_false hi
    rw [Tree.out_ite_true (by rw [drop_end (by omega), drop_end (by omega)]; simp)] at h
    exact Rnd.out h
theorem l13 (hs : SubOf w5.P 13 (.loop (loopAt w5.P 13 4))) : SoundLoop w5 (loopAt w5.P 13 4) L13 := by
  refine loop_rule2 (C := w5) (g := 13) (l := 4) w5_good 60 0 [] s13 e13 hs T13 L13x m13 (fun x r h => h13 x.1 x.2.1 x.2.2.1 x.2.2.2 r h) (fun σ r h => ?_)
  obtain ⟨ts, hp, nx⟩ := σ
  unfold L13 at h
  simp only at h
  split at h
  · exact ⟨rfl, (_, _, _, _), rfl, h⟩
  · exact h.elim
noncomputable def w6 : Cfg := w5.addLoop 13 4 L13
theorem w6_good : GoodCfg w6 := w5_good.addLoop (by unfold OneLoop; kernel_rfl) l13
theorem f13 (xs ys : List Int) : callC w6 60 13 [.view (.int .u8) xs, .view (.int .u8) ys] =
  .ite ((xs.length : Int) != ys.length) (.ret (.blit false, [])) (.asrt (0 ≤ (0 : Int) ∧ (0 : Int) ≤ xs.length ∧ (xs.length : Int) = xs.length ∧ xs.length = ys.length ∧ (xs.length : Int) < 9223372036854775807)
    (.ite (decide (xs.drop (0 : Int).toNat = ys.drop (0 : Int).toNat)) (.ret (.blit true, [])) (.ret (.blit false, [])))) := by kernel_rfl
def con13 : Con
  | [a, b] => match a.asView (.int .u8), b.asView (.int .u8) with
    | some xs, some ys => .asrt ((xs.length : Int) < 9223372036854775807) (.ret (.bool (decide (xs = ys)), []))
    | _, _ => .fail
  | _ => .fail
theorem con13_valid : ValidCon w6.P 13 con13 := by
  refine con_of (n := 60) w6_good (by kernel_rfl) fun args r h => ?_
  unfold con13 at h
  split at h
  · split at h
    · rename_i xs ys ha hb
      obtain ⟨hlen, h⟩ := h
      cases h
      by_cases hl : xs.length = ys.length
      · by_cases he : xs = ys
        · refine ⟨_, _, .cons (.view ha) (.cons (.view hb) .nil), .blit (decide_eq_true he).symm, .of_eq (f13 xs ys) ?_⟩
          rw [Tree.out_ite_false (by simp [hl])]
          exact Tree.out_asrt.2 ⟨⟨by omega, by omega, rfl, hl, hlen⟩, (Tree.out_ite_true (by simpa using he)).2 rfl⟩
        · refine ⟨_, _, .cons (.view ha) (.cons (.view hb) .nil), .blit (decide_eq_false he).symm, .of_eq (f13 xs ys) ?_⟩
          rw [Tree.out_ite_false (by simp [hl])]
          exact Tree.out_asrt.2 ⟨⟨by omega, by omega, rfl, hl, hlen⟩, (Tree.out_ite_false (by simpa using he)).2 rfl⟩
      · have he : ¬ xs = ys := fun e => hl (by rw [e])
        refine ⟨_, _, .cons (.view ha) (.cons (.view hb) .nil), .blit (decide_eq_false he).symm, .of_eq (f13 xs ys) ?_⟩
        exact (Tree.out_ite_true (by simpa using fun e => hl (by exact_mod_cast e))).2 rfl
    · exact h.elim
  · exact h.elim
theorem con13_quiet : noBlks con13 := by
  intro args r h
  unfold con13 at h
  split at h
  · split at h
    · cases h; rfl
    · exact h.elim
  · exact h.elim
noncomputable def w7 : Cfg := w6.addQuiet 13 con13
theorem w7_good : GoodCfg w7 := w6_good.addQuiet con13_valid con13_quiet

/-! ### function 27 -/
def T27 (x : List Int × List Int × Int × Int) : St := ⟨puts (J 26) [(0, .view (.int .i64) x.1), (1, .view (.int .i64) x.2.1), (5, .int .i64 x.2.2.2)], [], 0⟩
def s27 : List Sh := sets (Js 26) [(0, .keep), (1, .keep), (5, .int)]
def e27 : List Sh := sets (Js 26) [(4, .keep)]
theorem b27 (xs ys : List Int) (n i : Int) : roundT w7 60 27 (loopAt w7.P 27 4) 0 [] s27 e27 (T27 (xs, ys, n, i)) =
    .ite (decide (i < (xs.length : Int))) (.asrt (0 ≤ i ∧ i < xs.length) (.asrt (0 ≤ i ∧ i < ys.length) (.ite (rd (.int .i64) xs i != rd (.int .i64) ys i) (.ret (.ret, ⟨puts (J 26) [(4, .blit false)], [], 0⟩)) (.ret (.normal, T27 (xs, ys, n, IntKind.i64.wrap (i + 1)))))))
      (.ret (.exit 0, ⟨J 26, [], 0⟩)) := by kernel_rfl
def L27x (x : List Int × List Int × Int × Int) : Tree (Ex × St) :=
  .asrt (0 ≤ x.2.2.2 ∧ x.2.2.2 ≤ x.1.length ∧ x.2.2.1 = x.1.length ∧ x.1.length = x.2.1.length ∧ (x.1.length : Int) < 9223372036854775807)
    (.ite (decide (x.1.drop x.2.2.2.toNat = x.2.1.drop x.2.2.2.toNat)) (.ret (.exit 0, ⟨J 26, [], 0⟩)) (.ret (.ret, ⟨puts (J 26) [(4, .blit false)], [], 0⟩)))
def L27 : LoopCon := fun σ =>
  match σ.tmps, σ.heap, σ.next with
  | [.view (.int .i64) xs, .view (.int .i64) ys, _, _, _, .lit .i64 0, _, _, _, _, _, _, _, _, _, _, _, _, _, _, _, _, _, _, _, _], [], 0 => L27x (xs, ys, xs.length, 0)
  | _, _, _ => .fail
def m27 (x : List Int × List Int × Int × Int) : Nat := x.1.length - x.2.2.2.toNat
theorem h27 (xs ys : List Int) (n i : Int) (r : Ex × St) (h : (L27x (xs, ys, n, i)).Out r) : Holds (roundT w7 60 27 (loopAt w7.P 27 4) 0 [] s27 e27 (T27 (xs, ys, n, i))) (Rnd T27 m27 L27x (xs, ys, n, i) r) := by
  refine .of_eq (b27 xs ys n i) ?_
  unfold L27x at h
  have h' := Tree.out_asrt.1 h
  have h0 : 0 ≤ i := h'.1.1
  have h1 : i ≤ xs.length := h'.1.2.1
  have h2 : n = xs.length := h'.1.2.2.1
  have h3 : xs.length = ys.length := h'.1.2.2.2.1
  have h4 : (xs.length : Int) < 9223372036854775807 := h'.1.2.2.2.2
  replace h := h'.2
  clear h'
  simp only at h
  subst h2
  refine ⟨fun hi => ?_, fun hi => ?_⟩
  · have hi := of_decide_eq_true hi
    refine ⟨⟨h0, hi⟩, ⟨h0, by omega⟩, fun ho => ?_, fun ho => ?_⟩
    · have hne : ¬ rd (.int .i64) xs i = rd (.int .i64) ys i := by simpa using ho
      rw [Tree.out_ite_false (by rw [drop_rd (r := .int .i64) h0 hi, drop_rd (r := .int .i64) (xs := ys) h0 (by omega)]; simp [hne])] at h
      exact Rnd.ret h
    · have heq : rd (.int .i64) xs i = rd (.int .i64) ys i := by simpa using ho
      rw [wrap_fits (by omega) (by omega)]
      refine Rnd.go (m := m27) (x := (xs, ys, (xs.length : Int), i)) (xs, ys, (xs.length : Int), i + 1) (show xs.length - (i + 1).toNat < xs.length - i.toNat by omega) ?_
      unfold L27x
      refine Tree.out_asrt.2 ⟨⟨(show 0 ≤ i + 1 by omega), (show i + 1 ≤ xs.length by omega), rfl, h3, h4⟩, ?_⟩
      rw [drop_rd (r := .int .i64) h0 hi, drop_rd (r := .int .i64) (xs := ys) h0 (by omega), heq] at h
      simpa only [List.cons.injEq, true_and] using h
  · have hi := of_decide_eq_false hi
    rw [Tree.out_ite_true (by rw [drop_end (by omega), drop_end (by omega)]; simp)] at h
    exact Rnd.out h
theorem l27 (hs : SubOf w7.P 27 (.loop (loopAt w7.P 27 4))) : SoundLoop w7 (loopAt w7.P 27 4) L27 := by
  refine loop_rule2 (C := w7) (g := 27) (l := 4) w7_good 60 0 [] s27 e27 hs T27 L27x m27 (fun x r h => h27 x.1 x.2.1 x.2.2.1 x.2.2.2 r h) (fun σ r h => ?_)
  obtain ⟨ts, hp, nx⟩ := σ
  unfold L27 at h
  simp only at h
  split at h
  · exact ⟨rfl, (_, _, _, _), rfl, h⟩
  · exact h.elim
noncomputable def w8 : Cfg := w7.addLoop 27 4 L27
theorem w8_good : GoodCfg w8 := w7_good.addLoop (by unfold OneLoop; kernel_rfl) l27
theorem f27 (xs ys : List Int) : callC w8 60 27 [.view (.int .i64) xs, .view (.int .i64) ys] =
  .ite ((xs.length : Int) != ys.length) (.ret (.blit false, [])) (.asrt (0 ≤ (0 : Int) ∧ (0 : Int) ≤ xs.length ∧ (xs.length : Int) = xs.length ∧ xs.length = ys.length ∧ (xs.length : Int) < 9223372036854775807)
    (.ite (decide (xs.drop (0 : Int).toNat = ys.drop (0 : Int).toNat)) (.ret (.blit true, [])) (.ret (.blit false, [])))) := by kernel_rfl
def con27 : Con
  | [a, b] => match a.asView (.int .i64), b.asView (.int .i64) with
    | some xs, some ys => .asrt ((xs.length : Int) < 9223372036854775807) (.ret (.bool (decide (xs = ys)), []))
    | _, _ => .fail
  | _ => .fail
theorem con27_valid : ValidCon w8.P 27 con27 := by
  refine con_of (n := 60) w8_good (by kernel_rfl) fun args r h => ?_
  unfold con27 at h
  split at h
  · split at h
    · rename_i xs ys ha hb
      obtain ⟨hlen, h⟩ := h
      cases h
      by_cases hl : xs.length = ys.length
      · by_cases he : xs = ys
        · refine ⟨_, _, .cons (.view ha) (.cons (.view hb) .nil), .blit (decide_eq_true he).symm, .of_eq (f27 xs ys) ?_⟩
          rw [Tree.out_ite_false (by simp [hl])]
          exact Tree.out_asrt.2 ⟨⟨by omega, by omega, rfl, hl, hlen⟩, (Tree.out_ite_true (by simpa using he)).2 rfl⟩
        · refine ⟨_, _, .cons (.view ha) (.cons (.view hb) .nil), .blit (decide_eq_false he).symm, .of_eq (f27 xs ys) ?_⟩
          rw [Tree.out_ite_false (by simp [hl])]
          exact Tree.out_asrt.2 ⟨⟨by omega, by omega, rfl, hl, hlen⟩, (Tree.out_ite_false (by simpa using he)).2 rfl⟩
      · have he : ¬ xs = ys := fun e => hl (by rw [e])
        refine ⟨_, _, .cons (.view ha) (.cons (.view hb) .nil), .blit (decide_eq_false he).symm, .of_eq (f27 xs ys) ?_⟩
        exact (Tree.out_ite_true (by simpa using fun e => hl (by exact_mod_cast e))).2 rfl
    · exact h.elim
  · exact h.elim
theorem con27_quiet : noBlks con27 := by
  intro args r h
  unfold con27 at h
  split at h
  · split at h
    · cases h; rfl
    · exact h.elim
  · exact h.elim
noncomputable def w9 : Cfg := w8.addQuiet 27 con27
theorem w9_good : GoodCfg w9 := w8_good.addQuiet con27_valid con27_quiet

end Go.Fx
