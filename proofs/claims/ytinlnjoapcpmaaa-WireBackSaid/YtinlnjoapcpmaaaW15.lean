/- The wire seat's plain laws: what is asked is got from its bytes; how its arguments are opened. -/
import Derived.Test.YtinlnjoapcpmaaaW14
namespace Go.Fx
open Go Go.Proofs

/-! ### what may be asked -/
theorem may_parts {o : Fu.Op} (h : mayOp o = true) : (hasOf o).1.all (fun p => !badF p.1 p.2) = true ∧ o = (hasOf o).2 ∧ o.D.length ≤ 4 ∧ o.D.any odd = false := by
  unfold mayOp endB at h
  simp only [Bool.and_eq_true, decide_eq_true_eq, Bool.not_eq_true'] at h
  exact ⟨h.2.1, h.2.2.1, by omega, h.2.2.2.2⟩
theorem d_small {l : List Int} (h : l.any odd = false) : ∀ x ∈ l, 1 ≤ x ∧ x ≤ 20 := by
  intro x hx
  have := List.any_eq_false.1 h x hx
  simp only [odd, Bool.or_eq_true, decide_eq_true_eq] at this
  omega
theorem cand_put {o : Fu.Op} (h : mayOp o = true) : cand (putB o) = o := by
  obtain ⟨h1, h2, h3, h4⟩ := may_parts h
  obtain ⟨k, id, ⟨c, t, mx, m, kk, e⟩, t', mx', wi, c', v, d⟩ := o
  rcases may_kind h with hk | hk | hk | hk | hk <;> (simp only at hk; subst hk)
  · simp only [hasOf, if_true, Fu.Op.mk.injEq, true_and] at h2
    obtain ⟨rfl, rfl, rfl, rfl, rfl, rfl, rfl⟩ := h2
    simp only [hasOf, if_true, List.all_cons, List.all_nil, badF1, Bool.not_not, Bool.and_true, Bool.and_eq_true, decide_eq_true_eq] at h1
    obtain ⟨hc, ht, hmx, hm, hkk, he⟩ := h1
    simp [putB, cand, byteOf_id, hc, ht, hmx, hm, hkk, he, show IntKind.u8.wrap 0 = 0 by decide]
  · simp only [hasOf, if_true, if_neg (show ¬ (1 : Int) = 0 by decide), Fu.Op.mk.injEq, true_and, Fu.Spec.mk.injEq] at h2
    obtain ⟨⟨rfl, rfl, rfl, rfl, rfl, rfl⟩, rfl, rfl, rfl, rfl⟩ := h2
    simp only [hasOf, if_true, if_neg (show ¬ (1 : Int) = 0 by decide), List.all_cons, List.all_nil, badF1, badF2, Bool.not_not, Bool.and_true, Bool.and_eq_true, decide_eq_true_eq] at h1
    obtain ⟨hid, ht, hmx⟩ := h1
    have e : byteOf id 8 * 256 + byteOf id 0 = id := by rw [byteOf8, byteOf0]; omega
    simp [putB, cand, byteOf_id, ht, hmx, e, show IntKind.u8.wrap 1 = 1 by decide]
  · simp only [hasOf, if_true, if_neg (show ¬ (2 : Int) = 0 by decide), if_neg (show ¬ (2 : Int) = 1 by decide), Fu.Op.mk.injEq, true_and, Fu.Spec.mk.injEq] at h2
    obtain ⟨⟨rfl, rfl, rfl, rfl, rfl, rfl⟩, rfl, rfl, rfl, rfl, rfl, rfl⟩ := h2
    simp only [hasOf, if_true, if_neg (show ¬ (2 : Int) = 0 by decide), if_neg (show ¬ (2 : Int) = 1 by decide), List.all_cons, List.all_nil, badF2, Bool.not_not, Bool.and_true, Bool.and_eq_true, decide_eq_true_eq] at h1
    have e : byteOf id 8 * 256 + byteOf id 0 = id := by rw [byteOf8, byteOf0]; omega
    simp [putB, cand, e, show IntKind.u8.wrap 2 = 2 by decide]
  · simp only [hasOf, if_true, if_neg (show ¬ (3 : Int) = 0 by decide), if_neg (show ¬ (3 : Int) = 1 by decide), if_neg (show ¬ (3 : Int) = 2 by decide), Fu.Op.mk.injEq, true_and, Fu.Spec.mk.injEq] at h2
    obtain ⟨rfl, ⟨rfl, rfl, rfl, rfl, rfl, rfl⟩, rfl, rfl, rfl⟩ := h2
    simp only [hasOf, if_true, if_neg (show ¬ (3 : Int) = 0 by decide), if_neg (show ¬ (3 : Int) = 1 by decide), if_neg (show ¬ (3 : Int) = 2 by decide), List.all_cons, List.all_nil, badF1, badF2, Bool.not_not, Bool.and_true, Bool.and_eq_true, decide_eq_true_eq] at h1
    obtain ⟨hw, hc, hv⟩ := h1
    have e : byteOf v 8 * 256 + byteOf v 0 = v := by rw [byteOf8, byteOf0]; omega
    simp [putB, cand, byteOf_id, hw, hc, e, show IntKind.u8.wrap 3 = 3 by decide]
  · simp only [hasOf, if_true, if_neg (show ¬ (4 : Int) = 0 by decide), if_neg (show ¬ (4 : Int) = 1 by decide), if_neg (show ¬ (4 : Int) = 2 by decide), if_neg (show ¬ (4 : Int) = 3 by decide), Fu.Op.mk.injEq, true_and, Fu.Spec.mk.injEq] at h2
    obtain ⟨rfl, ⟨rfl, rfl, rfl, rfl, rfl, rfl⟩, rfl, rfl, rfl, rfl, rfl, _⟩ := h2
    have e : d.map IntKind.u8.wrap = d := by
      conv => rhs; rw [← List.map_id d]
      exact List.map_congr_left fun x hx => wrap8_id (by have := d_small h4 x hx; omega)
    simp [putB, cand, e, show IntKind.u8.wrap 4 = 4 by decide]
theorem putB_ok (o : Fu.Op) : bytesOK (putB o) := by
  intro x hx
  unfold putB at hx
  rcases List.mem_cons.1 hx with rfl | hx
  · exact wrap8_ok _
  split at hx
  · simp only [List.mem_cons, List.not_mem_nil, or_false] at hx
    rcases hx with rfl | rfl | rfl | rfl | rfl | rfl <;> exact byteOf_ok _ _
  split at hx
  · simp only [List.mem_cons, List.not_mem_nil, or_false] at hx
    rcases hx with rfl | rfl | rfl | rfl <;> exact byteOf_ok _ _
  split at hx
  · simp only [List.mem_cons, List.not_mem_nil, or_false] at hx
    rcases hx with rfl | rfl <;> exact byteOf_ok _ _
  split at hx
  · simp only [List.mem_cons, List.not_mem_nil, or_false] at hx
    rcases hx with rfl | rfl | rfl | rfl <;> exact byteOf_ok _ _
  · rcases List.mem_cons.1 hx with rfl | hx
    · exact wrap8_ok _
    · obtain ⟨y, _, rfl⟩ := List.mem_map.1 hx
      exact wrap8_ok _
theorem putB_len (o : Fu.Op) : ((putB o).length : Int) = if o.Kind = 0 then (7 : Int) else if o.Kind = 1 then 5 else if o.Kind = 2 then 3 else if o.Kind = 3 then 5 else 2 + (o.D.length : Int) := by
  unfold putB
  split
  · rfl
  split
  · rfl
  split
  · rfl
  split
  · rfl
  · simp; omega
theorem asks_put {o : Fu.Op} (h : mayOp o = true) : asks (putB o) = true := by
  unfold asks
  rw [cand_put h, h]
  simp [putB]
theorem asks_iff {b : List Int} (h : asks b = true) : mayOp (cand b) = true ∧ putB (cand b) = b := by
  unfold asks at h
  simp only [Bool.and_eq_true, decide_eq_true_eq] at h
  exact ⟨h.1.2, h.2⟩

/-! ### how arguments are opened -/
theorem oInt : Opens Try.prog 3 fun zs => ∃ n, zs = [.int .i64 n] ∧ wf64 n := (Opens.int Try.underlying3).mono fun _ ⟨n, h1, h2⟩ => ⟨n, h1, bounds_i64 h2⟩
theorem oByte : Opens Try.prog 5 fun zs => ∃ n, zs = [.int .u8 n] ∧ 0 ≤ n ∧ n ≤ 255 := (Opens.int Try.underlying5).mono fun _ ⟨n, h1, h2⟩ => ⟨n, h1, bounds_u8 h2⟩
theorem oInts : Opens Try.prog 24 fun zs => ∃ xs : List Int, zs = [.view (.int .i64) xs] ∧ (xs.length : Int) < 17592186044416 :=
  (Opens.slice (.int .i64) (ok := fun _ => True) Try.underlying24 oInt (fun zs ⟨n, h, _⟩ => ⟨n, h, trivial⟩) (by kernel_rfl) (by decide)).mono fun zs ⟨xs, h1, h2, _⟩ => ⟨xs, h1, by
    have e : Try.prog.bytesOf 3 = 8 := by kernel_rfl
    rw [e] at h2
    unfold reachBytes at h2
    omega⟩
theorem oBytes : Opens Try.prog 27 fun zs => ∃ xs : List Int, zs = [.view (.int .u8) xs] ∧ (xs.length : Int) < 140737488355328 ∧ bytesOK xs :=
  (Opens.slice (.int .u8) (ok := fun n : Int => 0 ≤ n ∧ n ≤ 255) Try.underlying27 oByte (fun zs ⟨n, h, h'⟩ => ⟨n, h, h'⟩) (by kernel_rfl) (by decide)).mono fun zs ⟨xs, h1, h2, h3⟩ => ⟨xs, h1, by
    have e : Try.prog.bytesOf 5 = 1 := by kernel_rfl
    rw [e] at h2
    unfold reachBytes at h2
    omega, h3⟩
theorem oSpec : Opens Try.prog 23 fun zs => ∃ s : Fu.Spec, zs = encSpec s :=
  (Opens.struct Try.underlying23 (.cons oInt (by kernel_rfl) (.cons oInt (by kernel_rfl) (.cons oInt (by kernel_rfl) (.cons oInt (by kernel_rfl) (.cons oInt (by kernel_rfl) (.cons oInt (by kernel_rfl) (.nil _))))))) (by kernel_rfl)).mono fun zs h => by
    obtain ⟨_, _, rfl, ⟨a, rfl, _⟩, _, _, rfl, ⟨b, rfl, _⟩, _, _, rfl, ⟨c, rfl, _⟩, _, _, rfl, ⟨d, rfl, _⟩, _, _, rfl, ⟨e, rfl, _⟩, _, _, rfl, ⟨f, rfl, _⟩, rfl⟩ := h
    exact ⟨⟨a, b, c, d, e, f⟩, rfl⟩
theorem oOp : Opens Try.prog 26 fun zs => ∃ o : Fu.Op, zs = opCells o ∧ (o.D.length : Int) < 17592186044416 :=
  (Opens.struct Try.underlying26 (.cons oInt (by kernel_rfl) (.cons oInt (by kernel_rfl) (.cons oSpec (by kernel_rfl) (.cons oInt (by kernel_rfl) (.cons oInt (by kernel_rfl) (.cons oInt (by kernel_rfl) (.cons oInt (by kernel_rfl) (.cons oInt (by kernel_rfl) (.cons oInts (by kernel_rfl) (.nil _)))))))))) (by kernel_rfl)).mono fun zs h => by
    obtain ⟨_, _, rfl, ⟨a, rfl, _⟩, _, _, rfl, ⟨b, rfl, _⟩, _, _, rfl, ⟨c, rfl⟩, _, _, rfl, ⟨d, rfl, _⟩, _, _, rfl, ⟨e, rfl, _⟩, _, _, rfl, ⟨f, rfl, _⟩, _, _, rfl, ⟨g, rfl, _⟩, _, _, rfl, ⟨h, rfl, _⟩, _, _, rfl, ⟨i, rfl, hi⟩, rfl⟩ := h
    exact ⟨⟨a, b, c, d, e, f, g, h, i⟩, rfl, hi⟩
theorem oErrno : Opens Try.prog 37 fun zs => ∃ n, zs = [.int .i64 n] ∧ wf64 n := (Opens.int Try.underlying37).mono fun _ ⟨n, h1, h2⟩ => ⟨n, h1, bounds_i64 h2⟩
theorem oReply : Opens Try.prog 39 fun zs => ∃ a b : Int, zs = [.int .i64 a, .int .i64 b] :=
  (Opens.struct Try.underlying39 (.cons oErrno (by kernel_rfl) (.cons oInt (by kernel_rfl) (.nil _))) (by kernel_rfl)).mono fun zs h => by
    obtain ⟨_, _, rfl, ⟨a, rfl, _⟩, _, _, rfl, ⟨b, rfl, _⟩, rfl⟩ := h
    exact ⟨a, b, rfl⟩

end Go.Fx
