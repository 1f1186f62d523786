/- A region whose order is drawn. -/
import Derived.Test.YtccfojgceohciaaFxO
namespace Go.Fx
open Go Go.RowKit

/-! ### a step's outcome -/
def litG (g : Bool) (v : AV) : AV := match g, v with | true, .bool b => .blit b | _, v => v
theorem putG_out {g : Bool} {dst : Option Nat} {r : AV × Heap × Nat} {ts : List AV} {σ' : St} : (putG g dst r ts).Out σ' ↔ σ' = ⟨putT dst (litG g r.1) ts, r.2.1, r.2.2⟩ := by
  obtain ⟨v, h, n⟩ := r
  cases g with
  | false => cases v <;> exact eq_comm
  | true =>
    cases v with
    | bool b => cases b <;> simp [putG, Tree.Out, litG, eq_comm]
    | _ => exact eq_comm
theorem stepW_out {ops : Array Oper} {i : Nat} {o : Oper} {σ σ' : St} {t : Tree (AV × Heap × Nat)} :
    (stepW ops i o σ t).Out σ' ↔ (wantedV ops o σ.tmps = some false ∧ σ' = ⟨putT o.dst (.tup []) σ.tmps, σ.heap, σ.next⟩) ∨
      (wantedV ops o σ.tmps = some true ∧ ∃ r, t.Out r ∧ σ' = ⟨putT o.dst (litG (isGuard ops i) r.1) σ.tmps, r.2.1, r.2.2⟩) := by
  unfold stepW
  split
  · rename_i h; simp [h, Tree.Out]
  · rename_i h; simp [h, Tree.Out, eq_comm]
  · rename_i h
    rw [Tree.out_bind]
    simp [h, putG_out]

section
variable {C : Cfg} {self : Run} {ops : Array Oper} {X ms : List Nat} {next : Nat}

theorem drawStep_swap {k i : Nat} {ok oi : Oper} (hk : ops[k]? = some ok) (hi : ops[i]? = some oi) (hne : k ≠ i) (b1 : (ms.getD i 0).testBit k = false) (b2 : (ms.getD k 0).testBit i = false) (hap : apartT ops ok oi = true)
    (hfull : slotOp ok = false → slotOp oi = false → fullAt ops.toList ms k = false ∧ fullAt ops.toList ms i = false) (hst : (storeOp ok && storeOp oi) = false) {σ σ1 σ2 : St}
    (h1 : (drawStep C self ops X ms next k σ).Out σ1) (h2 : (drawStep C self ops X ms next i σ1).Out σ2) : ∃ σ3, (drawStep C self ops X ms next i σ).Out σ3 ∧ (drawStep C self ops X ms next k σ3).Out σ2 := by
  simp only [apartT, Bool.and_eq_true] at hap
  obtain ⟨ap1, ap2⟩ := hap
  unfold drawStep at h1 h2 ⊢
  simp only [hk, hi] at h1 h2 ⊢
  rw [stepW_out] at h1 h2
  simp only [stepW_out]
  rcases h1 with ⟨w1, rfl⟩ | ⟨w1, rk, r1, rfl⟩
  · simp only [wantedV_put ap1] at h2
    rcases h2 with ⟨w2, rfl⟩ | ⟨w2, ri, r2, rfl⟩
    · refine ⟨_, .inl ⟨w2, rfl⟩, .inl ⟨?_, ?_⟩⟩
      · simp only [wantedV_put ap2]; exact w1
      · simp only [putT_comm ap1]
    · rw [drawR_congr C self ops X ms next i _ _ (evO_put ap1 _ _)] at r2
      refine ⟨_, .inr ⟨w2, ri, r2, rfl⟩, .inl ⟨?_, ?_⟩⟩
      · simp only [wantedV_put ap2]; exact w1
      · simp only [putT_comm ap1]
  · simp only [wantedV_put ap1] at h2
    rcases h2 with ⟨w2, rfl⟩ | ⟨w2, ri, r2, rfl⟩
    · refine ⟨_, .inl ⟨w2, rfl⟩, .inr ⟨?_, rk, ?_, ?_⟩⟩
      · simp only [wantedV_put ap2]; exact w1
      · rw [drawR_congr C self ops X ms next k _ _ (evO_put ap2 _ _)]; exact r1
      · simp only [putT_comm ap1]
    · rw [drawR_congr C self ops X ms next i _ _ (evO_put ap1 _ _)] at r2
      obtain ⟨ri', rk', e1, e2, e3, e4, e5⟩ := drawR_swap hne b1 b2 hfull hst r1 r2
      refine ⟨_, .inr ⟨w2, ri', e1, rfl⟩, .inr ⟨?_, rk', ?_, ?_⟩⟩
      · simp only [wantedV_put ap2]; exact w1
      · rw [drawR_congr C self ops X ms next k _ _ (evO_put ap2 _ _)]; exact e3
      · simp only [putT_comm ap1, e2, e4, e5]

/-! ### whom an operation stands behind -/
theorem fold_bits (acc : List Nat) (k : Nat) : ∀ (l : List Edge) (s : Nat), (l.foldl (fun s e => if Region.binds .any e then (s ||| 2 ^ e.on) ||| acc.getD e.on 0 else s) s).testBit k = true →
    s.testBit k = true ∨ ∃ e ∈ l, Region.binds .any e = true ∧ (e.on = k ∨ (acc.getD e.on 0).testBit k = true)
  | [], s, h => .inl h
  | e :: l, s, h => by
    simp only [List.foldl_cons] at h
    rcases fold_bits acc k l _ h with h1 | ⟨e', h1, h2⟩
    · split at h1
      · rename_i hb
        rw [Nat.testBit_or, Nat.testBit_or, Bool.or_eq_true, Bool.or_eq_true, Nat.testBit_two_pow] at h1
        rcases h1 with (h1 | h1) | h1
        · exact .inl h1
        · exact .inr ⟨e, by simp, hb, .inl (by simpa using h1)⟩
        · exact .inr ⟨e, by simp, hb, .inr h1⟩
      · exact .inl h1
    · exact .inr ⟨e', by simp [h1], h2⟩

theorem masks_spec : ∀ (l : List Oper) (acc : List Nat), (l.foldl (fun acc o => acc ++ [maskStep acc o]) acc).take acc.length = acc ∧
    ∀ j o, l[j]? = some o → (l.foldl (fun acc o => acc ++ [maskStep acc o]) acc)[acc.length + j]? = some (maskStep ((l.foldl (fun acc o => acc ++ [maskStep acc o]) acc).take (acc.length + j)) o)
  | [], acc => by simp
  | x :: l, acc => by
    obtain ⟨h1, h2⟩ := masks_spec l (acc ++ [maskStep acc x])
    simp only [List.foldl_cons]
    generalize List.foldl (fun acc o => acc ++ [maskStep acc o]) (acc ++ [maskStep acc x]) l = R at h1 h2 ⊢
    simp only [List.length_append, List.length_singleton] at h1 h2
    have h3 : R.take acc.length = acc := by
      have : (R.take (acc.length + 1)).take acc.length = acc := by rw [h1]; exact List.take_left
      rwa [List.take_take, Nat.min_eq_left (by omega)] at this
    refine ⟨h3, fun j o hj => ?_⟩
    cases j with
    | zero =>
      simp at hj
      subst hj
      rw [Nat.add_zero, h3]
      have : (R.take (acc.length + 1))[acc.length]? = some (maskStep acc x) := by rw [h1]; simp
      rwa [List.getElem?_take_of_lt (by omega)] at this
    | succ j =>
      have := h2 j o (by simpa using hj)
      rwa [show acc.length + 1 + j = acc.length + (j + 1) by omega] at this

structure DrawOK (ops : Array Oper) (ms : List Nat) : Prop where
  back : ∀ j o, ops[j]? = some o → ∀ e ∈ o.after.toList, Region.binds .any e = true → e.on < j
  pair : ∀ i j x y, i < j → ops[i]? = some x → ops[j]? = some y → (ms.getD j 0).testBit i = true ∨ (apartT ops x y = true ∧ (storeOp x && storeOp y) = false)
  bits : ∀ j k, (ms.getD j 0).testBit k = true → ∃ o, ops[j]? = some o ∧ ∃ e ∈ o.after.toList, Region.binds .any e = true ∧ e.on < j ∧ (e.on = k ∨ (ms.getD e.on 0).testBit k = true)

theorem DrawOK.of (h : drawOk ops (masks ops.toList) = true) : DrawOK ops (masks ops.toList) := by
  simp only [drawOk, Bool.and_eq_true, List.all_eq_true, List.mem_range] at h
  obtain ⟨⟨h0, h1⟩, h2⟩ := h
  have lt : ∀ {j : Nat} {o : Oper}, ops[j]? = some o → j < ops.size := fun h => (Array.getElem?_eq_some_iff.1 h).1
  have back : ∀ j o, ops[j]? = some o → ∀ e ∈ o.after.toList, Region.binds .any e = true → e.on < j := by
    intro j o hj e he hb
    have := h1 j (lt hj)
    rw [hj] at this
    simp only [Bool.and_eq_true, List.all_eq_true] at this
    have := this.1 e he
    simpa [hb] using this
  refine ⟨back, fun i j x y hij hi hj => ?_, fun j k hb => ?_⟩
  · have := h2 j (lt hj) i hij
    rw [hi, hj] at this
    simp only [Bool.or_eq_true, Bool.and_eq_true, Bool.not_eq_true'] at this
    exact this
  · have hspec := (masks_spec ops.toList []).2
    cases hj : ops[j]? with
    | none =>
      have hlen : (masks ops.toList).getD j 0 = 0 := by
        have hl : ∀ (l : List Oper) (acc : List Nat), (l.foldl (fun acc o => acc ++ [maskStep acc o]) acc).length = acc.length + l.length := by
          intro l
          induction l with
          | nil => intro acc; simp
          | cons x l ih => intro acc; simp only [List.foldl_cons, ih, List.length_append, List.length_cons, List.length_nil]; omega
        have hs : ops.size ≤ j := Array.getElem?_eq_none_iff.1 hj
        have := hl ops.toList []
        simp only [List.length_nil, Nat.zero_add, Array.length_toList] at this
        unfold masks
        rw [List.getD_eq_getElem?_getD, List.getElem?_eq_none (by omega)]
        rfl
      rw [hlen] at hb
      simp at hb
    | some o =>
      refine ⟨o, rfl, ?_⟩
      have h3 := hspec j o (by simpa using hj)
      simp only [List.length_nil, Nat.zero_add] at h3
      have h4 : (masks ops.toList).getD j 0 = maskStep ((masks ops.toList).take j) o := by
        unfold masks
        rw [List.getD_eq_getElem?_getD, h3]
        rfl
      rw [h4] at hb
      unfold maskStep at hb
      rcases fold_bits _ _ _ _ hb with h5 | ⟨e, he, h6, h7⟩
      · simp at h5
      · have h8 := back j o hj e he h6
        refine ⟨e, he, h6, h8, h7.imp id fun h9 => ?_⟩
        rw [List.getD_eq_getElem?_getD, List.getElem?_take_of_lt h8] at h9
        rwa [List.getD_eq_getElem?_getD]

theorem DrawOK.lt {ms : List Nat} (D : DrawOK ops ms) : ∀ j k, (ms.getD j 0).testBit k = true → k < j := by
  intro j
  induction j using Nat.strongRecOn with
  | _ j ih =>
    intro k hb
    obtain ⟨o, ho, e, he, h1, h2, h3⟩ := D.bits j k hb
    rcases h3 with h3 | h3
    · omega
    · have := ih e.on h2 k h3; omega

/-! ### one to the front -/
theorem drawOps_front {i : Nat} {oi : Oper} (hi : ops[i]? = some oi) {l2 : List Nat} {Q : St → Prop} : ∀ (l1 : List Nat) (σ : St),
    (∀ k ∈ l1, k ≠ i ∧ (ms.getD i 0).testBit k = false ∧ (ms.getD k 0).testBit i = false ∧ ∃ ok, ops[k]? = some ok ∧ apartT ops ok oi = true ∧ (storeOp ok && storeOp oi) = false ∧
      (slotOp ok = false → slotOp oi = false → fullAt ops.toList ms k = false ∧ fullAt ops.toList ms i = false)) →
    (drawOps C self ops X ms next (l1 ++ i :: l2) σ).wp Q → (drawOps C self ops X ms next (i :: (l1 ++ l2)) σ).wp Q
  | [], _, _, h => h
  | k :: l1, σ, hk, h => by
    obtain ⟨hne, b1, b2, ok, hok, hap, hst, hfull⟩ := hk k (by simp)
    have ih : ∀ σ, (drawOps C self ops X ms next (l1 ++ i :: l2) σ).wp Q → (drawOps C self ops X ms next (i :: (l1 ++ l2)) σ).wp Q := fun σ => drawOps_front hi l1 σ fun k' hk' => hk k' (by simp [hk'])
    simp only [List.cons_append] at h ⊢
    unfold drawOps at h
    rw [Tree.wp_bind] at h
    obtain ⟨σ1, o1, h1⟩ := Tree.wp_out.1 h
    have h2 := ih σ1 h1
    unfold drawOps at h2
    rw [Tree.wp_bind] at h2
    obtain ⟨σ2, o2, h3⟩ := Tree.wp_out.1 h2
    obtain ⟨σ3, o3, o4⟩ := drawStep_swap hok hi hne b1 b2 hap hfull hst o1 o2
    unfold drawOps
    rw [Tree.wp_bind]
    refine Tree.wp_of_out o3 ?_
    unfold drawOps
    rw [Tree.wp_bind]
    exact Tree.wp_of_out o4 h3

end
end Go.Fx
