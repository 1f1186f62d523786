import Derived.Test.YtneflbpekennkaaGreatO2
import Derived.WalkKit
import Derived.Shelf.RegionOpenPlain
import Derived.Deep.LoopGhost
import Derived.Deep.RegionLaw
import Derived.Lib.Walk
import Derived.Lib.SliceRun
/- A function that uses up a block: slices.Delete of jobs that came once. -/
namespace Go.Fx
open Go Go.Proofs Go.RowKit

theorem step_append_row {P : Program} {ops : Array Oper} {o : Oper} {a : Act} {w : World} {K : Act → World → Prop} {Q : Exit → Act → World → Prop} {E : Prop}
    (hg : o.guard = none) (s x : Operand) (t : TypeId) (hop : o.op = Op.call { callee := Callee.builtin Builtin.append, args := #[s, x], argTypes := #[t, t] })
    (e : TypeId) (i : TypeInfo) (size : Nat) (h1 : P.underlying t = some (.slice e)) (h2 : P.info? e = some i) (h4 : i.size = size)
    (b n cap : Nat) (hs : a.eval s = .slice (some ⟨b, 0, none⟩) n cap) (cur : Array Value) (hh : w.heap[b]? = some (.cells cur e (0, 0)))
    (ad : Addr) (m c : Nat) (news : List Value) (hx : a.eval x = .slice (some ad) m c) (hn : news.length = m * size) (hc : ∀ j u, news[j]? = some u → w.cell? (ad.add j) = some u) (h1c : ∀ u ∈ news, u.oneCell' = true)
    (hroom : n + m ≤ cap) (hfit : n * size + news.length ≤ cur.size)
    (hK : K (a.put o.dst (.slice (some ⟨b, 0, none⟩) (n + m) cap)) (w.setRow b (cur.toList.take (n * size) ++ news ++ cur.toList.drop (n * size + news.length)).toArray)) :
    if Region.wanted o (yielded ops a.tmps) = true then Oper.wp P o a w K Q else E := by
  have hw : Region.wanted o (yielded ops a.tmps) = true := by simp [Region.wanted, hg]
  rw [if_pos hw]
  subst h4
  have hrun := run_append_room (P := P) w t o.type e i h1 h2 b n cap cur hh ad m c news hn hc h1c hroom hfit
  unfold Oper.wp
  have e0 : (execOp a.eval o).run P w = .ok (.value (.slice (some ⟨b, 0, none⟩) (n + m) cap)) (w.setRow b (cur.toList.take (n * i.size) ++ news ++ cur.toList.drop (n * i.size + news.length)).toArray) := by
    simp [execOp, hop, resolve, invoke, builtin, hs, hx, hrun]
  rw [e0, Oper.upon_value]
  exact hK

set_option maxHeartbeats 4000000 in
set_option maxRecDepth 1000000 in
theorem del_calls (B cap i j n : Nat) (cur : Array Value) (w : World) (hh : w.heap[B]? = some (.cells cur 49 (0, 0))) (hn : n ≤ cap) (hcap : cur.size = cap * 5) (hij : i < j) (hj : j ≤ n) (h1 : ∀ u ∈ cur.toList.take (n * 5), u.oneCell' = true) :
    Calls Tryz.prog 66 #[.slice (some ⟨B, 0, none⟩) n cap, .int .i64 i, .int .i64 j] w fun e w' => e = .returned (.slice (some ⟨B, 0, none⟩) (i + (n - j)) cap) ∧ ∃ cur', w'.heap[B]? = some (.cells cur' 49 (0, 0)) ∧ cur'.size = cur.size ∧
      cur'.toList.take ((i + (n - j)) * 5) = cur.toList.take (i * 5) ++ (cur.toList.take (n * 5)).drop (j * 5) ∧ Chg w w' B := by
  obtain ⟨news, hnews⟩ : ∃ news, news = (cur.toList.take (n * 5)).drop (j * 5) := ⟨_, rfl⟩
  have hlen : news.length = (n - j) * 5 := by rw [hnews]; simp; omega
  obtain ⟨A, hA, hsrc⟩ : ∃ A : Addr, (if cap = j then some (⟨B, 0, none⟩ : Addr) else some ⟨B, j * 5, none⟩) = some A ∧ Hid (∀ t u, news[t]? = some u → w.drew.cell? (A.add t) = some u) := by
    by_cases h : cap = j
    · refine ⟨⟨B, 0, none⟩, by simp [h], fun t u hu => ?_⟩
      have h0 : news.length = 0 := by rw [hlen]; omega
      rw [List.length_eq_zero_iff.1 h0] at hu
      simp at hu
    · refine ⟨⟨B, j * 5, none⟩, by simp [h], fun t u hu => ?_⟩
      have ht : t < (n - j) * 5 := by
        have := (List.getElem?_eq_some_iff.1 hu).1
        rwa [hlen] at this
      rw [hnews, List.getElem?_drop, List.getElem?_take_of_lt (by omega), Array.getElem?_toList] at hu
      have : (⟨B, j * 5, none⟩ : Addr).add t = ⟨B, j * 5 + t, none⟩ := by unfold Addr.add; split <;> simp_all
      rw [this]
      show w.cell? _ = _
      simp [World.cell?, hh, hu]
  have s1 : Hid (news.length = (n - j) * 5) := hlen
  have s2 : Hid (∀ u ∈ news, u.oneCell' = true) := fun u hu => h1 u (List.mem_of_mem_drop (by rw [← hnews]; exact hu))
  obtain ⟨c1, hc1⟩ : ∃ c1, c1 = (cur.toList.take (i * 5) ++ news ++ cur.toList.drop (i * 5 + news.length)).toArray := ⟨_, rfl⟩
  obtain ⟨W1, hW1⟩ : ∃ W1, W1 = w.drew.setRow B c1 := ⟨_, rfl⟩
  have hb1 : Hid (w.drew.heap[B]? = some (.cells cur 49 (0, 0))) := hh
  have hs1 : c1.size = cur.size := by rw [hc1]; simp [hlen]; omega
  have hh1 : W1.heap[B]? = some (.cells c1 49 (0, 0)) := by rw [hW1]; exact setRow_heap w.drew B cur _ 49 _ hh
  have hX : Aside (W1 = w.drew.setRow B c1) := hW1
  have hc1' : Aside (c1 = (cur.toList.take (i * 5) ++ news ++ cur.toList.drop (i * 5 + news.length)).toArray) := hc1
  have hfit : Hid (i * 5 + news.length ≤ cur.size) := by show _ ≤ _; rw [hlen]; omega
  obtain ⟨i0, hi0, hz0, hz1, hz2⟩ : ∃ i0, Tryz.prog.info? 49 = some i0 ∧ True ∧ i0.size = 5 ∧ True := by
    have : (Tryz.prog.info? 49).map (·.size) = some 5 := by kernel_rfl
    cases h : Tryz.prog.info? 49 with
    | none => rw [h] at this; cases this
    | some x => rw [h] at this; exact ⟨x, rfl, trivial, by simpa using this, trivial⟩
  obtain ⟨cur', hcl⟩ : ∃ cur' : Array Value, Hid (cur'.size = c1.size ∧ cur'.toList.take ((i + (n - j)) * 5) = c1.toList.take ((i + (n - j)) * 5)) ∧ ∀ ty, (Builtin.clear_ #[23] ty #[.slice (some ⟨B, (i + (n - j)) * 5, none⟩) (n - (i + (n - j))) (cap - (i + (n - j)))]).run Tryz.prog W1 = .ok (.tuple #[]) (W1.setRow B cur') := by
    obtain ⟨p, hp⟩ : ∃ p, n - (i + (n - j)) = p + 1 := ⟨n - (i + (n - j)) - 1, by omega⟩
    have hz : ∀ ty, (Builtin.clear_ #[23] ty #[.slice (some ⟨B, (i + (n - j)) * 5, none⟩) (p + 1) (cap - (i + (n - j)))]).run Tryz.prog W1 = .ok (.tuple #[]) (W1.setRow B (c1.toList.take ((i + (n - j)) * 5) ++ (List.replicate ((p + 1) * 5) (Value.int .i64 0)) ++ c1.toList.drop ((i + (n - j)) * 5 + (p + 1) * 5)).toArray) := by
      intro ty
      have hst := run_storeCells_at Tryz.prog B ((i + (n - j)) * 5) 49 (List.replicate ((p + 1) * 5) (Value.int .i64 0)) 0 c1 W1 hh1 (by simp; omega) (fun v hv => by rw [List.eq_of_mem_replicate hv]; rfl)
      simp only [Nat.add_zero, List.length_replicate] at hst
      have ez : (Builtin.zeroCells #[Value.int .i64 0, .int .i64 0, .int .i64 0, .int .i64 0, .int .i64 0] (p + 1)).toList = List.replicate ((p + 1) * 5) (Value.int .i64 0) := by
        rw [zeroCells_eq (by decide) (p + 1)]
        have : (#[Value.int .i64 0, .int .i64 0, .int .i64 0, .int .i64 0, .int .i64 0] : Array Value).toList = List.replicate 5 (Value.int .i64 0) := rfl
        rw [this, List.flatten_replicate_replicate]
      have hv : (zeroValue 49).run Tryz.prog W1 = .ok (.agg #[Value.int .i64 0, .int .i64 0, .int .i64 0, .int .i64 0, .int .i64 0]) W1 := Tryz.zeroValue49 W1
      simp only [Builtin.clear_, List.getElem?_toArray, List.getElem?_cons_zero, run_underlying Tryz.underlying23, Sem.run_bind, Result.andThen_ok, hv, Value.cells, ez, hst, Sem.run_pure]
    rw [hp]
    refine ⟨_, ⟨?_, ?_⟩, hz⟩
    · simp; omega
    · rw [List.toList_toArray, List.append_assoc, List.take_append_of_le_length (by simp; omega)]
      exact List.take_of_length_le (by simp; omega) |>.trans rfl
  obtain ⟨hcur, hcl⟩ := hcl
  have hic : i ≤ cap := by omega
  have hjc : j ≤ cap := by omega
  have hlt : i < n := by omega
  have hnn : Hid (news = (cur.toList.take (n * 5)).drop (j * 5)) := hnews
  clear hW1 hh1 hc1 hh hnews hlen
  have mixed : Tryz.prog.follows .mixedOrders = true := by kernel_rfl
  go_enter Tryz.func66, Tryz.ntmps66
  go_wp2_with fail
  go_region_law_o (refine step_append_row rfl (.tmp 22) (.tmp 25) 23 rfl 49 i0 5 Tryz.underlying23 hi0 hz1 B i cap (by simp [Act.eval, Act.put]) cur hb1.out A (n - j) (cap - j) news (by simp [Act.eval, Act.put, ← hA]) s1.out hsrc.out s2.out (by omega) hfit.out ?_; rw [← hc1'.out, ← hX.out])
  go_wp2
  go_ret
  refine ⟨rfl, cur', ?_, ?_, ?_, ?_⟩
  · rw [hX.out]
    exact setRow_heap _ B c1 cur' 49 _ (setRow_heap w.drew B cur c1 49 _ hb1.out)
  · rw [hcur.out.1, hs1]
  · rw [hcur.out.2, hc1'.out, hnn.out]
    have hl2 : (cur.toList.take (i * 5) ++ (cur.toList.take (n * 5)).drop (j * 5)).length = (i + (n - j)) * 5 := by
      simp; omega
    rw [List.toList_toArray, ← hl2, List.take_left]
  · rw [hX.out]
    have k1 := Chg.setRow w.drew B c1
    have k2 := Chg.setRow (w.drew.setRow B c1) B cur'
    exact ⟨k2.os.trans k1.os, k2.tape.trans k1.tape, k2.output.trans k1.output, k2.size.trans k1.size, fun k hk => (k2.other k hk).trans (k1.other k hk)⟩

def eatDel : TypeId → List AV → Tree Blk
  | e, [.view .ape xs, .int .i64 i, .int .i64 j] => .asrt (e = 49 ∧ (0 ≤ i ∧ i < xs.length) ∧ j = i + 1) (.ret (.rows .ape e (xs.eraseIdx i.toNat)))
  | _, _ => .fail
theorem eatDel_valid : ValidEat Tryz.prog 66 eatDel := by
  refine ⟨enters_of (by kernel_rfl), fun r e' xs' rest blk hout w S φ b next B cap us sv vals hb hlt hfits hrow hreps hone hvals hg => ?_⟩
  unfold eatDel at hout
  split at hout
  · rename_i e xs i j hargs
    cases hargs
    obtain ⟨⟨rfl, ⟨h0, h1⟩, rfl⟩, hout⟩ := hout
    cases hout
    cases B with
    | none =>
      exfalso
      rcases hrow.2 with ⟨_, h⟩ | ⟨_, _, _, h, _⟩
      · have : (xs.length : Int) = 0 := by exact_mod_cast h
        omega
      · simp [baseOf] at h
    | some B =>
      have hfits' : sv = .slice (some ⟨B, 0, none⟩) xs.length cap := hfits
      subst hfits'
      cases hvals with
      | int _ _ hv =>
        cases hv with
        | int _ _ hv =>
          cases hv.nil_inv
          have hrow0 := hrow
          obtain ⟨h40, hrow⟩ := hrow
          rcases hrow with ⟨h7, _⟩ | ⟨g', cap', cur, hv, _, hh, h8, h9, h10, h11⟩
          · simp [baseOf] at h7
          simp [baseOf] at hv
          obtain ⟨rfl, rfl⟩ := hv
          obtain ⟨k, rfl⟩ : ∃ k : Nat, i = (k : Int) := ⟨i.toNat, by omega⟩
          have hk : k < xs.length := by omega
          have hc := del_calls B cap k (k + 1) xs.length cur w hh h8 h10 (by omega) (by omega) (by
            have : RTy.size .ape = 5 := rfl
            rw [this] at h11
            rw [h11]; exact hone)
          refine (show Calls _ _ _ _ _ from hc).mono ?_
          rintro en w' ⟨rfl, cur', q1, q2, q3, q4⟩
          have hlen : (xs.eraseIdx (k : Int).toNat).length = k + (xs.length - (k + 1)) := by
            rw [show (k : Int).toNat = k by omega, List.length_eraseIdx_of_lt hk]; omega
          have m : Moved w w' φ (some b) (some B) := ⟨q4.os, q4.tape, q4.output, fun k _ hj _ => q4.other k (fun e => hj (by rw [e])), fun _ hB => by cases hB; exact ⟨by rw [q4.size]; exact hlt _ rfl, .inr ⟨b, _, _, rfl, hb⟩⟩⟩
          have e5 : RTy.size .ape = 5 := rfl
          rw [e5] at h11 h10 h40
          have eus : cur'.toList.take ((k + (xs.length - (k + 1))) * 5) = us.take (k * 5) ++ us.drop ((k + 1) * 5) := by
            rw [q3, h11, ← h11, List.take_take, Nat.min_eq_left (by omega), h11]
          have t1 := flatMap_takeDrop .ape xs 0 k
          have t2 := flatMap_takeDrop .ape xs (k + 1) xs.length
          simp only [List.drop_zero, Nat.zero_mul, e5] at t1 t2
          rw [List.take_length, List.take_of_length_le (by rw [flatMap_len, e5]; omega)] at t2
          have er : (xs.eraseIdx (k : Int).toNat).flatMap (RTy.enc .ape) = (xs.flatMap (RTy.enc .ape)).take (k * 5) ++ (xs.flatMap (RTy.enc .ape)).drop ((k + 1) * 5) := by
            rw [show (k : Int).toNat = k by omega, List.eraseIdx_eq_take_drop_succ, List.flatMap_append, t1, t2]
          refine ⟨_, some B, cap, k + (xs.length - (k + 1)), rfl, m, rfl, hlen.symm, us.take (k * 5) ++ us.drop ((k + 1) * 5), ⟨?_, .inr ⟨B, cap, cur', rfl, Nat.zero_le _, q1, by omega, h9, by rw [q2]; exact h10, ?_⟩⟩, ?_, ?_⟩
          · have hs : cur'.toList.length = cap * 5 := by have := q2.trans h10; simpa using this
            rw [← eus, List.length_take, hs]
            show min _ _ = _ * 5
            omega
          · rw [e5, eus]
          · rw [er]
            exact ((hreps.take _).app (hreps.drop _)).mono (m.mono hg)
          · intro u hu
            rcases List.mem_append.1 hu with hu | hu
            · exact hone u (List.mem_of_mem_take hu)
            · exact hone u (List.mem_of_mem_drop hu)
  · exact hout.elim
noncomputable def c118 : Cfg := (c117.addEat 66 eatDel).addCuts [23]
theorem c118_good : GoodCfg c118 := (c117_good.addEat eatDel_valid).addCuts _
end Go.Fx
