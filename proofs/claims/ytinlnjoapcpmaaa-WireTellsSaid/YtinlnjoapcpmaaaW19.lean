/- The wire seat's functions of the document's answer: what is asked, as bytes. -/
import Derived.Test.YtinlnjoapcpmaaaW18
namespace Go.Fx
open Go Go.Proofs

/-! ### fuseeref16.Put: its loop -/
abbrev X15 := List Int × (Fu.Op × List Int) × Int
def T15 (x : X15) : St := ⟨puts (J 109) [(1, .ptr 0 0), (5, .own 4), (6, .int .i64 x.2.2)], [(0, .cells (opCells { x.2.1.1 with D := x.1 })), (4, .rows (.int .u8) 5 x.2.1.2)], 5⟩
def s15 : List Sh := sets (Js 109) [(1, .keep), (5, .keep), (6, .int)]
def e15 : List Sh := sets (Js 109) [(5, .keep)]
def E15 (x : Fu.Op × List Int) : Ex × St := (.exit 1, ⟨puts (J 109) [(5, .own 4)], [(4, .rows (.int .u8) 5 x.2)], 5⟩)
def ok15 (x : Fu.Op × List Int) (d : Int) : Prop := (x.2 ++ [IntKind.u8.wrap d]).length * 1 ≤ 140737488355328
def nx15 (x : Fu.Op × List Int) (d : Int) : Fu.Op × List Int := (x.1, x.2 ++ [IntKind.u8.wrap d])
theorem b15 (xs : List Int) (x : Fu.Op × List Int) (i : Int) : roundN w37 60 15 (loopAt w37.P 15 17) (norm2 4 [.tmp 5] [0, 4] s15) (norm2 4 [.tmp 5] [4] e15) (T15 (xs, x, i)) =
    .ite (decide (i < xs.length)) (.asrt (0 ≤ i ∧ i < xs.length) (.asrt (ok15 x (rd (.int .i64) xs i)) (.ret (.normal, T15 (xs, nx15 x (rd (.int .i64) xs i), IntKind.i64.wrap (i + 1)))))) (.ret (E15 x)) := by kernel_rfl
def g15 (σ : St) : Option X15 :=
  match σ.heap, nth σ.tmps 6 with
  | [(_, .cells cs), (_, .rows (.int .u8) _ ys)], .int .i64 i => match opOf (.agg cs) with | some o => some (o.D, (o, ys), i) | none => none
  | _, _ => none
def L15 : LoopCon := rangeF (r := .int .i64) 4 (norm2 4 [.tmp 5] [0, 4] s15) T15 g15 ok15 nx15 (fun _ => E15)
theorem l15 (hs : SubOf w37.P 15 (.loop (loopAt w37.P 15 17))) : SoundLoop w37 (loopAt w37.P 15 17) L15 :=
  range_fold (C := w37) (g := 15) (l := 17) w37_good 60 4 _ _ (Weak.norm2 4 [.tmp 5] [0, 4] s15) (Weak.norm2 4 [.tmp 5] [4] e15) hs (.int .i64) T15 g15 ok15 nx15 (fun _ => E15) (fun _ _ => by intro h; cases h)
    (fun xs x i h0 hi hm hok => .of_eq (b15 xs x i) (by
      rw [wrap_fits (by omega) (by unfold maxI64 at hm; omega)]
      exact (Tree.out_ite_true (decide_eq_true hi)).2 ⟨⟨h0, hi⟩, hok, rfl⟩))
    (fun xs x i hi => .of_eq (b15 xs x i) ((Tree.out_ite_false (decide_eq_false (by omega))).2 rfl))
noncomputable def w38 : Cfg := w37.addLoop 15 17 L15
theorem w38_good : GoodCfg w38 := w37_good.addLoop (by unfold OneLoop; kernel_rfl) l15
/-- An append onto a whole array, and onto what is grown. -/
def app1 (xs ys : List Int) (t : Tree (AV × List Blk)) : Tree (AV × List Blk) := .asrt (ys ≠ [] ∧ (xs ++ ys).length * 1 ≤ 140737488355328) t
def app2 (xs ys : List Int) (t : Tree (AV × List Blk)) : Tree (AV × List Blk) := .asrt ((xs ++ ys).length * 1 ≤ 140737488355328) t
def u8w (n : Int) : Int := IntKind.u8.wrap n
def putR (o : Fu.Op) : Tree (AV × List Blk) :=
  .asrt (small63 o) (.ite (!mayOp o) noPut
    (.ite (o.Kind == 0) (app1 [u8w o.Kind] [u8w o.S.C, u8w o.S.T, u8w o.S.Max, u8w o.S.M, u8w o.S.K, u8w o.S.E] (isPut ([u8w o.Kind] ++ [u8w o.S.C, u8w o.S.T, u8w o.S.Max, u8w o.S.M, u8w o.S.K, u8w o.S.E])))
    (.ite (o.Kind == 1) (app1 [u8w o.Kind] (pairL o.ID) (app2 ([u8w o.Kind] ++ pairL o.ID) [u8w o.T, u8w o.Max] (isPut ([u8w o.Kind] ++ pairL o.ID ++ [u8w o.T, u8w o.Max]))))
    (.ite (o.Kind == 2) (app1 [u8w o.Kind] (pairL o.ID) (isPut ([u8w o.Kind] ++ pairL o.ID)))
    (.ite (o.Kind == 3) (app1 [u8w o.Kind] [u8w o.Within, u8w o.C] (app2 ([u8w o.Kind] ++ [u8w o.Within, u8w o.C]) (pairL o.V) (isPut ([u8w o.Kind] ++ [u8w o.Within, u8w o.C] ++ pairL o.V))))
    (.ite (o.Kind == 4) (app1 [u8w o.Kind] [u8w o.D.length]
      (.asrt (4 = 4 ∧ T15 (o.D, (o, [u8w o.Kind] ++ [u8w o.D.length]), 0) = T15 (o.D, (o, [u8w o.Kind] ++ [u8w o.D.length]), 0))
       (.asrt (0 ≤ (0 : Int) ∧ (o.D.length : Int) < maxI64 ∧ okX nx15 (fun _ _ => (none : Option Unit)) ok15 (o, [u8w o.Kind] ++ [u8w o.D.length]) (o.D.drop (0 : Int).toNat))
        (isPut (foldX nx15 (o, [u8w o.Kind] ++ [u8w o.D.length]) (o.D.drop (0 : Int).toNat)).2))))
      (.ret (.tup [.slc 0 0 1 1, .blit true], [.cells [.int .u8 (u8w o.Kind)]]))))))))
theorem f15 (o : Fu.Op) : callC w38 100 15 [opAV o] = putR o := by kernel_rfl
theorem u8w_byte (n : Int) : u8w n = byteOf n 0 := by unfold u8w; rw [wrap_u8, byteOf0]
theorem pairL_eq {n : Int} (h0 : 0 ≤ n) (h1 : n ≤ 65535) : pairL n = [byteOf n 8, byteOf n 0] := by
  unfold pairL
  have e1 : n.tdiv 256 = n / 256 := Int.tdiv_eq_ediv_of_nonneg h0
  have e2 : n.tmod 256 = n % 256 := Int.tmod_eq_emod_of_nonneg h0
  rw [e1, e2, wrap_fits (by omega) (by omega), wrap_u8, wrap_u8, byteOf8, byteOf0]
  simp only [List.cons.injEq, and_true, true_and]
  omega
theorem may_id {o : Fu.Op} (h : mayOp o = true) (hk : o.Kind = 1 ∨ o.Kind = 2) : 0 ≤ o.ID ∧ o.ID ≤ 65535 := by
  have h1 := (may_parts h).1
  rcases hk with hk | hk
  · simp only [hasOf, hk, if_true, if_neg (show ¬ (1 : Int) = 0 by decide), List.all_cons, badF2, Bool.and_eq_true, Bool.not_not, decide_eq_true_eq] at h1
    omega
  · simp only [hasOf, hk, if_true, if_neg (show ¬ (2 : Int) = 0 by decide), if_neg (show ¬ (2 : Int) = 1 by decide), List.all_cons, badF2, Bool.and_eq_true, Bool.not_not, decide_eq_true_eq] at h1
    omega
theorem may_v {o : Fu.Op} (h : mayOp o = true) (hk : o.Kind = 3) : 0 ≤ o.V ∧ o.V ≤ 65535 := by
  have h1 := (may_parts h).1
  simp only [hasOf, hk, if_true, if_neg (show ¬ (3 : Int) = 0 by decide), if_neg (show ¬ (3 : Int) = 1 by decide), if_neg (show ¬ (3 : Int) = 2 by decide), List.all_cons, badF2, Bool.and_eq_true, Bool.not_not, decide_eq_true_eq] at h1
  omega
def putP (o : Fu.Op) : AV × List Blk := if mayOp o = true then (.tup [.own 0, .blit true], [.rows (.int .u8) 5 (putB o)]) else (.tup [.nils, .blit false], [])
theorem isPut_rez {xs ys : List Int} (h : xs = ys) : Rez (isPut xs) (.tup [.own 0, .blit true], [.rows (.int .u8) 5 ys]) := .ret (.refl _) (by rw [h])
theorem app1_rez {xs ys : List Int} {t : Tree (AV × List Blk)} {r : AV × List Blk} (h : ys ≠ []) (hl : (xs ++ ys).length ≤ 1000000) (ht : Rez t r) : Rez (app1 xs ys t) r := .asrt ⟨h, by omega⟩ ht
theorem app2_rez {xs ys : List Int} {t : Tree (AV × List Blk)} {r : AV × List Blk} (hl : (xs ++ ys).length ≤ 1000000) (ht : Rez t r) : Rez (app2 xs ys t) r := .asrt (by omega) ht
theorem fold15 (o : Fu.Op) : ∀ (l : List Int) (pre : List Int), foldX (ρ := Int) nx15 (o, pre) l = (o, pre ++ l.map IntKind.u8.wrap)
  | [], pre => by simp [foldX]
  | x :: l, pre => by
    unfold foldX
    rw [show nx15 (o, pre) x = (o, pre ++ [IntKind.u8.wrap x]) from rfl, fold15 o l]
    simp
theorem ok15_all (o : Fu.Op) : ∀ (l pre : List Int), pre.length + l.length ≤ 140737488355328 → okX (ρ := Int) nx15 (fun _ _ => (none : Option Unit)) ok15 (o, pre) l
  | [], _, _ => trivial
  | x :: l, pre, h => by
    simp only [List.length_cons] at h
    exact ⟨by simp [ok15]; omega, fun _ => ok15_all o l _ (by simp; omega)⟩
theorem putR_rez {o : Fu.Op} (h : small63 o) : Rez (putR o) (putP o) := by
  refine .asrt h ?_
  unfold putP
  cases hm : mayOp o with
  | false =>
    exact .itet rfl (.ret (.refl _) rfl)
  | true =>
    refine .itee rfl ?_
    rw [if_pos rfl]
    rcases may_kind hm with hk | hk | hk | hk | hk
    · refine .itet (by rw [hk]; rfl) (app1_rez (by simp) (by simp) (isPut_rez ?_))
      simp [putB, hk, u8w_byte, byteOf0, wrap_u8]
    · obtain ⟨h1, h2⟩ := may_id hm (.inl hk)
      refine .itee (by rw [hk]; rfl) (.itet (by rw [hk]; rfl) ?_)
      rw [pairL_eq h1 h2]
      refine app1_rez (by simp) (by simp) (app2_rez (by simp) (isPut_rez ?_))
      simp [putB, hk, u8w_byte, byteOf0, wrap_u8]
    · obtain ⟨h1, h2⟩ := may_id hm (.inr hk)
      refine .itee (by rw [hk]; rfl) (.itee (by rw [hk]; rfl) (.itet (by rw [hk]; rfl) ?_))
      rw [pairL_eq h1 h2]
      refine app1_rez (by simp) (by simp) (isPut_rez ?_)
      simp [putB, hk, u8w_byte, byteOf0, wrap_u8]
    · obtain ⟨h1, h2⟩ := may_v hm hk
      refine .itee (by rw [hk]; rfl) (.itee (by rw [hk]; rfl) (.itee (by rw [hk]; rfl) (.itet (by rw [hk]; rfl) ?_)))
      rw [pairL_eq h1 h2]
      refine app1_rez (by simp) (by simp) (app2_rez (by simp) (isPut_rez ?_))
      simp [putB, hk, u8w_byte, byteOf0, wrap_u8]
    · have h4 := may_len hm
      refine .itee (by rw [hk]; rfl) (.itee (by rw [hk]; rfl) (.itee (by rw [hk]; rfl) (.itee (by rw [hk]; rfl) (.itet (by rw [hk]; rfl) (app1_rez (by simp) (by simp) (.asrt ⟨rfl, rfl⟩ (.asrt ?_ (isPut_rez ?_))))))))
      · exact ⟨by omega, by unfold maxI64; omega, ok15_all _ _ _ (by simp; omega)⟩
      · rw [Int.toNat_zero, List.drop_zero, fold15]
        simp [putB, hk, u8w]
theorem con15_valid : ValidCon w38.P 15 con9 := by
  refine con_of (n := 100) w38_good (by kernel_rfl) fun args r h => ?_
  unfold con9 at h
  split at h
  · split at h
    · rename_i o ho
      obtain ⟨hlen, h⟩ := h
      obtain ⟨v, h1, h2⟩ := putR_rez hlen
      have e : r = putP o := by
        unfold putP
        cases hm : mayOp o with
        | true => rw [hm] at h; exact ((Tree.out_ite_true rfl).1 h).symm
        | false => rw [hm] at h; exact ((Tree.out_ite_false rfl).1 h).symm
      rw [e]
      exact ⟨_, v, .cons (.op ho) .nil, h1, .of_eq (f15 o) h2⟩
    · exact h.elim
  · exact h.elim
/-- So with bytes of the caller's own. -/
def con9o : Con
  | [x] => match opOf x with
    | some o => .asrt ((o.D.length : Int) < 9223372036854775807) (.ret (.tup [.own 0, .bool (mayOp o)], [.rows (.int .u8) 5 (putO o)]))
    | none => .fail
  | _ => .fail
theorem con9o_valid {P : Program} {g : Nat} (V : ValidCon P g con9) : ValidCon P g con9o := V.orNil fun args r h => by
  unfold con9o at h
  unfold con9
  split at h
  · split at h
    · rename_i o ho
      obtain ⟨h1, h2⟩ := h
      cases h2
      simp only [ho]
      cases hm : mayOp o with
      | true =>
        refine .inl ⟨.tup [.own 0, .blit true], .tup (.cons (.refl _) (.cons (.blit rfl) .nil)), h1, ?_⟩
        rw [putO_yes hm]
        exact (Tree.out_ite_true rfl).2 rfl
      | false =>
        refine .inr (.inl ⟨[.blit false], [.bool false], .int .u8, 5, .cons (.blit rfl) .nil, by rw [putO_no hm], h1, ?_⟩)
        exact (Tree.out_ite_false rfl).2 rfl
    · exact h.elim
  · exact h.elim
noncomputable def w39 : Cfg := w38.addCon 15 con9o
theorem w39_good : GoodCfg w39 := w38_good.addCon (con9o_valid con15_valid) (by kernel_rfl)

end Go.Fx
