/- Contracts: jobs begin; what one time comes to. -/
import Derived.Test.YtccfojgceohciaaB9
namespace Go.Fx
open Go Go.Proofs

/-! ### live.Begin -/
abbrev X18 := Int × (List Fu.Live × Int) × Int
def T18 (x : X18) : St := ⟨puts (J 53) [(1, .int .i64 x.2.1.2), (5, .own 0), (10, .own 0), (11, .int .i64 x.1), (12, .int .i64 x.2.2)], [(0, .rows .live 39 x.2.1.1)], 1⟩
def s18 : List Sh := sets (Js 53) [(1, .keep), (5, .keep), (10, .keep), (11, .keep), (12, .int)]
def e18 : List Sh := sets (Js 53) [(5, .keep)]
def E18 (x : List Fu.Live × Int) : Ex × St := (.exit 0, ⟨puts (J 53) [(5, .own 0)], [(0, .rows .live 39 x.1)], 1⟩)
def begunW (now : Int) (x : Fu.Live) : Fu.Live := { x with J := newJ x.S x.N now (IntKind.i64.wrap (now + x.P)) x.S.C, At := IntKind.i64.wrap (now + x.P), N := IntKind.i64.wrap (x.N + 1) }
theorem b18 (N : Int) (x : List Fu.Live × Int) (i : Int) : roundN c37 60 18 (loopAt c37.P 18 3) (norm2 1 [] [0] s18) (norm2 1 [] [0] e18) (T18 (N, x, i)) =
    .ite (decide (i < N)) (.asrt (0 ≤ i ∧ i < x.1.length) (.asrt (0 ≤ i ∧ i < x.1.length) (.ite (decide ((rd .live x.1 i).At > x.2)) (.ret (.normal, T18 (N, x, IntKind.i64.wrap (i + 1))))
      (.asrt (0 ≤ i ∧ i < x.1.length) (.asrt (0 ≤ i ∧ i < x.1.length) (.ret (.normal, T18 (N, (upd .live x.1 i (begunW x.2 (rd .live x.1 i)), x.2), IntKind.i64.wrap (i + 1))))))))) (.ret (E18 x)) := by kernel_rfl
def g18 (σ : St) : Option X18 :=
  match nth σ.tmps 1, nth σ.tmps 11, nth σ.tmps 12, σ.heap with
  | .int .i64 now, .int .i64 N, .int .i64 i, [(_, .rows .live _ l)] => some (N, (l, now), i)
  | _, _, _, _ => none
def okB (now : Int) (x : Fu.Live) : Prop := nowOK now ∧ (-1099511627776 ≤ x.P ∧ x.P ≤ 1099511627776) ∧ (-1099511627776000 ≤ x.N ∧ x.N ≤ 1099511627776000)
def keepA {r : RTy} {π : Type} (a : π) (_ : r.carrier) : π := a
theorem begunW_eq {now : Int} {x : Fu.Live} (h : okB now x) (ha : decide (x.At > now) = false) : begunW now x = beginL now x := by
  obtain ⟨⟨h1, h2⟩, ⟨h3, h4⟩, h5, h6⟩ := h
  have h7 := of_decide_eq_false ha
  unfold begunW beginL
  rw [wrap_fits (by omega) (by omega), wrap_fits (by omega) (by omega), decide_eq_true (show x.At ≤ now by omega)]
  rfl
theorem beginL_stay {now : Int} {x : Fu.Live} (ha : decide (x.At > now) = true) : beginL now x = x := by
  have h7 := of_decide_eq_true ha
  unfold beginL
  rw [decide_eq_false (show ¬ x.At ≤ now by omega)]
  rfl
def L18 : LoopCon := countF 1 (norm2 1 [] [0] s18) T18 g18 (okM (r := .live) okB) (nxtM (r := .live) beginL keepA) E18
theorem l18 (hs : SubOf c37.P 18 (.loop (loopAt c37.P 18 3))) : SoundLoop c37 (loopAt c37.P 18 3) L18 :=
  count_fold (C := c37) (g := 18) (l := 3) c37_good 60 1 _ _ (Weak.norm2 1 [] [0] s18) (Weak.norm2 1 [] [0] e18) hs T18 g18 (okM (r := .live) okB) (nxtM (r := .live) beginL keepA) E18 (fun _ => by intro h; cases h)
    (fun N x i h0 hi hm hok => .of_eq (b18 N x i) (by
      unfold maxI64 at hm
      rw [wrap_fits (by omega) (by omega)]
      have h1 : i < x.1.length := hok.1
      refine (Tree.out_ite_true (decide_eq_true hi)).2 ⟨⟨h0, h1⟩, ⟨h0, h1⟩, ?_⟩
      cases ha : decide ((rd .live x.1 i).At > x.2) with
      | true =>
        refine (Tree.out_ite_true rfl).2 ?_
        have e : nxtM (r := .live) beginL keepA x i = x := by
          unfold nxtM
          rw [beginL_stay ha, upd_self h0 h1]
          rfl
        rw [e]
        rfl
      | false =>
        refine (Tree.out_ite_false rfl).2 ⟨⟨h0, h1⟩, ⟨h0, h1⟩, ?_⟩
        rw [begunW_eq hok.2 ha]
        rfl))
    (fun N x i hi => .of_eq (b18 N x i) ((Tree.out_ite_false (decide_eq_false (by omega))).2 rfl))
noncomputable def c38 : Cfg := c37.addLoop 18 3 L18
theorem c38_good : GoodCfg c38 := c37_good.addLoop (by unfold OneLoop; kernel_rfl) l18
def beginT (l : List Fu.Live) (now : Int) : Tree (AV × List Blk) :=
  .asrt (boundL l) (.asrt (1 = 1 ∧ T18 ((l.length : Int), (l, now), 0) = T18 ((l.length : Int), (l, now), 0)) (.asrt (0 ≤ (0 : Int) ∧ (l.length : Int) ≤ maxI64 ∧ okI (nxtM (r := .live) beginL keepA) (fun _ _ => (none : Option Unit)) (okM (r := .live) okB) ((l.length : Int) - 0).toNat (l, now) 0)
    (.ret (.own 0, [.rows .live 39 (foldI (nxtM (r := .live) beginL keepA) ((l.length : Int) - 0).toNat (l, now) 0).1]))))
theorem fBegin (l : List Fu.Live) (now : Int) : callC c38 60 18 [.view .live l, .int .i64 now] = beginT l now := by kernel_rfl
def okBs (x : List Fu.Live × Int) : Prop := boundL x.1 ∧ ∀ y ∈ x.1, okB x.2 y
def conBegin : Con := resCon (d2 (dView .live) dInt) okBs fun x => (.own 0, [.rows .live 39 (beginAll x.1 x.2)])
theorem beginT_rez {l : List Fu.Live} {now : Int} (h : okBs (l, now)) : Rez (beginT l now) (.own 0, [.rows .live 39 (beginAll l now)]) := by
  obtain ⟨h1, h2⟩ := h
  have e : ((l.length : Int) - 0).toNat = l.length := by omega
  obtain ⟨k1, k2⟩ := foldM (r := .live) (f := beginL) (g := keepA) (okE := okB) (fun _ _ _ => rfl) (fun _ _ _ h => h) l now h2
  unfold beginT
  rw [e]
  refine .asrt h1 (.asrt ⟨rfl, rfl⟩ (.asrt ⟨by omega, by have h1' : (l.length : Int) * 136 ≤ 140737488355328 := h1; unfold maxI64; omega, k2⟩ (.ret (.refl _) ?_)))
  rw [k1]
  rfl
theorem conBegin_valid : ValidCon c38.P 18 conBegin := resCon_valid c38_good 60 (by kernel_rfl) fun x h => ⟨_, fBegin x.1 x.2, beginT_rez h⟩
noncomputable def c39 : Cfg := c38.addCon 18 conBegin
theorem c39_good : GoodCfg c39 := c38_good.addCon conBegin_valid (by kernel_rfl)

end Go.Fx
