/- Contracts: what one time comes to. -/
import Derived.Test.YtccfojgceohciaaB10
namespace Go.Fx
open Go Go.Proofs

/-! ### live.Step -/
abbrev X13 := Int × (List Fu.Live × Int × Bool) × Int
def T13 (x : X13) : St := ⟨puts (J 66) [(1, .int .i64 x.2.1.2.1), (6, .own 0), (8, .bool x.2.1.2.2), (33, .own 0), (34, .int .i64 x.1), (35, .int .i64 x.2.2)], [(0, .rows .live 39 x.2.1.1)], 1⟩
def s13 : List Sh := sets (Js 66) [(1, .keep), (6, .keep), (8, .bool), (33, .keep), (34, .keep), (35, .int)]
def e13 : List Sh := sets (Js 66) [(6, .keep), (8, .bool)]
def E13 (x : List Fu.Live × Int × Bool) : Ex × St := (.exit 0, ⟨puts (J 66) [(6, .own 0), (8, .bool x.2.2)], [(0, .rows .live 39 x.1)], 1⟩)
theorem b13 (N : Int) (x : List Fu.Live × Int × Bool) (i : Int) : roundN c39 60 13 (loopAt c39.P 13 7) (norm2 1 [] [0] s13) (norm2 1 [] [0] e13) (T13 (N, x, i)) =
    .ite (decide (i < N)) (.asrt (0 ≤ i ∧ i < x.1.length) (.asrt (0 ≤ i ∧ i < x.1.length) (.asrt (x.2.2 = false → (atF (jobAt x.1 i) (IntKind.i64.wrap (x.2.1 + 1)) == 3) = true → smallC (jobAt x.1 i)) (.asrt (0 ≤ i ∧ i < x.1.length)
       (.asrt (0 ≤ i ∧ i < x.1.length) (.ret (.normal, T13 (N, (upd .live x.1 i { (rd .live x.1 i) with J := atJ (jobAt x.1 i) (IntKind.i64.wrap (x.2.1 + 1)) }, x.2.1, x.2.2 || (atF (jobAt x.1 i) (IntKind.i64.wrap (x.2.1 + 1)) == 3 && mustJ (jobAt x.1 i))), IntKind.i64.wrap (i + 1))))))))) (.ret (E13 x)) := by kernel_rfl
def g13 (σ : St) : Option X13 :=
  match nth σ.tmps 1, nth σ.tmps 8, nth σ.tmps 34, nth σ.tmps 35, σ.heap with
  | .int .i64 now, .bool m, .int .i64 N, .int .i64 i, [(_, .rows .live _ l)] => some (N, (l, now, m), i)
  | _, _, _, _, _ => none
def fM (a : Int × Bool) (y : Fu.Live) : Fu.Live := endL (a.1 + 1) y
def gM (a : Int × Bool) (y : Fu.Live) : Int × Bool := (a.1, a.2 || missL (a.1 + 1) y)
def okE13 (a : Int × Bool) (y : Fu.Live) : Prop := nowOK a.1 ∧ smallC y.J
theorem atF_over (j : Fu.Job) (n : Int) : (atF j n == 3) = overJ j n := by unfold atF; cases overJ j n <;> rfl
def L13 : LoopCon := countF 1 (norm2 1 [] [0] s13) T13 g13 (okM (r := .live) okE13) (nxtM (r := .live) fM gM) E13
theorem l13 (hs : SubOf c39.P 13 (.loop (loopAt c39.P 13 7))) : SoundLoop c39 (loopAt c39.P 13 7) L13 :=
  count_fold (C := c39) (g := 13) (l := 7) c39_good 60 1 _ _ (Weak.norm2 1 [] [0] s13) (Weak.norm2 1 [] [0] e13) hs T13 g13 (okM (r := .live) okE13) (nxtM (r := .live) fM gM) E13 (fun _ => by intro h; cases h)
    (fun N x i h0 hi hm hok => .of_eq (b13 N x i) (by
      unfold maxI64 at hm
      have h1 : i < x.1.length := hok.1
      have h2 : nowOK x.2.1 := hok.2.1
      have h3 : smallC (jobAt x.1 i) := hok.2.2
      unfold nowOK at h2
      rw [wrap_fits (n := i + 1) (by omega) (by omega), wrap_fits (n := x.2.1 + 1) (by omega) (by omega), atF_over]
      exact (Tree.out_ite_true (decide_eq_true hi)).2 ⟨⟨h0, h1⟩, ⟨h0, h1⟩, fun _ _ => h3, ⟨h0, h1⟩, ⟨h0, h1⟩, rfl⟩))
    (fun N x i hi => .of_eq (b13 N x i) ((Tree.out_ite_false (decide_eq_false (by omega))).2 rfl))
noncomputable def c40 : Cfg := c39.addLoop 13 7 L13
theorem c40_good : GoodCfg c40 := c39_good.addLoop (by unfold OneLoop; kernel_rfl) l13
def endPart (L : List Fu.Live) (now : Int) : Tree (AV × List Blk) :=
  .asrt (1 = 1 ∧ T13 ((L.length : Int), (L, now, false), 0) = T13 ((L.length : Int), (L, now, false), 0)) (.asrt (0 ≤ (0 : Int) ∧ (L.length : Int) ≤ maxI64 ∧ okI (nxtM (r := .live) fM gM) (fun _ _ => (none : Option Unit)) (okM (r := .live) okE13) ((L.length : Int) - 0).toNat (L, now, false) 0)
    (.ret (.tup [.own 0, .bool (foldI (nxtM (r := .live) fM gM) ((L.length : Int) - 0).toNat (L, now, false) 0).2.2], [.rows .live 39 (foldI (nxtM (r := .live) fM gM) ((L.length : Int) - 0).toNat (L, now, false) 0).1])))
def stepPart (B : List Fu.Live) (now : Int) : Tree (AV × List Blk) :=
  .asrt (okF B) (.ite (firstL B != -1) (.asrt (0 ≤ firstL B ∧ firstL B < B.length) (.asrt (0 ≤ firstL B ∧ firstL B < B.length) (.asrt (smallC (jobAt B (firstL B))) (.asrt (0 ≤ firstL B ∧ firstL B < B.length) (.asrt (0 ≤ firstL B ∧ firstL B < B.length)
    (endPart (upd .live B (firstL B) { (rd .live B (firstL B)) with J := stepJ (jobAt B (firstL B)) }) now)))))) (endPart B now))
theorem fLiveStep (l : List Fu.Live) (now : Int) : callC c40 60 13 [.view .live l, .int .i64 now] = .asrt (okBs (l, now)) (stepPart (beginAll l now) now) := by kernel_rfl
def okSt (x : List Fu.Live × Int) : Prop := okBs x ∧ nowOK x.2 ∧ ∀ y ∈ beginAll x.1 x.2, smallC y.J
theorem foldl_gM (now : Int) : ∀ (l : List Fu.Live) (b : Bool), l.foldl gM (now, b) = (now, b || l.any (missL (now + 1)))
  | [], b => by simp
  | y :: l, b => by
    rw [List.foldl_cons, show gM (now, b) y = (now, b || missL (now + 1) y) from rfl, foldl_gM now l, List.any_cons, Bool.or_assoc]
theorem endPart_rez {L : List Fu.Live} {now : Int} (hn : nowOK now) (hl : (L.length : Int) < 17592186044416) (h : ∀ y ∈ L, smallC y.J) : Rez (endPart L now) (.tup [.own 0, .bool (L.any (missL (now + 1)))], [.rows .live 39 (L.map (endL (now + 1)))]) := by
  have e : ((L.length : Int) - 0).toNat = L.length := by omega
  obtain ⟨k1, k2⟩ := foldM (r := .live) (f := fM) (g := gM) (okE := okE13) (fun _ _ _ => rfl) (fun _ _ _ h => h) L (now, false) (fun y hy => ⟨hn, h y hy⟩)
  unfold endPart
  rw [e]
  refine .asrt ⟨rfl, rfl⟩ (.asrt ⟨by omega, by unfold maxI64; omega, k2⟩ (.ret ?_ ?_))
  · rw [k1, foldl_gM]; exact .eq (by simp)
  · rw [k1]; rfl
theorem smallC_step {j : Fu.Job} (h : smallC j) (hr : j.Ran + 1 ≤ 1000000) : smallC (stepJ j) := by
  unfold stepJ smallC at *
  cases j.On <;> simp only [cond_true, cond_false]
  · unfold zeroJ; simp
  · cases decide (j.Ran + 1 ≥ j.D) || decide (j.Ran + 1 ≥ j.C) <;> simp only [cond_true, cond_false]
    · unfold ran1; simp only; omega
    · unfold zeroJ; simp
theorem must_ran {j : Fu.Job} (hm : mustJ j = true) (h : smallC j) : j.Ran + 1 ≤ 1000000 := by
  unfold mustJ worst at hm
  cases ho : j.On with
  | false => rw [ho] at hm; cases hm
  | true =>
    rw [ho] at hm
    simp at hm
    unfold smallC at h
    omega
theorem mem_upd {r : RTy} {xs : List r.carrier} {i : Int} {z y : r.carrier} (h : y ∈ upd r xs i z) : y ∈ xs ∨ y = z := List.mem_or_eq_of_mem_set h
theorem runFirst_small {B : List Fu.Live} (h : ∀ y ∈ B, smallC y.J) : ∀ y ∈ runFirst B, smallC y.J := by
  intro y hy
  unfold runFirst at hy
  rcases firstL_range B with hf | ⟨h0, h1⟩
  · rw [hf] at hy; exact h y hy
  · rw [show (firstL B == -1) = false by simp; omega] at hy
    rcases mem_upd (r := .live) hy with h2 | h2
    · exact h y h2
    · rw [h2]
      have hs := h _ (rd_mem h0 h1)
      refine smallC_step hs (must_ran ?_ hs)
      rcases firstL_spec B with h3 | h3
      · omega
      · exact h3.2.2.1
theorem runFirst_len (B : List Fu.Live) : (runFirst B).length = B.length := by
  unfold runFirst
  cases (firstL B == -1) with
  | true => rfl
  | false => exact upd_len (r := .live) _ _ _
theorem stepPart_rez {B : List Fu.Live} {now : Int} (hn : nowOK now) (hl : (B.length : Int) < 17592186044416) (h : ∀ y ∈ B, smallC y.J) :
    Rez (stepPart B now) (.tup [.own 0, .bool ((runFirst B).any (missL (now + 1)))], [.rows .live 39 ((runFirst B).map (endL (now + 1)))]) := by
  have hs := runFirst_small h
  have hlen := runFirst_len B
  refine .asrt ⟨hl, h⟩ (ite_rez (fun hf => ?_) fun hf => ?_)
  · have h1 : firstL B ≠ -1 := by simpa using hf
    have h2 := (firstL_range B).resolve_left h1
    have e : runFirst B = upd .live B (firstL B) { (rd .live B (firstL B)) with J := stepJ (jobAt B (firstL B)) } := by
      unfold runFirst
      rw [show (firstL B == -1) = false by simpa using h1]
      rfl
    rw [← e]
    exact .asrt h2 (.asrt h2 (.asrt (h _ (rd_mem h2.1 h2.2)) (.asrt h2 (.asrt h2 (endPart_rez hn (by omega) hs)))))
  · have h1 : firstL B = -1 := by simpa using hf
    have e : runFirst B = B := by unfold runFirst; rw [h1]; rfl
    rw [e]
    exact endPart_rez hn hl h
def conLStep : Con := resCon (d2 (dView .live) dInt) okSt fun x => (.tup [.own 0, .bool (missedL x.1 x.2)], [.rows .live 39 (stepL x.1 x.2)])
theorem conLStep_valid : ValidCon c40.P 13 conLStep := resCon_valid c40_good 60 (by kernel_rfl) fun x h => ⟨_, fLiveStep x.1 x.2, .asrt h.1 (stepPart_rez h.2.1 (by
  have := h.1.1
  unfold boundL at this
  have e : (beginAll x.1 x.2).length = x.1.length := List.length_map _
  omega) h.2.2)⟩
/-- The lists as what is there. -/
def conLStepF : Con := flatCon (d2 (dView .live) dInt) okSt fun x => .tup [.view .live (stepL x.1 x.2), .bool (missedL x.1 x.2)]
theorem resCon_frozen {P : Program} {g : Nat} {α : Type} {D : Ds α} {ok : α → Prop} {res : α → AV × List Blk} {res' : α → AV} (V : ValidCon P g (resCon D ok res)) (h : ∀ a, ∃ v, lowerV (blkAt (res a).2) 24 (res a).1 = some v ∧ AsArg v (res' a)) : ValidCon P g (flatCon D ok res') := V.frozen.weaken fun args r hr => by
  unfold flatCon resCon at hr
  unfold frozen resCon
  split at hr
  · rename_i a ha
    obtain ⟨h1, h2⟩ := hr
    cases h2
    obtain ⟨v, h3, h4⟩ := h a
    refine ⟨v, h4, ?_⟩
    show (Tree.asrt (ok a) _).Out _
    refine ⟨h1, ?_⟩
    show Tree.Out (match lowerV (blkAt (res a).2) 24 (res a).1 with | some v => .ret (v, []) | none => .fail) _
    rw [h3]
    rfl
  · exact hr.elim
/-- The configuration ahead of that. -/
noncomputable def cPre : Cfg := c40
theorem cPre_good : GoodCfg cPre := c40_good
theorem conLStepF_valid : ValidCon c40.P 13 conLStepF := resCon_frozen conLStep_valid fun _ => ⟨_, rfl, .refl _⟩
noncomputable def c41 : Cfg := c40.addQuiet 13 conLStepF
theorem c41_good : GoodCfg c41 := c40_good.addQuiet conLStepF_valid flatCon_quiet

end Go.Fx
