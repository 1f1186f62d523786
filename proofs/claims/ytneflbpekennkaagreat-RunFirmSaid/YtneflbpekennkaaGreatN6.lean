import Derived.Test.YtneflbpekennkaaGreatN8
import Derived.Test.YtneflbpekennkaaGreatPlZb
/- The law RunFirm. -/
namespace Go.Fx
open Go Go.Proofs

abbrev XFm := (Fu.World × List Int × Int × Int) × Int
def TFm (x : XFm) : St := ⟨puts (J 124) [(1, .view (.int .i64) x.1.2.1), (2, .int .i64 x.1.2.2.1), (3, .int .i64 x.1.2.2.2), (4, .ptr 0 0), (11, .int .i64 x.2)], [(0, .cells (encW x.1.1))], 1⟩
def sFm : List Sh := sets (Js 124) [(1, .view (.int .i64)), (2, .keep), (3, .keep), (4, .keep), (11, .int)]
def eFm : List Sh := sets (Js 124) [(8, .keep)]
def fFm (ss : List Sh) (σ : St) : St := norm2 1 [] [0] ss (freeze 1 σ)
theorem weak_fFm (ss : List Sh) (σ : St) : Weak 1 σ (fFm ss σ) := (Weak.freeze 1 1 σ).trans (Weak.norm2 1 [] [0] ss _)
def eFFm (σ : St) : St := norm2 1 [] [] eFm σ
def RFm : Ex × St := (.ret, ⟨puts (J 124) [(8, .blit false)], [], 1⟩)
def EFm : Ex × St := (.exit 0, ⟨J 124, [], 1⟩)
def tkFm (w : Fu.World) (d : List Int) (j : Int) : Fu.Task := rd .task (tickW w d).T j
theorem bFm (w : Fu.World) (d : List Int) (j n i : Int) : roundN c144 60 8 (loopAt c144.P 8 6) (fFm sFm) eFFm (TFm ((w, d, j, n), i)) =
    .ite (decide (i < n)) (.asrt (tickY (w, d)) (.ite (decide (j ≥ (tickW w d).T.length)) (.ret RFm) (.asrt (0 ≤ j ∧ j < (tickW w d).T.length) (.asrt ((tkFm w d j).Kept = true → FineP (tkFm w d j).H (tkFm w d j).S.M (tkFm w d j).S.K) (.ite ((tkFm w d j).Kept && !true) (.ret RFm)
      (.ite (decide ((d.length : Int) > 0)) (.asrt (1 ≤ (d.length : Int) ∧ (d.length : Int) = d.length ∧ (d.length : Int) ≤ d.length) (.asrt (0 ≤ (0 : Int) ∧ (0 : Int) < d.length) (.asrt ([rd (.int .i64) d 0] ≠ [] ∧ ((d.take (d.length : Int).toNat).drop 1 ++ [rd (.int .i64) d 0]).length * 8 ≤ 140737488355328)
        (.ret (.normal, TFm ((tickW w d, (d.take (d.length : Int).toNat).drop 1 ++ [rd (.int .i64) d 0], j, n), IntKind.i64.wrap (i + 1)))))))
        (.ret (.normal, TFm ((tickW w d, d, j, n), IntKind.i64.wrap (i + 1)))))))))) (.ret EFm) := by kernel_rfl
def gFm (σ : St) : Option XFm :=
  match nth σ.tmps 1, nth σ.tmps 2, nth σ.tmps 3, nth σ.tmps 11, σ.heap with
  | .view (.int .i64) d, .int .i64 j, .int .i64 n, .int .i64 i, [(_, .cells [.int .i64 a, .view .task t, .view .ape p, .int .i64 c])] => some ((⟨a, t, p, c⟩, d, j, n), i)
  | _, _, _, _, _ => none
/-- How it stands at each time. -/
def okFm (x : XFm) : Prop := (0 ≤ x.2 ∧ x.1.2.2.2 ≤ 250 ∧ x.1.2.1.length ≤ 100 ∧ mayW x.1.1 = true ∧ lowN x.2 x.1.1 ∧ safeW x.1.1 = true) ∧ (0 ≤ x.1.2.2.1 ∧ x.1.2.2.1 < x.1.1.T.length) ∧ FInv (rd .task x.1.1.T x.1.2.2.1)
def LxFm (x : XFm) : Tree (Ex × St) := .asrt (okFm x) (.ret EFm)
def LFm : LoopCon := entry 1 (fFm sFm) TFm gFm LxFm
theorem lFm (hs : SubOf c144.P 8 (.loop (loopAt c144.P 8 6))) : SoundLoop c144 (loopAt c144.P 8 6) LFm := by
  refine loop_rule3 (C := c144) (g := 8) (l := 6) c144_good 60 1 _ _ (weak_fFm sFm) (Weak.norm2 1 [] [] eFm) hs TFm LxFm (fun x => (x.1.2.2.2 - x.2).toNat) (fun x q h => ?_) entry_out
  obtain ⟨⟨w, d, j, n⟩, i⟩ := x
  obtain ⟨⟨⟨h0, h1, h2, h3, h4, h5⟩, h6, h7⟩, h⟩ := Tree.out_asrt.1 h
  simp only at h0 h1 h2 h3 h4 h5 h6 h7
  refine .of_eq (bFm w d j n i) (Tree.wp_ite.2 ⟨fun hi => ?_, fun hi => Rnd.out h⟩)
  have hi : i < n := of_decide_eq_true hi
  have hA := Ahead.of_low h3 (b := i) (by omega) h4
  obtain ⟨k1, k2⟩ := safe_tick hA h5 d
  have k3 := hA.tickMay d
  have k4 := hA.tickLow d h4
  have k5 := hA.firm h5 d h6 h7
  have hlen := hA.tickLen d
  have hnow := hA.now
  have hj : 0 ≤ j ∧ j < (tickW w d).T.length := by omega
  refine ⟨⟨mayW_small h3, ?_⟩, Tree.wp_ite.2 ⟨fun hb => ?_, fun _ => ⟨hj, fun hk => ?_, Tree.wp_ite.2 ⟨fun hb => ?_, fun _ => ?_⟩⟩⟩⟩
  · simp only
    rw [h3, Bool.not_true, Bool.false_or, beq_eq_false_iff_ne]
    omega
  · have := of_decide_eq_true hb
    omega
  · exact FInv.fine ((mayW_iff.1 k3).2.2.2.2.1 _ (rdT_mem hj.1 hj.2)) k5 hk
  · simp at hb
  · rw [wrap_fits (n := i + 1) (by omega) (by omega)]
    refine Tree.wp_ite.2 ⟨fun hd => ?_, fun hd => ?_⟩
    · have hd := of_decide_eq_true hd
      refine ⟨⟨by omega, rfl, Int.le_refl _⟩, ⟨Int.le_refl _, by omega⟩, ⟨by simp, ?_⟩, ?_⟩
      · simp
        omega
      · refine Rnd.go (m := fun x : XFm => (x.1.2.2.2 - x.2).toNat) (x := ((w, d, j, n), i)) _ (by simp only; omega) (Tree.out_asrt.2 ⟨⟨⟨by simp only; omega, h1, ?_, k3, k4, k1⟩, hj, k5⟩, h⟩)
        simp
        omega
    · exact Rnd.go (m := fun x : XFm => (x.1.2.2.2 - x.2).toNat) (x := ((w, d, j, n), i)) _ (by simp only; omega) (Tree.out_asrt.2 ⟨⟨⟨by simp only; omega, h1, h2, k3, k4, k1⟩, hj, k5⟩, h⟩)
noncomputable def c145 : Cfg := c144.addLoop 8 6 LFm
theorem c145_good : GoodCfg c145 := c144_good.addLoop (by unfold OneLoop; kernel_rfl) lFm
def good4N (args : List AV) : Prop := ∃ (w : Fu.World) (d : List Int) (i n : Int), args = [.agg (encW w), .view (.int .i64) d, .int .i64 i, .int .i64 n] ∧ smallW w ∧ (d.length : Int) < 17592186044416
def tk0 (w : Fu.World) (j : Int) : Fu.Task := rd .task w.T j
def rfT (w : Fu.World) (d : List Int) (j n : Int) : Tree (AV × List Blk) := .asrt (smallW w) (.asrt ((!lowW w) = false → decide (n > 250) = false → decide ((d.length : Int) > 100) = false → decide (j < 0) = false → decide (j ≥ w.T.length) = false → 0 ≤ j ∧ j < w.T.length)
  (.asrt ((!lowW w) = false → decide (n > 250) = false → decide ((d.length : Int) > 100) = false → decide (j < 0) = false → decide (j ≥ w.T.length) = false → ((tk0 w j).N != 0) = false → 0 ≤ j ∧ j < w.T.length)
  (.asrt ((!lowW w) = false → decide (n > 250) = false → decide ((d.length : Int) > 100) = false → decide (j < 0) = false → decide (j ≥ w.T.length) = false → ((tk0 w j).N != 0) = false → (!(tk0 w j).Kept) = false → smallW w)
  (.ite (!lowW w || (decide (n > 250) || (decide ((d.length : Int) > 100) || (decide (j < 0) || (decide (j ≥ w.T.length) || ((tk0 w j).N != 0 || (!(tk0 w j).Kept || !safeW w))))))) (.ret (.blit true, [])) (.asrt (1 = 1 ∧ TFm ((w, d, j, n), 0) = TFm ((w, d, j, n), 0)) (.asrt (okFm ((w, d, j, n), 0)) (.ret (.blit true, []))))))))
theorem fRf (w : Fu.World) (d : List Int) (j n : Int) : callC c145 60 8 [.agg (encW w), .view (.int .i64) d, .int .i64 j, .int .i64 n] = rfT w d j n := by kernel_rfl
theorem rfT_tru {w : Fu.World} {d : List Int} {j n : Int} (h : smallW w) : Tru (rfT w d j n) := by
  have hin : decide (j < 0) = false → decide (j ≥ (w.T.length : Int)) = false → 0 ≤ j ∧ j < w.T.length := fun h1 h2 => by
    have := of_decide_eq_false h1
    have := of_decide_eq_false h2
    omega
  refine .asrt h (.asrt (fun _ _ _ a b => hin a b) (.asrt (fun _ _ _ a b _ => hin a b) (.asrt (fun _ _ _ _ _ _ _ => h) (.ite (fun _ => .yes) fun hb => .asrt ⟨rfl, rfl⟩ (.asrt ?_ .yes)))))
  simp only [Bool.or_eq_false_iff] at hb
  obtain ⟨b1, b2, b3, b4, b5, b6, b7, b8⟩ := hb
  have hj := hin b4 b5
  have hs : safeW w = true := by simpa using b8
  have hm := safeW_may hs
  have := of_decide_eq_false b2
  have := of_decide_eq_false b3
  exact ⟨⟨Int.le_refl _, by simp only; omega, by simp only; omega, hm, lowW_iff.1 (by simpa using b1), hs⟩, hj, FInv.start ((mayW_iff.1 hm).2.2.2.2.1 _ (rdT_mem hj.1 hj.2)) (by
    have h9 : (tk0 w j).N = 0 := by simpa using b6
    exact h9)⟩
theorem conRf_valid : ValidCon c145.P 8 (lawCon good4N) := lawCon_of (n := 60) c145_good (by kernel_rfl) fun args ⟨w, d, i, n, h1, h2, _⟩ => by
  subst h1
  exact ⟨_, fRf w d i n, rfT_tru h2⟩
end Go.Fx
