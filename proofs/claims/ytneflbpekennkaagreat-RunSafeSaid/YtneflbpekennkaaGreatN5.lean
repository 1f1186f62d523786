import Derived.Test.YtneflbpekennkaaGreatN1
import Derived.Test.YtneflbpekennkaaGreatPlY
import Derived.Test.YtneflbpekennkaaGreatFxFr
/- The law RunSafe. -/
namespace Go.Fx
open Go Go.Proofs

/-- One time, by what is looked at. -/
def tickF (w : Fu.World) (d : List Int) : AV := .tup [.agg (encW (tickW w d)), .agg [.int .i64 w.Now, .int .i64 (whoW (startW w d)).1, .int .i64 (whoW (startW w d)).2, .int .i64 (midW w d).2, .view (.int .i64) (beginW w d).2, .view (.int .i64) (tickM w d), .view (.int .i64) (pickW (startW w d)).2], .blit true]
def conTickF : Con := flatCon dTk tickY fun x => tickF x.1 x.2
theorem conTickF_valid : ValidCon c134.P 12 conTickF := resCon_frozen conTickY_valid fun _ => ⟨_, rfl, .refl _⟩
noncomputable def c135 : Cfg := c134.addQuiet 12 conTickF
theorem c135_good : GoodCfg c135 := c134_good.addQuiet conTickF_valid flatCon_quiet
/-- The numbers turned by one. -/
def turnD (d : List Int) : List Int := bif decide ((d.length : Int) > 0) then (d.take (d.length : Int).toNat).drop 1 ++ [rd (.int .i64) d 0] else d
theorem turnD_len (d : List Int) : (turnD d).length = d.length := by
  unfold turnD
  cases h : decide ((d.length : Int) > 0) with
  | true =>
    have := of_decide_eq_true h
    simp
    omega
  | false => rfl
theorem mayW_small {w : Fu.World} (h : mayW w = true) : smallW w := by
  have h1 := (mayW_iff.1 h).2.1
  have h2 := (mayA_iff.1 (mayW_iff.1 h).2.2.2.1).2.2.1
  exact ⟨by omega, by omega⟩
abbrev XSa := (Fu.World × List Int × Int) × Int
def TSa (x : XSa) : St := ⟨puts (J 77) [(1, .view (.int .i64) x.1.2.1), (2, .int .i64 x.1.2.2), (3, .ptr 0 0), (9, .int .i64 x.2)], [(0, .cells (encW x.1.1))], 1⟩
def sSa : List Sh := sets (Js 77) [(1, .view (.int .i64)), (2, .keep), (3, .keep), (9, .int)]
def eSa : List Sh := sets (Js 77) [(6, .keep)]
def fSa (ss : List Sh) (σ : St) : St := norm2 1 [] [0] ss (freeze 1 σ)
theorem weak_fSa (ss : List Sh) (σ : St) : Weak 1 σ (fSa ss σ) := (Weak.freeze 1 1 σ).trans (Weak.norm2 1 [] [0] ss _)
def RSa : Ex × St := (.ret, ⟨puts (J 77) [(6, .blit false)], [], 1⟩)
def ESa : Ex × St := (.exit 0, ⟨J 77, [], 1⟩)
def eFSa (σ : St) : St := norm2 1 [] [] eSa σ
theorem bSa (w : Fu.World) (d : List Int) (n i : Int) : roundN c135 60 7 (loopAt c135.P 7 6) (fSa sSa) eFSa (TSa ((w, d, n), i)) =
    .ite (decide (i < n)) (.asrt (tickY (w, d)) (.asrt (decide (((tickM w d).length : Int) > 0) = false → smallW (tickW w d)) (.ite (decide (((tickM w d).length : Int) > 0) || !safeW (tickW w d)) (.ret RSa)
      (.ite (decide ((d.length : Int) > 0)) (.asrt (1 ≤ (d.length : Int) ∧ (d.length : Int) = d.length ∧ (d.length : Int) ≤ d.length) (.asrt (0 ≤ (0 : Int) ∧ (0 : Int) < d.length) (.asrt ([rd (.int .i64) d 0] ≠ [] ∧ ((d.take (d.length : Int).toNat).drop 1 ++ [rd (.int .i64) d 0]).length * 8 ≤ 140737488355328)
        (.ret (.normal, TSa ((tickW w d, (d.take (d.length : Int).toNat).drop 1 ++ [rd (.int .i64) d 0], n), IntKind.i64.wrap (i + 1)))))))
        (.ret (.normal, TSa ((tickW w d, d, n), IntKind.i64.wrap (i + 1)))))))) (.ret ESa) := by kernel_rfl
def gSa (σ : St) : Option XSa :=
  match nth σ.tmps 1, nth σ.tmps 2, nth σ.tmps 9, σ.heap with
  | .view (.int .i64) d, .int .i64 n, .int .i64 i, [(_, .cells [.int .i64 a, .view .task t, .view .ape p, .int .i64 c])] => some ((⟨a, t, p, c⟩, d, n), i)
  | _, _, _, _ => none
/-- How it stands at each time. -/
def okSa (x : XSa) : Prop := 0 ≤ x.2 ∧ x.1.2.2 ≤ 150 ∧ x.1.2.1.length ≤ 100 ∧ mayW x.1.1 = true ∧ lowN x.2 x.1.1 ∧ safeW x.1.1 = true ∧ (x.2 ≤ x.1.2.2 ∨ x.2 = 0)
def LxSa (x : XSa) : Tree (Ex × St) := .asrt (okSa x) (.ret ESa)
def LSa : LoopCon := entry 1 (fSa sSa) TSa gSa LxSa
theorem lSa (hs : SubOf c135.P 7 (.loop (loopAt c135.P 7 6))) : SoundLoop c135 (loopAt c135.P 7 6) LSa := by
  refine loop_rule3 (C := c135) (g := 7) (l := 6) c135_good 60 1 _ _ (weak_fSa sSa) (Weak.norm2 1 [] [] eSa) hs TSa LxSa (fun x => (x.1.2.2 - x.2).toNat) (fun x q h => ?_) entry_out
  obtain ⟨⟨w, d, n⟩, i⟩ := x
  obtain ⟨⟨h0, h1, h2, h3, h4, h5, h6⟩, h⟩ := Tree.out_asrt.1 h
  simp only at h0 h1 h2 h3 h4 h5 h6
  refine .of_eq (bSa w d n i) (Tree.wp_ite.2 ⟨fun hi => ?_, fun hi => Rnd.out h⟩)
  have hi : i < n := of_decide_eq_true hi
  have hA := Ahead.of_low h3 (b := i) (by omega) h4
  obtain ⟨k1, k2⟩ := safe_tick hA h5 d
  have k3 := hA.tickMay d
  have k4 := hA.tickLow d h4
  have hnow := hA.now
  have hz : decide (((tickM w d).length : Int) > 0) = false := by rw [k2]; rfl
  refine ⟨⟨mayW_small h3, ?_⟩, fun _ => mayW_small k3, Tree.wp_ite.2 ⟨fun hb => ?_, fun _ => ?_⟩⟩
  · simp only
    rw [h3, Bool.not_true, Bool.false_or, beq_eq_false_iff_ne]
    omega
  · rw [hz, k1] at hb
    cases hb
  · rw [wrap_fits (n := i + 1) (by omega) (by omega)]
    refine Tree.wp_ite.2 ⟨fun hd => ?_, fun hd => ?_⟩
    · have hd := of_decide_eq_true hd
      refine ⟨⟨by omega, rfl, Int.le_refl _⟩, ⟨Int.le_refl _, by omega⟩, ⟨by simp, ?_⟩, ?_⟩
      · simp
        omega
      · refine Rnd.go (m := fun x : XSa => (x.1.2.2 - x.2).toNat) (x := ((w, d, n), i)) _ (by simp only; omega) (Tree.out_asrt.2 ⟨⟨by simp only; omega, h1, ?_, k3, k4, k1, by simp only; omega⟩, h⟩)
        simp
        omega
    · exact Rnd.go (m := fun x : XSa => (x.1.2.2 - x.2).toNat) (x := ((w, d, n), i)) _ (by simp only; omega) (Tree.out_asrt.2 ⟨⟨by simp only; omega, h1, h2, k3, k4, k1, by simp only; omega⟩, h⟩)
noncomputable def c136 : Cfg := c135.addLoop 7 6 LSa
theorem c136_good : GoodCfg c136 := c135_good.addLoop (by unfold OneLoop; kernel_rfl) lSa
def good3N (args : List AV) : Prop := ∃ (w : Fu.World) (d : List Int) (n : Int), args = [.agg (encW w), .view (.int .i64) d, .int .i64 n] ∧ smallW w ∧ (d.length : Int) < 17592186044416
def rsT (w : Fu.World) (d : List Int) (n : Int) : Tree (AV × List Blk) := .asrt (smallW w) (.asrt ((!lowW w) = false → decide (n > 150) = false → decide ((d.length : Int) > 100) = false → smallW w)
  (.ite (!lowW w || (decide (n > 150) || (decide ((d.length : Int) > 100) || !safeW w))) (.ret (.blit true, [])) (.asrt (1 = 1 ∧ TSa ((w, d, n), 0) = TSa ((w, d, n), 0)) (.asrt (okSa ((w, d, n), 0)) (.ret (.blit true, []))))))
theorem fRs (w : Fu.World) (d : List Int) (n : Int) : callC c136 60 7 [.agg (encW w), .view (.int .i64) d, .int .i64 n] = rsT w d n := by kernel_rfl
theorem lowW_iff {w : Fu.World} : lowW w = true ↔ lowN 0 w := by
  unfold lowW lowN
  rw [Bool.and_eq_true, decide_eq_true_iff, List.all_eq_true]
  simp only [decide_eq_true_eq, Int.add_zero]
theorem safeW_may {w : Fu.World} (h : safeW w = true) : mayW w = true := by
  unfold safeW at h
  rw [Bool.and_eq_true] at h
  exact h.1
theorem rsT_tru {w : Fu.World} {d : List Int} {n : Int} (h : smallW w) : Tru (rsT w d n) := by
  refine .asrt h (.asrt (fun _ _ _ => h) (.ite (fun _ => .yes) fun hb => .asrt ⟨rfl, rfl⟩ (.asrt ?_ .yes)))
  simp only [Bool.or_eq_false_iff, Bool.not_eq_false', decide_eq_false_iff_not] at hb
  obtain ⟨h1, h2, h3, h4⟩ := hb
  exact ⟨Int.le_refl _, by simp only; omega, by simp only; omega, safeW_may h4, lowW_iff.1 h1, h4, .inr rfl⟩
theorem conRs19_valid : ValidCon c136.P 7 (lawCon good3N) := lawCon_of (n := 60) c136_good (by kernel_rfl) fun args ⟨w, d, n, h1, h2, _⟩ => by
  subst h1
  exact ⟨_, fRs w d n, rsT_tru h2⟩
end Go.Fx
