import Derived.Test.YtneflbpekennkaaGreatN8
import Derived.Test.YtneflbpekennkaaGreatPlZ
/- The law RunOne. -/
namespace Go.Fx
open Go Go.Proofs

/-- A world, with those that began, and one time later; who runs, what became of it, lists. -/
abbrev XRo := Fu.World × Fu.World × Fu.World × Int × Int × Int × List Int × List Int × List Int
def hRo (x : XRo) : Heap := [(0, .cells (encW x.1)), (1, .cells (encW x.2.1)), (2, .cells (encW x.2.2.1)), (3, .cells [.int .i64 x.1.Now, .int .i64 x.2.2.2.1, .int .i64 x.2.2.2.2.1, .int .i64 x.2.2.2.2.2.1, .view (.int .i64) x.2.2.2.2.2.2.1, .view (.int .i64) x.2.2.2.2.2.2.2.1, .view (.int .i64) x.2.2.2.2.2.2.2.2])]
def gRo : Heap → Option XRo
  | [(_, .cells [.int .i64 a, .view .task t, .view .ape p, .int .i64 c]), (_, .cells [.int .i64 a2, .view .task t2, .view .ape p2, .int .i64 c2]), (_, .cells [.int .i64 a3, .view .task t3, .view .ape p3, .int .i64 c3]),
     (_, .cells [_, .int .i64 b, .int .i64 id, .int .i64 f, .view (.int .i64) l1, .view (.int .i64) l2, .view (.int .i64) l3])] => some (⟨a, t, p, c⟩, ⟨a2, t2, p2, c2⟩, ⟨a3, t3, p3, c3⟩, b, id, f, l1, l2, l3)
  | _ => none
def mineT (x : XRo) (i : Int) : Bool := x.2.2.2.2.1 == (rd .task x.2.1.T i).ID && (x.2.2.2.1 == 1 || x.2.2.2.1 == 3)
def inB (x : XRo) (i : Int) : Prop := 0 ≤ i ∧ i < x.2.1.T.length
def inY (x : XRo) (i : Int) : Prop := 0 ≤ i ∧ i < x.2.2.1.T.length
def jB (x : XRo) (i : Int) : Fu.Job := (rd .task x.2.1.T i).J
def jY (x : XRo) (i : Int) : Fu.Job := (rd .task x.2.2.1.T i).J
def TR1 (x : XRo × Int) : St := ⟨puts (J 245) [(2, .ptr 0 0), (7, .ptr 1 0), (9, .ptr 2 0), (10, .ptr 3 0), (12, .int .i64 x.2)], hRo x.1, 4⟩
def sR1 : List Sh := sets (Js 245) [(2, .keep), (7, .keep), (9, .keep), (10, .keep), (12, .int)]
def eR1 : List Sh := sets (Js 245) [(2, .keep), (4, .keep), (9, .keep), (10, .keep)]
def RR1 (x : XRo) : Ex × St := (.ret, ⟨puts (J 245) [(2, .ptr 0 0), (4, .blit false), (9, .ptr 2 0), (10, .ptr 3 0)], hRo x, 4⟩)
def ER1 (x : XRo) : Ex × St := (.exit 0, ⟨puts (J 245) [(2, .ptr 0 0), (9, .ptr 2 0), (10, .ptr 3 0)], hRo x, 4⟩)
theorem bR1 (x : XRo) (i : Int) : roundN c136 60 4 (loopAt c136.P 4 10) (norm2 4 [] [0, 1, 2, 3] sR1) (norm2 4 [] [0, 1, 2, 3] eR1) (TR1 (x, i)) =
    .ite (decide (i < x.2.1.T.length)) (.asrt (inB x i) (.asrt (mineT x i = true → inB x i) (.asrt (mineT x i = true → (!(jB x i).On) = false → inY x i) (.asrt (mineT x i = true → (!(jB x i).On) = false → (jY x i).On = true → inY x i) (.asrt (mineT x i = true → (!(jB x i).On) = false → (jY x i).On = true → inB x i)
      (.asrt (mineT x i = false → inY x i) (.asrt (mineT x i = false → (jY x i).On = true → inY x i) (.asrt (mineT x i = false → (jY x i).On = true → inB x i)
      (.ite (bif mineT x i then !(jB x i).On || (jY x i).On && ((jY x i).Ran != (jB x i).Ran && !mineT x i) else (jY x i).On && ((jY x i).Ran != (jB x i).Ran && !mineT x i)) (.ret (RR1 x))
      (.asrt (inY x i) (.asrt ((jY x i).On = true → mineT x i = true → inY x i) (.asrt ((jY x i).On = true → mineT x i = true → inB x i)
      (.ite ((jY x i).On && (mineT x i && (jY x i).Ran != IntKind.i64.wrap ((jB x i).Ran + 1))) (.ret (RR1 x)) (.ret (.normal, TR1 (x, IntKind.i64.wrap (i + 1))))))))))))))))) (.ret (ER1 x)) := by kernel_rfl
def gR1 (σ : St) : Option (XRo × Int) := match nth σ.tmps 12, gRo σ.heap with | .int .i64 i, some x => some (x, i) | _, _ => none
def okR1 (x : XRo × Int) : Prop := (0 ≤ x.2 ∧ x.2 ≤ x.1.2.1.T.length ∧ x.1.2.1.T.length ≤ 4 ∧ x.1.2.2.1.T.length = x.1.2.1.T.length) ∧ ∀ j, inB x.1 j → (mineT x.1 j = true → (jB x.1 j).On = true ∧ ((jY x.1 j).On = true → (jY x.1 j).Ran = IntKind.i64.wrap ((jB x.1 j).Ran + 1))) ∧ (mineT x.1 j = false → (jY x.1 j).On = true → (jY x.1 j).Ran = (jB x.1 j).Ran)
def LxR1 (x : XRo × Int) : Tree (Ex × St) := .asrt (okR1 x) (.ret (ER1 x.1))
def LR1 : LoopCon := entry 4 (norm2 4 [] [0, 1, 2, 3] sR1) TR1 gR1 LxR1
theorem lR1 (hs : SubOf c136.P 4 (.loop (loopAt c136.P 4 10))) : SoundLoop c136 (loopAt c136.P 4 10) LR1 := by
  refine loop_rule3 (C := c136) (g := 4) (l := 10) c136_good 60 4 _ _ (Weak.norm2 4 [] [0, 1, 2, 3] sR1) (Weak.norm2 4 [] [0, 1, 2, 3] eR1) hs TR1 LxR1 (fun x => (x.1.2.1.T.length - x.2).toNat) (fun x q h => ?_) entry_out
  obtain ⟨x, i⟩ := x
  obtain ⟨⟨⟨h0, h1, h2, h3⟩, hall⟩, h⟩ := Tree.out_asrt.1 h
  simp only at h0 h1 h2 h3 hall
  refine .of_eq (bR1 x i) (Tree.wp_ite.2 ⟨fun hi => ?_, fun hi => Rnd.out h⟩)
  have hi : i < x.2.1.T.length := of_decide_eq_true hi
  have hB : inB x i := ⟨h0, hi⟩
  have hY : inY x i := ⟨h0, by omega⟩
  obtain ⟨k1, k2⟩ := hall i hB
  refine ⟨hB, fun _ => hB, fun _ _ => hY, fun _ _ _ => hY, fun _ _ _ => hB, fun _ => hY, fun _ _ => hY, fun _ _ => hB, Tree.wp_ite.2 ⟨fun hb => ?_, fun _ => ⟨hY, fun _ _ => hY, fun _ _ => hB, Tree.wp_ite.2 ⟨fun hb => ?_, fun _ => ?_⟩⟩⟩⟩
  · exfalso
    cases hm : mineT x i with
    | true =>
      rw [hm, (k1 hm).1] at hb
      simp at hb
    | false =>
      rw [hm] at hb
      cases hy : (jY x i).On with
      | true =>
        rw [k2 hm hy] at hb
        simp at hb
      | false =>
        rw [hy] at hb
        simp at hb
  · exfalso
    rw [Bool.and_eq_true, Bool.and_eq_true] at hb
    obtain ⟨b1, b2, b3⟩ := hb
    rw [(k1 b2).2 b1] at b3
    simp at b3
  · rw [wrap_fits (n := i + 1) (by omega) (by omega)]
    exact Rnd.go (m := fun x : XRo × Int => (x.1.2.1.T.length - x.2).toNat) (x := (x, i)) _ (by simp only; omega) (Tree.out_asrt.2 ⟨⟨⟨by simp only; omega, by simp only; omega, h2, h3⟩, hall⟩, h⟩)
noncomputable def c137 : Cfg := c136.addLoop 4 10 LR1
theorem c137_good : GoodCfg c137 := c136_good.addLoop (by unfold OneLoop; kernel_rfl) lR1
def inYA (x : XRo) (i : Int) : Prop := 0 ≤ i ∧ i < x.2.2.1.A.length
def inWA (x : XRo) (k : Int) : Prop := 0 ≤ k ∧ k < x.1.A.length
def aY (x : XRo) (i : Int) : Fu.Ape := rd .ape x.2.2.1.A i
def aW (x : XRo) (k : Int) : Fu.Ape := rd .ape x.1.A k
def mineA (x : XRo) (i : Int) : Bool := x.2.2.2.1 == 2 && x.2.2.2.2.1 == (aY x i).ID
def sameA (x : XRo) (i k : Int) : Bool := (aW x k).ID == (aY x i).ID
def oneA (x : XRo) (i k : Int) : Bool := ((aY x i).Ran != IntKind.i64.wrap ((aW x k).Ran + 1)) == mineA x i
def TR3 (x : XRo × Int × Int) : St := ⟨puts (J 245) [(2, .ptr 0 0), (9, .ptr 2 0), (10, .ptr 3 0), (14, .int .i64 x.2.1), (15, .int .i64 x.2.2)], hRo x.1, 4⟩
def sR3 : List Sh := sets (Js 245) [(2, .keep), (9, .keep), (10, .keep), (14, .int), (15, .int)]
def eR3 : List Sh := sets (Js 245) [(2, .keep), (4, .keep), (9, .keep), (10, .keep), (14, .int)]
def RR3 (x : XRo) (i : Int) : Ex × St := (.ret, ⟨puts (J 245) [(2, .ptr 0 0), (4, .blit false), (9, .ptr 2 0), (10, .ptr 3 0), (14, .int .i64 i)], hRo x, 4⟩)
def ER3 (x : XRo) (i : Int) : Ex × St := (.exit 4, ⟨puts (J 245) [(2, .ptr 0 0), (9, .ptr 2 0), (10, .ptr 3 0), (14, .int .i64 i)], hRo x, 4⟩)
theorem bR3 (x : XRo) (i k : Int) : roundN c137 60 4 (loopAt c137.P 4 21) (norm2 4 [] [0, 1, 2, 3] sR3) (norm2 4 [] [0, 1, 2, 3] eR3) (TR3 (x, i, k)) =
    .ite (decide (k < x.1.A.length)) (.asrt ((x.2.2.2.1 == 2) = true → inYA x i) (.asrt (inWA x k) (.asrt (inYA x i) (.asrt (sameA x i k = true → inYA x i) (.asrt (sameA x i k = true → inWA x k) (.asrt (sameA x i k = true → oneA x i k = true → mineA x i = false → inYA x i) (.asrt (sameA x i k = true → oneA x i k = true → mineA x i = false → inWA x k)
      (.ite (sameA x i k && (oneA x i k && (mineA x i || (aY x i).Ran != (aW x k).Ran))) (.ret (RR3 x i)) (.ret (.normal, TR3 (x, i, IntKind.i64.wrap (k + 1)))))))))))) (.ret (ER3 x i)) := by kernel_rfl
def gR3 (σ : St) : Option (XRo × Int × Int) := match nth σ.tmps 14, nth σ.tmps 15, gRo σ.heap with | .int .i64 i, .int .i64 k, some x => some (x, i, k) | _, _, _ => none
/-- What is said of jobs that came once. -/
def apesR (x : XRo) : Prop := ∀ i k, inYA x i → inWA x k → sameA x i k = true → (mineA x i = true → (aY x i).Ran = IntKind.i64.wrap ((aW x k).Ran + 1)) ∧ (mineA x i = false → (aY x i).Ran = (aW x k).Ran)
def okR3 (x : XRo × Int × Int) : Prop := (0 ≤ x.2.2 ∧ x.2.2 ≤ x.1.1.A.length ∧ x.1.1.A.length ≤ 1000 ∧ inYA x.1 x.2.1) ∧ apesR x.1
def LxR3 (x : XRo × Int × Int) : Tree (Ex × St) := .asrt (okR3 x) (.ret (ER3 x.1 x.2.1))
def LR3 : LoopCon := entry 4 (norm2 4 [] [0, 1, 2, 3] sR3) TR3 gR3 LxR3
theorem lR3 (hs : SubOf c137.P 4 (.loop (loopAt c137.P 4 21))) : SoundLoop c137 (loopAt c137.P 4 21) LR3 := by
  refine loop_rule3 (C := c137) (g := 4) (l := 21) c137_good 60 4 _ _ (Weak.norm2 4 [] [0, 1, 2, 3] sR3) (Weak.norm2 4 [] [0, 1, 2, 3] eR3) hs TR3 LxR3 (fun x => (x.1.1.A.length - x.2.2).toNat) (fun x q h => ?_) entry_out
  obtain ⟨x, i, k⟩ := x
  obtain ⟨⟨⟨h0, h1, h2, h3⟩, hall⟩, h⟩ := Tree.out_asrt.1 h
  simp only at h0 h1 h2 h3 hall
  refine .of_eq (bR3 x i k) (Tree.wp_ite.2 ⟨fun hi => ?_, fun hi => Rnd.out h⟩)
  have hW : inWA x k := ⟨h0, of_decide_eq_true hi⟩
  refine ⟨fun _ => h3, hW, h3, fun _ => h3, fun _ => hW, fun _ _ _ => h3, fun _ _ _ => hW, Tree.wp_ite.2 ⟨fun hb => ?_, fun _ => ?_⟩⟩
  · exfalso
    rw [Bool.and_eq_true, Bool.and_eq_true] at hb
    obtain ⟨b1, b2, b3⟩ := hb
    obtain ⟨k1, k2⟩ := hall i k h3 hW b1
    unfold oneA at b2
    cases hm : mineA x i with
    | true =>
      rw [hm, k1 hm] at b2
      simp at b2
    | false =>
      rw [hm, k2 hm] at b3
      simp at b3
  · have := hW.2
    rw [wrap_fits (n := k + 1) (by omega) (by omega)]
    exact Rnd.go (m := fun x : XRo × Int × Int => (x.1.1.A.length - x.2.2).toNat) (x := (x, i, k)) _ (by simp only; omega) (Tree.out_asrt.2 ⟨⟨⟨by simp only; omega, by simp only; omega, h2, h3⟩, hall⟩, h⟩)
noncomputable def c138 : Cfg := c137.addLoop 4 21 LR3
theorem c138_good : GoodCfg c138 := c137_good.addLoop (by unfold OneLoop; kernel_rfl) lR3
def TR2 (x : XRo × Int) : St := ⟨puts (J 245) [(2, .ptr 0 0), (9, .ptr 2 0), (10, .ptr 3 0), (14, .int .i64 x.2)], hRo x.1, 4⟩
def sR2 : List Sh := sets (Js 245) [(2, .keep), (9, .keep), (10, .keep), (14, .int)]
def eR2 : List Sh := sets (Js 245) [(4, .keep)]
def ER2 : Ex × St := (.exit 2, ⟨J 245, [], 4⟩)
theorem bR2 (x : XRo) (i : Int) : roundN c138 60 4 (loopAt c138.P 4 18) (norm2 4 [] [0, 1, 2, 3] sR2) (norm2 4 [] [] eR2) (TR2 (x, i)) =
    .ite (decide (i < x.2.2.1.A.length)) (.asrt (4 = 4 ∧ TR3 (x, i, 0) = TR3 (x, i, 0)) (.asrt (okR3 (x, i, 0)) (.ret (.normal, TR2 (x, IntKind.i64.wrap (i + 1)))))) (.ret ER2) := by kernel_rfl
def gR2 (σ : St) : Option (XRo × Int) := match nth σ.tmps 14, gRo σ.heap with | .int .i64 i, some x => some (x, i) | _, _ => none
def okR2 (x : XRo × Int) : Prop := (0 ≤ x.2 ∧ x.2 ≤ x.1.2.2.1.A.length ∧ x.1.2.2.1.A.length ≤ 1000 ∧ x.1.1.A.length ≤ 1000) ∧ apesR x.1
def LxR2 (x : XRo × Int) : Tree (Ex × St) := .asrt (okR2 x) (.ret ER2)
def LR2 : LoopCon := entry 4 (norm2 4 [] [0, 1, 2, 3] sR2) TR2 gR2 LxR2
theorem lR2 (hs : SubOf c138.P 4 (.loop (loopAt c138.P 4 18))) : SoundLoop c138 (loopAt c138.P 4 18) LR2 := by
  refine loop_rule3 (C := c138) (g := 4) (l := 18) c138_good 60 4 _ _ (Weak.norm2 4 [] [0, 1, 2, 3] sR2) (Weak.norm2 4 [] [] eR2) hs TR2 LxR2 (fun x => (x.1.2.2.1.A.length - x.2).toNat) (fun x q h => ?_) entry_out
  obtain ⟨x, i⟩ := x
  obtain ⟨⟨⟨h0, h1, h2, h3⟩, hall⟩, h⟩ := Tree.out_asrt.1 h
  simp only at h0 h1 h2 h3 hall
  refine .of_eq (bR2 x i) (Tree.wp_ite.2 ⟨fun hi => ?_, fun hi => Rnd.out h⟩)
  have hi : i < x.2.2.1.A.length := of_decide_eq_true hi
  refine ⟨⟨rfl, rfl⟩, ⟨⟨Int.le_refl _, by simp only; omega, h3, h0, hi⟩, hall⟩, ?_⟩
  rw [wrap_fits (n := i + 1) (by omega) (by omega)]
  exact Rnd.go (m := fun x : XRo × Int => (x.1.2.2.1.A.length - x.2).toNat) (x := (x, i)) _ (by simp only; omega) (Tree.out_asrt.2 ⟨⟨⟨by simp only; omega, by simp only; omega, h2, h3⟩, hall⟩, h⟩)
noncomputable def c139 : Cfg := c138.addLoop 4 18 LR2
theorem c139_good : GoodCfg c139 := c138_good.addLoop (by unfold OneLoop; kernel_rfl) lR2
def xRo (w : Fu.World) (d : List Int) : XRo := (w, ⟨w.Now, (beginW w d).1.T, w.A, w.Cur⟩, tickW w d, (whoW (startW w d)).1, (whoW (startW w d)).2, (midW w d).2, (beginW w d).2, tickM w d, (pickW (startW w d)).2)
def roT (w : Fu.World) (d : List Int) : Tree (AV × List Blk) := .asrt (smallW w) (.asrt ((!lowW w) = false → smallW w) (.ite (!lowW w || (!mayW w || decide ((d.length : Int) > 100))) (.ret (.blit true, []))
  (.asrt (smallW w) (.asrt (tickY (w, d)) (.asrt (((beginW w d).2.length : Int) < 17592186044416) (.ite (!decide ((beginW w d).2 = (beginW w d).2) || ((tickW w d).T.length : Int) != (beginW w d).1.T.length) (.ret (.blit false, []))
  (.asrt (4 = 4 ∧ TR1 (xRo w d, 0) = TR1 (xRo w d, 0)) (.asrt (okR1 (xRo w d, 0)) (.asrt (4 = 4 ∧ TR2 (xRo w d, 0) = TR2 (xRo w d, 0)) (.asrt (okR2 (xRo w d, 0)) (.ret (.blit true, []))))))))))))
theorem fRo (w : Fu.World) (d : List Int) : callC c139 60 4 [.agg (encW w), .view (.int .i64) d] = roT w d := by kernel_rfl
theorem roT_tru {w : Fu.World} {d : List Int} (h : smallW w) : Tru (roT w d) := by
  refine .asrt h (.asrt (fun _ => h) (.ite (fun _ => .yes) fun hb => ?_))
  simp only [Bool.or_eq_false_iff, Bool.not_eq_false', decide_eq_false_iff_not] at hb
  obtain ⟨h1, h2, h3⟩ := hb
  have hA := Ahead.of_low h2 (b := 0) (by omega) (lowW_iff.1 h1)
  have hnow := hA.now
  have hl1 : (tickW w d).T.length = (beginW w d).1.T.length := (hA.tickLen d).trans (hA.lenS d).symm
  have hl2 : (beginW w d).1.T.length = w.T.length := hA.lenS d
  have h4 := (mayW_iff.1 h2).2.1
  have hapes := (mayA_iff.1 (mayW_iff.1 h2).2.2.2.1).2.2.1
  have hsub : (tickW w d).A.length ≤ w.A.length := by
    have := (tick_len h2 d).1
    have hx : (0 : Int) ≤ (bif (whoW (startW w d)).1 == 2 && (midW w d).2 == 1 then (1 : Int) else 0) := by cases ((whoW (startW w d)).1 == 2 && (midW w d).2 == 1) <;> simp
    omega
  have hbl : (beginW w d).2.length ≤ 1000 := by
    have h5 := begTs_few w.Now w.T d
    rw [(begin_T h2 d).2]
    omega
  refine .asrt h (.asrt ⟨h, ?_⟩ (.asrt (by omega) (.ite (fun hc => ?_) fun _ => .asrt ⟨rfl, rfl⟩ (.asrt ⟨⟨Int.le_refl _, by simp only [xRo]; omega, by simp only [xRo]; omega, hl1⟩, fun j hj => ?_⟩ (.asrt ⟨rfl, rfl⟩ (.asrt ⟨⟨Int.le_refl _, by simp only [xRo]; omega, by simp only [xRo]; omega, by simp only [xRo]; omega⟩, fun i k hi hk he => ?_⟩ .yes))))))
  · simp only
    rw [h2, Bool.not_true, Bool.false_or, beq_eq_false_iff_ne]
    omega
  · exfalso
    rw [hl1] at hc
    simp at hc
  · obtain ⟨k1, k2⟩ := hA.one_task d (j := j) hj
    refine ⟨fun hm => ?_, fun hm => ?_⟩
    · refine k1 ?_
      unfold mineT at hm
      rw [Bool.and_eq_true, Bool.or_eq_true, beq_iff_eq, beq_iff_eq, beq_iff_eq] at hm
      exact hm
    · refine k2 fun hn => ?_
      have : mineT (xRo w d) j = true := by
        unfold mineT
        rw [Bool.and_eq_true, Bool.or_eq_true, beq_iff_eq, beq_iff_eq, beq_iff_eq]
        exact hn
      rw [hm] at this
      cases this
  · obtain ⟨k1, k2⟩ := hA.one_ape d (a := aY (xRo w d) i) (b := aW (xRo w d) k) (rd_memP hi.1 hi.2) (rd_memP hk.1 hk.2) (by unfold sameA at he; exact eq_of_beq he)
    refine ⟨fun hm => ?_, fun hm => ?_⟩
    · refine k1 ?_
      unfold mineA at hm
      rw [Bool.and_eq_true, beq_iff_eq, beq_iff_eq] at hm
      exact hm
    · refine k2 fun hn => ?_
      have : mineA (xRo w d) i = true := by
        unfold mineA
        rw [Bool.and_eq_true, beq_iff_eq, beq_iff_eq]
        exact hn
      rw [hm] at this
      cases this
theorem conRo_valid : ValidCon c139.P 4 (lawCon good2V) := lawCon_of (n := 60) c139_good (by kernel_rfl) fun args ⟨w, xs, h1, h2, _⟩ => by
  subst h1
  exact ⟨_, fRo w xs, roT_tru h2⟩
end Go.Fx
