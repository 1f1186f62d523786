import Derived.Test.YtccfojgceohciaaB15
/- Contracts: the document's answer for live: looking on. -/
namespace Go.Fx
open Go Go.Proofs

/-! ### fuseeref12.Look -/
abbrev X16 := (List Fu.Live × Int) × Int
def T16 (x : X16) : St := ⟨puts (J 41) [(0, .view .live x.1.1), (1, .int .i64 x.1.2), (7, .int .i64 x.2)], [], 0⟩
def s16 : List Sh := sets (Js 41) [(0, .keep), (1, .keep), (7, .int)]
def e16 : List Sh := sets (Js 41) [(1, .keep), (4, .keep), (5, .bool)]
def R16 (b : Int × Int × Bool) : Ex × St := (.ret, ⟨puts (J 41) [(1, .int .i64 b.1), (4, .int .i64 b.2.1), (5, .bool b.2.2)], [], 0⟩)
def E16 (x : List Fu.Live × Int) : Ex × St := (.exit 0, ⟨puts (J 41) [(1, .int .i64 x.2)], [], 0⟩)
theorem b16 (x : List Fu.Live × Int) (i : Int) : roundN c61 60 16 (loopAt c61.P 16 5) (norm2 0 [] [] s16) (norm2 0 [] [] e16) (T16 (x, i)) =
    .ite (decide (i < 2000)) (.asrt (okF x.1) (.ite (idleL x.1) (.ret (R16 (x.2, IntKind.i64.wrap (x.2 + i), true))) (.asrt (okSt (x.1, IntKind.i64.wrap (x.2 + i))) (.ite (missedL x.1 (IntKind.i64.wrap (x.2 + i)))
      (.ret (R16 (x.2, IntKind.i64.wrap (x.2 + i), false))) (.ret (.normal, T16 ((stepL x.1 (IntKind.i64.wrap (x.2 + i)), x.2), IntKind.i64.wrap (i + 1)))))))) (.ret (E16 x)) := by kernel_rfl
def g16 (σ : St) : Option X16 :=
  match nth σ.tmps 0, nth σ.tmps 1, nth σ.tmps 7 with
  | .view .live l, .int .i64 now, .int .i64 i => some ((l, now), i)
  | _, _, _ => none
def L16 : LoopCon := boundB 0 (norm2 0 [] [] s16) T16 g16 (fun _ => 2000) okK nxtK brkK (0, 0, false) R16 E16
theorem l16 (hs : SubOf c61.P 16 (.loop (loopAt c61.P 16 5))) : SoundLoop c61 (loopAt c61.P 16 5) L16 :=
  bound_loop (C := c61) (g := 16) (l := 5) c61_good 60 0 _ _ (Weak.norm2 0 [] [] s16) (Weak.norm2 0 [] [] e16) hs T16 g16 (fun _ => 2000) okK nxtK brkK (0, 0, false) R16 E16
    (fun _ => by intro h; cases h) (fun _ => by intro h; cases h) (fun _ _ => rfl)
    (fun x i h0 hi hm hok => .of_eq (b16 x i) (by
      have hi : i < 2000 := hi
      obtain ⟨k1, ⟨⟨k2, k3⟩, _⟩, k4⟩ := hok
      rw [wrap_fits (n := x.2 + i) (by omega) (by omega), wrap_fits (n := i + 1) (by omega) (by omega)]
      refine (Tree.out_ite_true (decide_eq_true hi)).2 ⟨k1, ?_⟩
      unfold brkK
      cases hd : idleL x.1 with
      | true => exact (Tree.out_ite_true rfl).2 rfl
      | false =>
        refine (Tree.out_ite_false rfl).2 ⟨k4 hd, ?_⟩
        cases hm : missedL x.1 (x.2 + i) with
        | true => exact (Tree.out_ite_true rfl).2 rfl
        | false => exact (Tree.out_ite_false rfl).2 rfl))
    (fun x i hi => .of_eq (b16 x i) ((Tree.out_ite_false (decide_eq_false (by have hi : (2000 : Int) ≤ i := hi; omega))).2 rfl))
noncomputable def c62 : Cfg := c61.addLoop 16 5 L16
theorem c62_good : GoodCfg c62 := c61_good.addLoop (by unfold OneLoop; kernel_rfl) l16
def rlookT (l : List Fu.Live) (now : Int) : Tree (AV × List Blk) :=
  .asrt (smallL l) (.ite (!mayL l now) (.ret (.tup [.lit .i64 0, .blit false], [])) (.asrt (0 = 0 ∧ T16 ((l, now), 0) = T16 ((l, now), 0)) (.asrt (0 ≤ (0 : Int) ∧ (2000 : Int) ≤ maxI64 ∧ okI nxtK brkK okK ((2000 : Int) - 0).toNat (l, now) 0)
    (optT (0, 0, false) (brkI nxtK brkK ((2000 : Int) - 0).toNat (l, now) 0) (fun b => .ret (.tup [.int .i64 b.2.1, .bool b.2.2], [])) (.ret (.tup [.int .i64 (IntKind.i64.wrap ((foldI nxtK ((2000 : Int) - 0).toNat (l, now) 0).2 + 2000)), .blit false], []))))))
theorem fRLook (l : List Fu.Live) (now : Int) : callC c62 60 16 [.view .live l, .int .i64 now] = rlookT l now := by kernel_rfl
theorem rlookT_rez {l : List Fu.Live} {now : Int} (h : smallL l) : Rez (rlookT l now) (.tup [.int .i64 (lookL l now).1, .bool (lookL l now).2], []) := by
  refine .asrt h (ite_rez (fun hm => ?_) fun hm => ?_)
  · have e : lookL l now = (0, false) := by unfold lookL; rw [show mayL l now = false by simpa using hm]; rfl
    rw [e]
    exact .ret (.tup (.cons (.lit rfl) (.cons (.blit rfl) .nil))) rfl
  · have hm : mayL l now = true := by simpa using hm
    obtain ⟨h1, h2, h3⟩ := mayL_all hm
    have e : lookL l now = lookR 2000 l (now + 0) := by unfold lookL; rw [hm, Int.add_zero]; rfl
    rw [e, lookR_brk now 2000 l 0]
    have e2 : ((2000 : Int) - 0).toNat = 2000 := rfl
    rw [e2]
    refine .asrt ⟨rfl, rfl⟩ (.asrt ⟨Int.le_refl _, by unfold maxI64; omega, okK_all h2 h3 2000 l 0 (Int.le_refl _) rfl (by simpa using h1)⟩ ?_)
    cases hb : brkI nxtK brkK 2000 (l, now) 0 with
    | some b => exact .itet rfl (.ret (.refl _) rfl)
    | none =>
      refine .itee rfl (.ret (.tup (.cons (.eq ?_) (.cons (.blit rfl) .nil))) rfl)
      rw [nxtK_snd]
      simp only
      rw [wrap_fits (by omega) (by omega), Int.add_zero]
      rfl
theorem conRLook_valid : ValidCon c62.P 16 conLook := flatCon_valid c62_good 60 (by kernel_rfl) fun x h => ⟨_, fRLook x.1 x.2, rlookT_rez h⟩
noncomputable def c63 : Cfg := c62.addQuiet 16 conLook
theorem c63_good : GoodCfg c63 := c62_good.addQuiet conRLook_valid flatCon_quiet

end Go.Fx
