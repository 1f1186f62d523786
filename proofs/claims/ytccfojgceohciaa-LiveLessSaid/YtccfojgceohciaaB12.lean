/- Contracts: looking on. -/
import Derived.Test.YtccfojgceohciaaB11
import Derived.Test.YtccfojgceohciaaPlE
namespace Go.Fx
open Go Go.Proofs

/-! ### live.Look -/
abbrev X15 := Int × (List Fu.Live × Int) × Int
def T15 (x : X15) : St := ⟨puts (J 37) [(0, .view .live x.2.1.1), (1, .int .i64 x.2.1.2), (13, .int .i64 x.2.2)], [], 0⟩
def s15 : List Sh := sets (Js 37) [(0, .keep), (1, .keep), (13, .int)]
def e15 : List Sh := sets (Js 37) [(1, .keep), (4, .keep), (5, .bool)]
def R15 (b : Int × Int × Bool) : Ex × St := (.ret, ⟨puts (J 37) [(1, .int .i64 b.1), (4, .int .i64 b.2.1), (5, .bool b.2.2)], [], 0⟩)
def E15 (x : List Fu.Live × Int) : Ex × St := (.exit 0, ⟨puts (J 37) [(1, .int .i64 x.2)], [], 0⟩)
theorem b15 (N : Int) (x : List Fu.Live × Int) (i : Int) : roundN c41 60 15 (loopAt c41.P 15 4) (norm2 0 [] [] s15) (norm2 0 [] [] e15) (T15 (N, x, i)) =
    .ite (decide (i < 2000)) (.asrt (okF x.1) (.ite (idleL x.1) (.ret (R15 (x.2, IntKind.i64.wrap (x.2 + i), true))) (.asrt (okSt (x.1, IntKind.i64.wrap (x.2 + i))) (.ite (missedL x.1 (IntKind.i64.wrap (x.2 + i)))
      (.ret (R15 (x.2, IntKind.i64.wrap (x.2 + i), false))) (.ret (.normal, T15 (N, (stepL x.1 (IntKind.i64.wrap (x.2 + i)), x.2), IntKind.i64.wrap (i + 1)))))))) (.ret (E15 x)) := by kernel_rfl
def g15 (σ : St) : Option X15 :=
  match nth σ.tmps 0, nth σ.tmps 1, nth σ.tmps 13 with
  | .view .live l, .int .i64 now, .int .i64 i => some (2000, (l, now), i)
  | _, _, _ => none
def okK (x : List Fu.Live × Int) (i : Int) : Prop := okF x.1 ∧ (nowOK x.2 ∧ i < 2000) ∧ (idleL x.1 = false → okSt (x.1, x.2 + i))
def L15 : LoopCon := fun σ => match g15 (norm2 0 [] [] s15 σ) with
  | some p => .asrt (σ.next = 0 ∧ norm2 0 [] [] s15 σ = T15 p ∧ p.2.2 = 0 ∧ okI nxtK brkK okK 2000 p.2.1 0) (optT (0, 0, false) (brkI nxtK brkK 2000 p.2.1 0) (fun b => .ret (R15 b)) (.ret (E15 (foldI nxtK 2000 p.2.1 0))))
  | none => .fail
theorem l15 (hs : SubOf c41.P 15 (.loop (loopAt c41.P 15 4))) : SoundLoop c41 (loopAt c41.P 15 4) L15 := by
  have V := loop_rule3 (C := c41) (g := 15) (l := 4) c41_good 60 0 (norm2 0 [] [] s15) (norm2 0 [] [] e15) (Weak.norm2 0 [] [] s15) (Weak.norm2 0 [] [] e15) hs T15
    (fun p => .asrt (0 ≤ p.2.2 ∧ p.2.2 ≤ 2000 ∧ okI nxtK brkK okK (2000 - p.2.2).toNat p.2.1 p.2.2) (optT (0, 0, false) (brkI nxtK brkK (2000 - p.2.2).toNat p.2.1 p.2.2) (fun b => .ret (R15 b)) (.ret (E15 (foldI nxtK (2000 - p.2.2).toNat p.2.1 p.2.2)))))
    (fun p => (2000 - p.2.2).toNat) (fun p q h => ?_) (L := L15) (fun σ r h => ?_)
  · exact V
  · obtain ⟨N, x, i⟩ := p
    obtain ⟨⟨h0, h1, h3⟩, h⟩ := Tree.out_asrt.1 h
    simp only at h0 h1 h3 h
    replace h := optT_out.1 h
    refine .of_eq (b15 N x i) ?_
    rcases Int.lt_or_le i 2000 with hi | hi
    · rw [show (2000 - i).toNat = (2000 - (i + 1)).toNat + 1 by omega] at h h3
      obtain ⟨⟨k1, ⟨⟨k2, k3⟩, _⟩, k4⟩, h3⟩ := h3
      rw [wrap_fits (n := x.2 + i) (by omega) (by omega), wrap_fits (n := i + 1) (by omega) (by omega)]
      refine Tree.wp_ite.2 ⟨fun _ => ⟨k1, Tree.wp_ite.2 ⟨fun hd => ?_, fun hd => ⟨k4 hd, Tree.wp_ite.2 ⟨fun hm => ?_, fun hm => ?_⟩⟩⟩⟩, fun hn => by simp at hn; omega⟩
      · unfold brkI brkK at h
        rw [hd] at h
        exact Rnd.ret h
      · unfold brkI brkK at h
        rw [hd, hm] at h
        exact Rnd.ret h
      · have hb : brkK x i = none := by unfold brkK; rw [hd, hm]; rfl
        unfold brkI at h
        rw [hb] at h
        refine Rnd.go (m := fun p : X15 => (2000 - p.2.2).toNat) (x := (N, x, i)) (N, nxtK x i, i + 1) (show (2000 - (i + 1)).toNat < (2000 - i).toNat by omega) ?_
        exact Tree.out_asrt.2 ⟨⟨(show 0 ≤ i + 1 by omega), (show i + 1 ≤ 2000 by omega), h3 hb⟩, optT_out.2 h⟩
    · rw [show (2000 - i).toNat = 0 by omega] at h
      refine Tree.wp_ite.2 ⟨fun hn => by simp at hn; omega, fun _ => Rnd.out h⟩
  · unfold L15 at h
    split at h
    · rename_i p hp
      obtain ⟨⟨h1, h2, h3, h4⟩, h5⟩ := Tree.out_asrt.1 h
      refine ⟨h1, p, h2, ?_⟩
      obtain ⟨N, x, i⟩ := p
      simp only at h3 h4 h5
      subst h3
      exact Tree.out_asrt.2 ⟨⟨Int.le_refl _, (show (0 : Int) ≤ 2000 by omega), h4⟩, h5⟩
    · exact h.elim
noncomputable def c42 : Cfg := c41.addLoop 15 4 L15
theorem c42_good : GoodCfg c42 := c41_good.addLoop (by unfold OneLoop; kernel_rfl) l15
def lookT (l : List Fu.Live) (now : Int) : Tree (AV × List Blk) :=
  .asrt (smallL l) (.ite (!mayL l now) (.ret (.tup [.lit .i64 0, .blit false], [])) (.asrt (0 = 0 ∧ T15 (2000, (l, now), 0) = T15 (2000, (l, now), 0) ∧ (0 : Int) = 0 ∧ okI nxtK brkK okK 2000 (l, now) 0)
    (optT (0, 0, false) (brkI nxtK brkK 2000 (l, now) 0) (fun b => .ret (.tup [.int .i64 b.2.1, .bool b.2.2], [])) (.ret (.tup [.int .i64 (IntKind.i64.wrap ((foldI nxtK 2000 (l, now) 0).2 + 2000)), .blit false], [])))))
theorem fLook (l : List Fu.Live) (now : Int) : callC c42 60 15 [.view .live l, .int .i64 now] = lookT l now := by kernel_rfl
theorem okF_of {b : Int} {l : List Fu.Live} {t : Int} (h : AllI b l t) : okF l := ⟨by have := h.1; omega, fun x hx => (h.2 x hx).small⟩
theorem okSt_of {b : Int} {l : List Fu.Live} {t : Int} (h : AllI b l t) (h0 : 0 ≤ t) (h1 : t ≤ 1099511627000) (hb : b ≤ 1099511627776) : okSt (l, t) := by
  have hn : nowOK t := ⟨by omega, by omega⟩
  refine ⟨⟨?_, fun y hy => ⟨hn, ?_, ?_⟩⟩, hn, fun y hy => (((begin_all h h0 h1 hb).2 y hy)).small⟩
  · have := h.1; show (l.length : Int) * 136 ≤ 140737488355328; omega
  · have := perOK_P (h.2 y hy).1; omega
  · have := (h.2 y hy).2.2.1; omega
theorem okK_all {now : Int} (h0 : 0 ≤ now) (h1 : now ≤ 549755813888) : ∀ (n : Nat) (l : List Fu.Live) (i : Int), 0 ≤ i → i + n = 2000 → AllI (549755813888 + i) l (now + i) → okI nxtK brkK okK n (l, now) i
  | 0, _, _, _, _, _ => trivial
  | n + 1, l, i, h2, h3, h => by
    refine ⟨⟨okF_of h, ⟨⟨by simp only; omega, by simp only; omega⟩, by omega⟩, fun _ => okSt_of h (by simp only; omega) (by simp only; omega) (by omega)⟩, fun _ => ?_⟩
    have := step_all h (by omega) (by omega) (by omega)
    rw [show 549755813888 + i + 1 = 549755813888 + (i + 1) by omega, show now + i + 1 = now + (i + 1) by omega] at this
    exact okK_all h0 h1 n _ (i + 1) (by omega) (by omega) this
theorem nxtK_snd : ∀ (n : Nat) (x : List Fu.Live × Int) (i : Int), (foldI nxtK n x i).2 = x.2
  | 0, _, _ => rfl
  | n + 1, x, i => by unfold foldI; rw [nxtK_snd n]; rfl
theorem lookT_rez {l : List Fu.Live} {now : Int} (h : smallL l) : Rez (lookT l now) (.tup [.int .i64 (lookL l now).1, .bool (lookL l now).2], []) := by
  refine .asrt h (ite_rez (fun hm => ?_) fun hm => ?_)
  · have e : lookL l now = (0, false) := by unfold lookL; rw [show mayL l now = false by simpa using hm]; rfl
    rw [e]
    exact .ret (.tup (.cons (.lit rfl) (.cons (.blit rfl) .nil))) rfl
  · have hm : mayL l now = true := by simpa using hm
    obtain ⟨h1, h2, h3⟩ := mayL_all hm
    have e : lookL l now = lookR 2000 l (now + 0) := by unfold lookL; rw [hm, Int.add_zero]; rfl
    rw [e, lookR_brk now 2000 l 0]
    refine .asrt ⟨rfl, rfl, rfl, okK_all h2 h3 2000 l 0 (Int.le_refl _) rfl (by simpa using h1)⟩ ?_
    cases hb : brkI nxtK brkK 2000 (l, now) 0 with
    | some b => exact .itet rfl (.ret (.refl _) rfl)
    | none =>
      refine .itee rfl (.ret (.tup (.cons (.eq ?_) (.cons (.blit rfl) .nil))) rfl)
      rw [nxtK_snd]
      simp only
      rw [wrap_fits (by omega) (by omega), Int.add_zero]
      rfl
def conLook : Con := flatCon (d2 (dView .live) dInt) (fun x => smallL x.1) fun x => .tup [.int .i64 (lookL x.1 x.2).1, .bool (lookL x.1 x.2).2]
theorem conLook_valid : ValidCon c42.P 15 conLook := flatCon_valid c42_good 60 (by kernel_rfl) fun x h => ⟨_, fLook x.1 x.2, lookT_rez h⟩
noncomputable def c43 : Cfg := c42.addQuiet 15 conLook
theorem c43_good : GoodCfg c43 := c42_good.addQuiet conLook_valid flatCon_quiet

end Go.Fx
