import Derived.Test.YtdpcphkhkhdbnaaR6
import Derived.Test.YtdpcphkhkhdbnaaPlS
/- The law ChooseMust. -/
namespace Go.Fx
open Go Go.Proofs

/-- A world, who runs, and when the first one that must has ended. -/
abbrev ACm := Fu.World × (Int × Int) × Int
def hCm (x : ACm) : Heap := [(0, .cells (encW x.1)), (2, .cells [.int .i64 x.2.1.1, .int .i64 x.2.1.2])]
def TCm (x : ACm × Int) : St := ⟨puts (J 96) [(1, .ptr 0 0), (4, .ptr 2 0), (6, .int .i64 x.1.2.2), (7, .int .i64 x.2)], hCm x.1, 3⟩
def sCm : List Sh := sets (Js 96) [(1, .keep), (4, .keep), (6, .int), (7, .int)]
def eCm : List Sh := sets (Js 96) [(1, .keep), (4, .keep), (6, .int)]
def ECm (x : ACm) : Ex × St := (.exit 0, ⟨puts (J 96) [(1, .ptr 0 0), (4, .ptr 2 0), (6, .int .i64 x.2.2)], hCm x, 3⟩)
def nxtCm (x : ACm) (i : Int) : ACm := (x.1, x.2.1, soonF x.2.2 (rd .task x.1.T i))
theorem bCm (x : ACm) (i : Int) : roundN c131 60 8 (loopAt c131.P 8 7) (norm2 3 [] [0, 2] sCm) (norm2 3 [] [0, 2] eCm) (TCm (x, i)) =
    .ite (decide (i < x.1.T.length)) (.asrt (0 ≤ i ∧ i < x.1.T.length) (.asrt ((rd .task x.1.T i).J.On = true → (rd .task x.1.T i).J.Mand = true → smallC (rd .task x.1.T i).J) (.ret (.normal, TCm (nxtCm x i, IntKind.i64.wrap (i + 1)))))) (.ret (ECm x)) := by kernel_rfl
def gCm (σ : St) : Option (ACm × Int) :=
  match nth σ.tmps 6, nth σ.tmps 7, σ.heap with
  | .int .i64 f, .int .i64 i, [(_, .cells [.int .i64 a, .view .task t, .view .ape q, .int .i64 c]), (_, .cells [.int .i64 b, .int .i64 d])] => some ((⟨a, t, q, c⟩, (b, d), f), i)
  | _, _, _ => none
def okCm (x : ACm) (i : Int) : Prop := smallC (rd .task x.1.T i).J
def LCm : LoopCon := boundF 3 (norm2 3 [] [0, 2] sCm) TCm gCm (fun x => x.1.T.length) okCm nxtCm ECm
theorem lCm (hs : SubOf c131.P 8 (.loop (loopAt c131.P 8 7))) : SoundLoop c131 (loopAt c131.P 8 7) LCm :=
  bound_fold (C := c131) (g := 8) (l := 7) c131_good 60 3 _ _ (Weak.norm2 3 [] [0, 2] sCm) (Weak.norm2 3 [] [0, 2] eCm) hs TCm gCm (fun x => x.1.T.length) okCm nxtCm ECm
    (fun _ => by intro h; cases h) (fun _ _ => rfl)
    (fun x i h0 hi hm hok => .of_eq (bCm x i) (by
      unfold maxI64 at hm
      rw [wrap_fits (n := i + 1) (by omega) (by omega)]
      exact (Tree.out_ite_true (decide_eq_true hi)).2 ⟨⟨h0, hi⟩, fun _ _ => hok, rfl⟩))
    (fun x i hi => .of_eq (bCm x i) ((Tree.out_ite_false (decide_eq_false (by omega))).2 rfl))
noncomputable def c132 : Cfg := c131.addLoop 8 7 LCm
theorem c132_good : GoodCfg c132 := c131_good.addLoop (by unfold OneLoop; kernel_rfl) lCm
def cmF (w : Fu.World) : ACm := foldI nxtCm ((w.T.length : Int) - 0).toNat (w, whoW w, 0) 0
def foundT (T : List Fu.Task) (id : Int) : Fu.Task := (taskF T id).getD zeroK
def cmE (x : ACm) : Tree (AV × List Blk) := .ite (x.2.2 == 0) (.ret (.bool (x.2.1.1 != 1), [])) (.asrt (smallW x.1) (.ret (.bool (x.2.1.1 == 1 && ((taskF x.1.T x.2.1.2).isSome && ((foundT x.1.T x.2.1.2).J.On && ((foundT x.1.T x.2.1.2).J.Mand && (foundT x.1.T x.2.1.2).J.Due == x.2.2)))), [])))
def cmT (w : Fu.World) : Tree (AV × List Blk) := .asrt (smallW w) (.ite (!mayW w) (.ret (.blit true, [])) (.asrt (okWho w) (.asrt (3 = 3 ∧ TCm ((w, whoW w, 0), 0) = TCm ((w, whoW w, 0), 0)) (.asrt (0 ≤ (0 : Int) ∧ (w.T.length : Int) ≤ maxI64 ∧ okI nxtCm (fun _ _ => (none : Option Unit)) okCm ((w.T.length : Int) - 0).toNat (w, whoW w, 0) 0) (cmE (cmF w))))))
theorem fCm (w : Fu.World) : callC c132 60 8 [.agg (encW w)] = cmT w := by kernel_rfl
theorem foldCm {w : Fu.World} {p : Int × Int} (hc : ∀ t ∈ w.T, smallC t.J) (k : Nat) : ∀ (f i : Int), 0 ≤ i → i + k = w.T.length →
    foldI nxtCm k (w, p, f) i = (w, p, (w.T.drop i.toNat).foldl soonF f) ∧ okI nxtCm (fun _ _ => (none : Option Unit)) okCm k (w, p, f) i := by
  induction k with
  | zero => intro f i h0 h1; rw [drop_end (by omega)]; exact ⟨rfl, trivial⟩
  | succ k ih =>
    intro f i h0 h1
    have hd := drop_rd (r := .task) (xs := w.T) h0 (by omega)
    obtain ⟨k1, k2⟩ := ih (soonF f (rd .task w.T i)) (i + 1) (by omega) (by omega)
    refine ⟨?_, ⟨hc _ (rd_inT h0 (by omega)), fun _ => k2⟩⟩
    unfold foldI
    rw [hd, List.foldl_cons]
    exact k1
theorem cmT_tru {w : Fu.World} (h : smallW w) : Tru (cmT w) := by
  have hT := h.1
  refine .asrt h (.ite (fun _ => .yes) fun hm => ?_)
  have hm : mayW w = true := by simpa using hm
  have hok := okWho_may h (mayW_live hm)
  obtain ⟨k1, k2⟩ := foldCm (w := w) (p := whoW w) (fun t ht => (job_due hm ht).1) ((w.T.length : Int) - 0).toNat 0 0 (Int.le_refl _) (by omega)
  rw [show (0 : Int).toNat = 0 from rfl, List.drop_zero] at k1
  have e : cmF w = (w, whoW w, w.T.foldl soonF 0) := k1
  refine .asrt hok (.asrt ⟨rfl, rfl⟩ (.asrt ⟨Int.le_refl _, by unfold maxI64; omega, k2⟩ ?_))
  rw [e]
  unfold cmE
  simp only
  rcases must_law hm with ⟨h1, h2⟩ | ⟨h1, h2, t, h3, h4, h5, h6⟩
  · refine .ite (fun _ => .of ?_) fun hb => ?_
    · simpa using h2
    · rw [h1] at hb; cases hb
  · refine .ite (fun hb => ?_) fun _ => .asrt h (.of ?_)
    · exact absurd (by simpa using hb) h1
    · unfold foundT
      rw [h3]
      simp [h2, h4, h5, h6]
theorem conCm_valid : ValidCon c132.P 8 (lawCon good1W) := lawCon_of (n := 60) c132_good (by kernel_rfl) fun args ⟨w, h1, h2⟩ => by
  subst h1
  exact ⟨_, fCm w, cmT_tru h2⟩
end Go.Fx
