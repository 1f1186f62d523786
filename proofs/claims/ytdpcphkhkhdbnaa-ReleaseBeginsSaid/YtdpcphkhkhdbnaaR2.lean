import Derived.Test.YtdpcphkhkhdbnaaR1
import Derived.Test.YtdpcphkhkhdbnaaPlR
/- The laws ReleaseSafe, and ReleaseLess. -/
namespace Go.Fx
open Go Go.Proofs

def TRs (x : ASf × Int) : St := ⟨puts (J 72) [(1, .ptr 0 0), (4, .own 1), (5, .int .i64 x.2)], [(0, .cells (encW x.1.1)), (1, .rows .fix 43 x.1.2)], 2⟩
def sRs : List Sh := sets (Js 72) [(1, .keep), (4, .keep), (5, .int)]
def eRs : List Sh := sets (Js 72) [(1, .keep), (4, .keep)]
def fRs (ss : List Sh) (σ : St) : St := norm2 1 [.tmp 4] [0, 1] ss (ownSlot 4 .fix 43 σ)
theorem weak_fRs (ss : List Sh) (σ : St) : Weak 1 σ (fRs ss σ) := (Weak.ownSlot 1 4 .fix 43 σ).trans (Weak.norm2 1 [.tmp 4] [0, 1] ss _)
def ERs (x : ASf) : Ex × St := (.exit 0, ⟨puts (J 72) [(1, .ptr 0 0), (4, .own 1)], [(0, .cells (encW x.1)), (1, .rows .fix 43 x.2)], 2⟩)
theorem bRs (x : ASf) (i : Int) : roundN c90 60 4 (loopAt c90.P 4 6) (fRs sRs) (fRs eRs) (TRs (x, i)) =
    .ite (decide (i < x.1.T.length)) (.asrt (0 ≤ i ∧ i < x.1.T.length) (.asrt (0 ≤ i ∧ i < x.1.T.length) (.asrt ((x.2 ++ [fixK (rd .task x.1.T i)]).length * 56 ≤ 140737488355328) (.ret (.normal, TRs ((x.1, x.2 ++ [fixK (rd .task x.1.T i)]), IntKind.i64.wrap (i + 1))))))) (.ret (ERs x)) := by kernel_rfl
def gRs (σ : St) : Option (ASf × Int) :=
  match nth σ.tmps 5, σ.heap with
  | .int .i64 i, [(_, .cells [.int .i64 a, .view .task t, .view .ape p, .int .i64 c]), (_, .rows .fix _ o)] => some ((⟨a, t, p, c⟩, o), i)
  | _, _ => none
def LRs : LoopCon := boundF 1 (fRs sRs) TRs gRs (fun x => x.1.T.length) okSf nxtSf ERs
theorem lRs (hs : SubOf c90.P 4 (.loop (loopAt c90.P 4 6))) : SoundLoop c90 (loopAt c90.P 4 6) LRs :=
  bound_fold (C := c90) (g := 4) (l := 6) c90_good 60 1 _ _ (weak_fRs sRs) (weak_fRs eRs) hs TRs gRs (fun x => x.1.T.length) okSf nxtSf ERs
    (fun _ => by intro h; cases h) (fun _ _ => rfl)
    (fun x i h0 hi hm hok => .of_eq (bRs x i) (by
      unfold maxI64 at hm
      rw [wrap_fits (n := i + 1) (by omega) (by omega)]
      exact (Tree.out_ite_true (decide_eq_true hi)).2 ⟨⟨h0, hi⟩, ⟨h0, hi⟩, by rw [List.length_append]; exact hok, rfl⟩))
    (fun x i hi => .of_eq (bRs x i) ((Tree.out_ite_false (decide_eq_false (by omega))).2 rfl))
noncomputable def c91 : Cfg := c90.addLoop 4 6 LRs
theorem c91_good : GoodCfg c91 := c90_good.addLoop (by unfold OneLoop; kernel_rfl) lRs
def sfE (w : Fu.World) (l : List Fu.Fix) : Tree (AV × List Blk) :=
  .asrt (smallW w) (.asrt (smallL (w.T.map liveK)) (.asrt (smallW w) (.asrt ((lookL (w.T.map liveK) w.Now).2 = true → (l.length : Int) < 17592186044416) (.asrt ((lookL (w.T.map liveK) w.Now).2 = true → (safeW w == testV l) = true → smallW { w with T := [] })
    (.asrt ((lookL (w.T.map liveK) w.Now).2 = false → (safeW w == false) = true → smallW { w with T := [] }) (.ret (.bool (bif (lookL (w.T.map liveK) w.Now).2 then safeW w == testV l && safeW { w with T := [] } else safeW w == false && safeW { w with T := [] }), [])))))))
def rsT (w : Fu.World) : Tree (AV × List Blk) :=
  .asrt (smallW w) (.ite (!mayW w) (.asrt (smallW w) (.asrt (mayW w = false → smallW w) (.ret (.bool (mayW w || !safeW w), []))))
    (.asrt (1 = 1 ∧ TRs ((w, []), 0) = TRs ((w, []), 0)) (.asrt (0 ≤ (0 : Int) ∧ (w.T.length : Int) ≤ maxI64 ∧ okI nxtSf (fun _ _ => (none : Option Unit)) okSf ((w.T.length : Int) - 0).toNat (w, []) 0) (sfE (sfF w).1 (sfF w).2))))
theorem fRs17 (w : Fu.World) : callC c91 60 4 [.agg (encW w)] = rsT w := by kernel_rfl
theorem rsT_tru {w : Fu.World} (h : smallW w) : Tru (rsT w) := by
  have hT := h.1
  have hb : smallW { w with T := [] } := ⟨by show ((([] : List Fu.Task).length : Nat) : Int) * 176 ≤ _; simp, h.2⟩
  refine .asrt h (.ite (fun hm => .asrt h (.asrt (fun _ => h) (.of ?_))) fun hm => ?_)
  · unfold safeW
    rw [show mayW w = false by simpa using hm]
    rfl
  have hm : mayW w = true := by simpa using hm
  obtain ⟨k1, k2⟩ := foldSf (w := w) (by omega) ((w.T.length : Int) - 0).toNat [] 0 (Int.le_refl _) (by omega) (by simp)
  rw [show (0 : Int).toNat = 0 from rfl, List.drop_zero] at k1
  refine .asrt ⟨rfl, rfl⟩ (.asrt ⟨Int.le_refl _, by unfold maxI64; omega, k2⟩ ?_)
  have e : sfF w = (w, w.T.map fixK) := k1
  rw [e]
  refine .asrt h (.asrt (by show ((w.T.map liveK).length : Int) < _; rw [List.length_map]; omega) (.asrt h (.asrt (fun _ => by show ((w.T.map fixK).length : Int) < _; rw [List.length_map]; omega) (.asrt (fun _ _ => hb) (.asrt (fun _ _ => hb) (.of ?_))))))
  rw [safe_bare hm]
  unfold safeW
  rw [hm]
  cases (lookL (w.T.map liveK) w.Now).2 with
  | true => simp
  | false => rfl
/-- Arguments: a world. -/
def good1W (args : List AV) : Prop := ∃ w : Fu.World, args = [.agg (encW w)] ∧ smallW w
theorem conRs_valid : ValidCon c91.P 4 (lawCon good1W) := lawCon_of (n := 60) c91_good (by kernel_rfl) fun args ⟨w, h1, h2⟩ => by
  subst h1
  exact ⟨_, fRs17 w, rsT_tru h2⟩

/-! ### ReleaseLess -/
def headK (l : List Fu.Task) (i : Int) : List Fu.Task := [] ++ (l.take (highOf (some (false, i)) (l.length : Int)).toNat).drop (lowOf none).toNat
def cutK (l : List Fu.Task) (i : Int) : List Fu.Task := headK l i ++ (l.take (highOf none (l.length : Int)).toNat).drop (lowOf (some (false, IntKind.i64.wrap (i + 1)))).toNat
def rlT (w : Fu.World) (i : Int) : Tree (AV × List Blk) :=
  .asrt (decide (i < 0) = false → decide (i ≥ (w.T.length : Int)) = false → smallW w) (.ite (decide (i < 0) || (decide (i ≥ (w.T.length : Int)) || !safeW w)) (.ret (.blit true, []))
    (.asrt (0 ≤ lowOf none ∧ lowOf none ≤ highOf (some (false, i)) (w.T.length : Int) ∧ highOf (some (false, i)) (w.T.length : Int) ≤ w.T.length) (.asrt ((headK w.T i).length * 176 ≤ 140737488355328)
      (.asrt (0 ≤ lowOf (some (false, IntKind.i64.wrap (i + 1))) ∧ lowOf (some (false, IntKind.i64.wrap (i + 1))) ≤ highOf none (w.T.length : Int) ∧ highOf none (w.T.length : Int) ≤ w.T.length) (.asrt ((cutK w.T i).length * 176 ≤ 140737488355328)
        (.asrt (smallW { w with T := cutK w.T i }) (.ret (.bool (safeW { w with T := cutK w.T i }), []))))))))
theorem fRl17 (w : Fu.World) (i : Int) : callC c91 90 5 [.agg (encW w), .int .i64 i] = rlT w i := by kernel_rfl
theorem cutK_sub {l : List Fu.Task} {i : Int} (h0 : 0 ≤ i) (h1 : i < l.length) (h2 : (l.length : Int) < 17592186044416) : List.Sublist (cutK l i) l := by
  unfold cutK headK
  rw [wrap_fits (by omega) (by omega), show (highOf none (l.length : Int)).toNat = l.length by show ((l.length : Nat) : Int).toNat = _; omega, show (lowOf none).toNat = 0 from rfl, List.take_length, List.drop_zero, List.nil_append]
  show List.Sublist (l.take i.toNat ++ l.drop (i + 1).toNat) l
  have e : l = l.take i.toNat ++ l.drop i.toNat := (List.take_append_drop _ _).symm
  conv => rhs; rw [e]
  refine List.Sublist.append_left ?_ _
  have e2 : l.drop (i + 1).toNat = (l.drop i.toNat).drop 1 := by rw [List.drop_drop]; congr 1; omega
  rw [e2]
  exact List.drop_sublist _ _
theorem rlT_tru {w : Fu.World} {i : Int} (h : smallW w) : Tru (rlT w i) := by
  have hT := h.1
  refine .asrt (fun _ _ => h) (.ite (fun _ => .yes) fun hm => ?_)
  simp only [Bool.or_eq_false_iff, decide_eq_false_iff_not, Bool.not_eq_false'] at hm
  obtain ⟨h0, h1, hs⟩ := hm
  have hi0 : 0 ≤ i := by omega
  have hi1 : i < (w.T.length : Int) := by omega
  have hs' := cutK_sub hi0 hi1 (by omega)
  have hl := hs'.length_le
  have hh : (headK w.T i).length ≤ (cutK w.T i).length := by unfold cutK; rw [List.length_append]; omega
  refine .asrt ⟨Int.le_refl _, hi0, by show i ≤ _; omega⟩ (.asrt (by omega) (.asrt ?_ (.asrt (by omega) (.asrt ⟨by show ((cutK w.T i).length : Int) * 176 ≤ _; omega, h.2⟩ (.of (safe_sub hs' hs))))))
  rw [wrap_fits (by omega) (by omega)]
  exact ⟨by show 0 ≤ i + 1; omega, by show i + 1 ≤ (w.T.length : Int); omega, Int.le_refl _⟩
/-- Arguments: a world, and a number. -/
def good2W (args : List AV) : Prop := ∃ (w : Fu.World) (i : Int), args = [.agg (encW w), .int .i64 i] ∧ smallW w
theorem conRl_valid : ValidCon c91.P 5 (lawCon good2W) := lawCon_of (n := 90) c91_good (by kernel_rfl) fun args ⟨w, i, h1, h2⟩ => by
  subst h1
  exact ⟨_, fRl17 w i, rlT_tru h2⟩
end Go.Fx
