import Derived.Test.YtdpcphkhkhdbnaaR2
import Derived.Test.YtdpcphkhkhdbnaaPlR
/- The law ReleaseTurned. -/
namespace Go.Fx
open Go Go.Proofs

abbrev ARt := Fu.World × List Int × List Fu.Task × List Fu.Fix
def TRt (x : ARt × Int) : St := ⟨puts (J 81) [(1, .view (.int .i64) x.1.2.1), (2, .ptr 0 0), (6, .ptr 1 0), (7, .own 3), (8, .int .i64 x.2)], [(0, .cells (encW x.1.1)), (1, .cells [.int .i64 x.1.1.Now, .own 2, .view .ape x.1.1.A, .int .i64 x.1.1.Cur]), (2, .rows .task 39 x.1.2.2.1), (3, .rows .fix 43 x.1.2.2.2)], 4⟩
def sRt : List Sh := sets (Js 81) [(1, .keep), (2, .keep), (6, .keep), (7, .keep), (8, .int)]
def eRt : List Sh := sets (Js 81) [(6, .keep), (7, .keep)]
def fRt (ss : List Sh) (σ : St) : St := norm2 2 [.cell 1 1, .tmp 7] [0, 1, 2, 3] ss (ownSlot 7 .fix 43 (ownCell 1 1 .task 39 σ))
theorem weak_fRt (ss : List Sh) (σ : St) : Weak 2 σ (fRt ss σ) := ((Weak.ownCell 2 1 1 .task 39 σ).trans (Weak.ownSlot 2 7 .fix 43 _)).trans (Weak.norm2 2 [.cell 1 1, .tmp 7] [0, 1, 2, 3] ss _)
def ERt (x : ARt) : Ex × St := (.exit 0, ⟨puts (J 81) [(6, .ptr 1 0), (7, .own 3)], [(0, .cells (encW x.1)), (1, .cells [.int .i64 x.1.Now, .own 2, .view .ape x.1.A, .int .i64 x.1.Cur]), (2, .rows .task 39 x.2.2.1), (3, .rows .fix 43 x.2.2.2)], 4⟩)
def turn1 (x : ARt) (i : Int) : Fu.Task := turnK (rd .task x.1.T i) (rd .task x.1.T i).S (rd (.int .i64) x.2.1 i)
theorem bRt (x : ARt) (i : Int) : roundN c91 60 6 (loopAt c91.P 6 8) (fRt sRt) (fRt eRt) (TRt (x, i)) =
    .ite (decide (i < x.1.T.length)) (.asrt (0 ≤ i ∧ i < x.1.T.length) (.asrt (0 ≤ i ∧ i < x.1.T.length) (.asrt (0 ≤ i ∧ i < (x.2.1.length : Int)) (.asrt ((x.2.2.1 ++ [turn1 x i]).length * 176 ≤ 140737488355328) (.asrt ((x.2.2.2 ++ [fixK (turn1 x i)]).length * 56 ≤ 140737488355328)
      (.ret (.normal, TRt ((x.1, x.2.1, x.2.2.1 ++ [turn1 x i], x.2.2.2 ++ [fixK (turn1 x i)]), IntKind.i64.wrap (i + 1))))))))) (.ret (ERt x)) := by kernel_rfl
def gRt (σ : St) : Option (ARt × Int) :=
  match nth σ.tmps 1, nth σ.tmps 8, σ.heap with
  | .view (.int .i64) p, .int .i64 i, [(_, .cells [.int .i64 a, .view .task t, .view .ape q, .int .i64 c]), _, (_, .rows .task _ T), (_, .rows .fix _ F)] => some ((⟨a, t, q, c⟩, p, T, F), i)
  | _, _, _ => none
def nxtRt (x : ARt) (i : Int) : ARt := (x.1, x.2.1, x.2.2.1 ++ [turn1 x i], x.2.2.2 ++ [fixK (turn1 x i)])
def okRt (x : ARt) (i : Int) : Prop := i < (x.2.1.length : Int) ∧ (x.2.2.1.length + 1) * 176 ≤ 140737488355328 ∧ (x.2.2.2.length + 1) * 56 ≤ 140737488355328
def LRt : LoopCon := boundF 2 (fRt sRt) TRt gRt (fun x => x.1.T.length) okRt nxtRt ERt
theorem lRt (hs : SubOf c91.P 6 (.loop (loopAt c91.P 6 8))) : SoundLoop c91 (loopAt c91.P 6 8) LRt :=
  bound_fold (C := c91) (g := 6) (l := 8) c91_good 60 2 _ _ (weak_fRt sRt) (weak_fRt eRt) hs TRt gRt (fun x => x.1.T.length) okRt nxtRt ERt
    (fun _ => by intro h; cases h) (fun _ _ => rfl)
    (fun x i h0 hi hm hok => .of_eq (bRt x i) (by
      unfold maxI64 at hm
      rw [wrap_fits (n := i + 1) (by omega) (by omega)]
      obtain ⟨k1, k2, k3⟩ := hok
      exact (Tree.out_ite_true (decide_eq_true hi)).2 ⟨⟨h0, hi⟩, ⟨h0, hi⟩, ⟨h0, k1⟩, by rw [List.length_append]; exact k2, by rw [List.length_append]; exact k3, rfl⟩))
    (fun x i hi => .of_eq (bRt x i) ((Tree.out_ite_false (decide_eq_false (by omega))).2 rfl))
noncomputable def c92 : Cfg := c91.addLoop 6 8 LRt
theorem c92_good : GoodCfg c92 := c91_good.addLoop (by unfold OneLoop; kernel_rfl) lRt
def rtF (w : Fu.World) (p : List Int) : ARt := foldI nxtRt ((w.T.length : Int) - 0).toNat (w, p, [], []) 0
def rtE (x : ARt) : Tree (AV × List Blk) := .asrt (smallW { x.1 with T := x.2.2.1 }) (.asrt ((x.2.2.2.length : Int) < 17592186044416) (.ret (.bool (safeW { x.1 with T := x.2.2.1 } == testV x.2.2.2), [])))
def rtT (w : Fu.World) (p : List Int) : Tree (AV × List Blk) :=
  .asrt (smallW w) (.asrt ((!safeW w) = false → decide ((p.length : Int) < w.T.length) = false → smallW w) (.asrt ((!safeW w) = false → decide ((p.length : Int) < w.T.length) = false → okF (w.T.map liveK))
    (.ite (!safeW w || (decide ((p.length : Int) < w.T.length) || !idleL (w.T.map liveK))) (.ret (.blit true, []))
      (.asrt (2 = 2 ∧ TRt ((w, p, [], []), 0) = TRt ((w, p, [], []), 0)) (.asrt (0 ≤ (0 : Int) ∧ (w.T.length : Int) ≤ maxI64 ∧ okI nxtRt (fun _ _ => (none : Option Unit)) okRt ((w.T.length : Int) - 0).toNat (w, p, [], []) 0) (rtE (rtF w p)))))))
theorem fRt17 (w : Fu.World) (p : List Int) : callC c92 60 6 [.agg (encW w), .view (.int .i64) p] = rtT w p := by kernel_rfl
theorem foldRt {w : Fu.World} {p : List Int} (hT : (w.T.length : Int) * 176 ≤ 140737488355328) (hp : w.T.length ≤ p.length) (k : Nat) : ∀ (T : List Fu.Task) (F : List Fu.Fix) (i : Int), 0 ≤ i → i + k = w.T.length → T.length + k = w.T.length → F.length + k = w.T.length →
    foldI nxtRt k (w, p, T, F) i = (w, p, T ++ turnAll (w.T.drop i.toNat) (p.drop i.toNat), F ++ (turnAll (w.T.drop i.toNat) (p.drop i.toNat)).map fixK) ∧ okI nxtRt (fun _ _ => (none : Option Unit)) okRt k (w, p, T, F) i := by
  induction k with
  | zero =>
    intro T F i h0 h1 h2 h3
    rw [drop_end (by omega)]
    exact ⟨by simp [foldI, turnAll], trivial⟩
  | succ k ih =>
    intro T F i h0 h1 h2 h3
    have hd := drop_rd (r := .task) (xs := w.T) h0 (by omega)
    have hd' := drop_rd (r := .int .i64) (xs := p) h0 (by omega)
    have hok : okRt (w, p, T, F) i := ⟨by show i < (p.length : Int); omega, by show (T.length + 1) * 176 ≤ 140737488355328; omega, by show (F.length + 1) * 56 ≤ 140737488355328; omega⟩
    have e : nxtRt (w, p, T, F) i = (w, p, T ++ [turn1 (w, p, T, F) i], F ++ [fixK (turn1 (w, p, T, F) i)]) := rfl
    obtain ⟨k1, k2⟩ := ih (T ++ [turn1 (w, p, T, F) i]) (F ++ [fixK (turn1 (w, p, T, F) i)]) (i + 1) (by omega) (by omega) (by rw [List.length_append]; simp only [List.length_cons, List.length_nil]; omega) (by rw [List.length_append]; simp only [List.length_cons, List.length_nil]; omega)
    refine ⟨?_, hok, fun _ => by rw [e]; exact k2⟩
    unfold foldI
    rw [e]
    refine k1.trans ?_
    rw [hd]
    have e2 : turnAll (rd .task w.T i :: w.T.drop (i + 1).toNat) (p.drop i.toNat) = turn1 (w, p, T, F) i :: turnAll (w.T.drop (i + 1).toNat) (p.drop (i + 1).toNat) := by
      have hd'' : p.drop i.toNat = rd (.int .i64) p i :: p.drop (i + 1).toNat := hd'
      rw [hd'']
      rfl
    rw [e2, List.map_cons, List.append_assoc, List.append_assoc]
    rfl
theorem rtT_tru {w : Fu.World} {p : List Int} (h : smallW w) : Tru (rtT w p) := by
  have hT := h.1
  have hok : ∀ (hs : (!safeW w) = false), okF (w.T.map liveK) := fun hs => by
    have hs : safeW w = true := by simpa using hs
    unfold safeW at hs
    simp only [Bool.and_eq_true] at hs
    exact okF_of (mayL_all (mayW_live hs.1)).1
  refine .asrt h (.asrt (fun _ _ => h) (.asrt (fun hs _ => hok hs) (.ite (fun _ => .yes) fun hc => ?_)))
  simp only [Bool.or_eq_false_iff, Bool.not_eq_false', decide_eq_false_iff_not] at hc
  obtain ⟨h1, h2, h3⟩ := hc
  have hp : w.T.length ≤ p.length := by omega
  obtain ⟨k1, k2⟩ := foldRt hT hp ((w.T.length : Int) - 0).toNat [] [] 0 (Int.le_refl _) (by omega) (by simp) (by simp)
  rw [show (0 : Int).toNat = 0 from rfl, List.drop_zero, List.drop_zero] at k1
  refine .asrt ⟨rfl, rfl⟩ (.asrt ⟨Int.le_refl _, by unfold maxI64; omega, k2⟩ ?_)
  have e : rtF w p = (w, p, turnAll w.T p, (turnAll w.T p).map fixK) := k1
  have hl : (turnAll w.T p).length = w.T.length := by
    have := congrArg List.length (turnAll_ids hp)
    simpa using this
  rw [e]
  refine .asrt ⟨by show ((turnAll w.T p).length : Int) * 176 ≤ _; omega, h.2⟩ (.asrt (by show (((turnAll w.T p).map fixK).length : Int) < _; rw [List.length_map]; omega) (.of ?_))
  show (safeW { w with T := turnAll w.T p } == testV ((turnAll w.T p).map fixK)) = true
  rw [safe_turn h1 hp h3]
  simp
/-- Arguments: a world, and numbers. -/
def good2V (args : List AV) : Prop := ∃ (w : Fu.World) (p : List Int), args = [.agg (encW w), .view (.int .i64) p] ∧ smallW w ∧ (p.length : Int) < 17592186044416
theorem conRt_valid : ValidCon c92.P 6 (lawCon good2V) := lawCon_of (n := 60) c92_good (by kernel_rfl) fun args ⟨w, p, h1, h2, _⟩ => by
  subst h1
  exact ⟨_, fRt17 w p, rtT_tru h2⟩
end Go.Fx
