import Derived.Test.YtpamljjiglncmaaGreatP0
/- The law AdmitOwn. -/
namespace Go.Fx
open Go Go.Proofs

abbrev AOw := Fu.Serv × Fu.Serv × Int
def TOw (x : (AOw × List (RTy.carrier .spec)) × Int) : St := ⟨puts (J 174) [(2, .ptr 0 0), (8, .ptr 2 0), (9, .int .i64 x.1.1.2.2), (10, .own 3), (11, .int .i64 x.2)], [(0, .cells (encS x.1.1.1)), (2, .cells (encS x.1.1.2.1)), (3, .rows .spec 40 x.1.2)], 4⟩
def sOw : List Sh := sets (Js 174) [(2, .keep), (8, .keep), (9, .int), (10, .keep), (11, .int)]
def eOw : List Sh := sets (Js 174) [(2, .keep), (8, .keep), (9, .int), (10, .keep)]
def fOw (ss : List Sh) (σ : St) : St := norm2 3 [.tmp 10] [0, 2, 3] ss (ownSlot 10 .spec 40 σ)
theorem weak_fOw (ss : List Sh) (σ : St) : Weak 3 σ (fOw ss σ) := (Weak.ownSlot 3 10 .spec 40 σ).trans (Weak.norm2 3 [.tmp 10] [0, 2, 3] ss _)
def EOw (x : AOw × List (RTy.carrier .spec)) : Ex × St := (.exit 0, ⟨puts (J 174) [(2, .ptr 0 0), (8, .ptr 2 0), (9, .int .i64 x.1.2.2), (10, .own 3)], [(0, .cells (encS x.1.1)), (2, .cells (encS x.1.2.1)), (3, .rows .spec 40 x.2)], 4⟩)
def vOw (a : AOw) (i : Int) : RTy.carrier .spec := (rd .task a.1.W.T i).S
def okEOw : AOw → Int → Prop := fun a i => True
theorem bOw (x : AOw × List (RTy.carrier .spec)) (i : Int) : roundN c212 60 5 (loopAt c212.P 5 9) (fOw sOw) (fOw eOw) (TOw (x, i)) =
    .ite (decide (i < (x.1.1.W.T.length : Int))) (.asrt (0 ≤ i ∧ i < x.1.1.W.T.length) (.asrt ((x.2 ++ [vOw x.1 i]).length * 48 ≤ 140737488355328) (.ret (.normal, TOw ((x.1, x.2 ++ [vOw x.1 i]), IntKind.i64.wrap (i + 1)))))) (.ret (EOw x)) := by kernel_rfl
def gOw (σ : St) : Option ((AOw × List (RTy.carrier .spec)) × Int) :=
  match nth σ.tmps 9, nth σ.tmps 11, σ.heap with
  | .int .i64 d, .int .i64 i, [(_, .cells [.int .i64 a, .view .task t, .view .ape p, .int .i64 cu, .bool o1, .int .i64 si, .int .i64 b, .int .i64 n, .view .aim l, .int .i64 y, .int .i64 z]), (_, .cells [.int .i64 a2, .view .task t2, .view .ape p2, .int .i64 cu2, .bool o2, .int .i64 si2, .int .i64 b2, .int .i64 n2, .view .aim l2, .int .i64 y2, .int .i64 z2]), (_, .rows .spec _ o)] => some (((⟨⟨a, t, p, cu⟩, ⟨o1, si, b, n, l⟩, y, z⟩, ⟨⟨a2, t2, p2, cu2⟩, ⟨o2, si2, b2, n2, l2⟩, y2, z2⟩, d), o), i)
  | _, _, _ => none
def LOw : LoopCon := boundF 3 (fOw sOw) TOw gOw (fun x => (x.1.1.W.T.length : Int)) (okP 48 okEOw) (nxtP vOw) EOw
theorem lOw (hs : SubOf c212.P 5 (.loop (loopAt c212.P 5 9))) : SoundLoop c212 (loopAt c212.P 5 9) LOw :=
  bound_fold (C := c212) (g := 5) (l := 9) c212_good 60 3 _ _ (weak_fOw sOw) (weak_fOw eOw) hs TOw gOw (fun x => (x.1.1.W.T.length : Int)) (okP 48 okEOw) (nxtP vOw) EOw
    (fun _ => by intro h; cases h) (fun _ _ => rfl)
    (fun x i h0 hi hm hok => .of_eq (bOw x i) (by
      unfold maxI64 at hm
      rw [wrap_fits (n := i + 1) (by omega) (by omega)]
      refine (Tree.out_ite_true (decide_eq_true hi)).2 ?_
      have hl := hok.1
      have he := hok.2
      have hz : (x.2 ++ [vOw x.1 i]).length * 48 ≤ 140737488355328 := by rw [List.length_append]; exact hl
      exact ⟨⟨h0, hi⟩, hz, rfl⟩))
    (fun x i hi => .of_eq (bOw x i) ((Tree.out_ite_false (decide_eq_false (by omega))).2 rfl))
noncomputable def c213 : Cfg := c212.addLoop 5 9 LOw
theorem c213_good : GoodCfg c213 := c212_good.addLoop (by unfold OneLoop; kernel_rfl) lOw
abbrev XOx := (Fu.Serv × Fu.Serv) × List Fu.Fix
def hOx (x : XOx) : Heap := [(0, .cells (encS x.1.1)), (2, .cells (encS x.1.2)), (4, .rows .fix 63 x.2)]
def TOx (x : XOx × Int) : St := ⟨puts (J 174) [(2, .ptr 0 0), (8, .ptr 2 0), (12, .own 4), (14, .int .i64 x.2)], hOx x.1, 5⟩
def sOx : List Sh := sets (Js 174) [(2, .keep), (8, .keep), (12, .keep), (14, .int)]
def eOx : List Sh := sets (Js 174) [(2, .keep), (8, .keep), (4, .keep)]
def hOy (x : XOx) : Heap := [(0, .cells (encS x.1.1)), (2, .cells (encS x.1.2))]
def ROx (x : XOx) : Ex × St := (.ret, ⟨puts (J 174) [(2, .ptr 0 0), (8, .ptr 2 0), (4, .blit false)], hOy x, 5⟩)
def EOx (x : XOx) : Ex × St := (.exit 2, ⟨puts (J 174) [(2, .ptr 0 0), (8, .ptr 2 0)], hOy x, 5⟩)
theorem bOx (x : XOx) (i : Int) : roundN c213 60 5 (loopAt c213.P 5 16) (norm2 5 [] [0, 2, 4] sOx) (norm2 5 [] [0, 2] eOx) (TOx (x, i)) =
    .ite (decide (i < x.2.length)) (.asrt (0 ≤ i ∧ i < x.1.2.R.L.length) (.asrt (0 ≤ i ∧ i < x.2.length) (.asrt (0 ≤ i ∧ i < x.2.length) (.asrt (((rd .aim x.1.2.R.L i).P != (rd .fix x.2 i).P) = false → 0 ≤ i ∧ i < x.1.2.R.L.length) (.asrt (((rd .aim x.1.2.R.L i).P != (rd .fix x.2 i).P) = false → 0 ≤ i ∧ i < x.2.length) (.asrt (((rd .aim x.1.2.R.L i).P != (rd .fix x.2 i).P) = false → 0 ≤ i ∧ i < x.2.length) (.asrt (((rd .aim x.1.2.R.L i).P != (rd .fix x.2 i).P) = false → (!eqSpecB (rd .aim x.1.2.R.L i).S (rd .fix x.2 i).S) = false → 0 ≤ i ∧ i < x.1.2.R.L.length) (.asrt (((rd .aim x.1.2.R.L i).P != (rd .fix x.2 i).P) = false → (!eqSpecB (rd .aim x.1.2.R.L i).S (rd .fix x.2 i).S) = false → 0 ≤ i ∧ i < x.1.1.W.T.length) (.ite (((rd .aim x.1.2.R.L i).P != (rd .fix x.2 i).P) || ((!eqSpecB (rd .aim x.1.2.R.L i).S (rd .fix x.2 i).S) || (rd .aim x.1.2.R.L i).ID != (rd .task x.1.1.W.T i).ID)) (.ret (ROx x)) (.ret (.normal, TOx (x, IntKind.i64.wrap (i + 1))))))))))))) (.ret (EOx x)) := by kernel_rfl
def gOx (σ : St) : Option (XOx × Int) :=
  match nth σ.tmps 14, σ.heap with
  | .int .i64 i, [(_, .cells [.int .i64 a, .view .task t, .view .ape p, .int .i64 cu, .bool o1, .int .i64 si, .int .i64 b, .int .i64 n, .view .aim l, .int .i64 y, .int .i64 z]), (_, .cells [.int .i64 a2, .view .task t2, .view .ape p2, .int .i64 cu2, .bool o2, .int .i64 si2, .int .i64 b2, .int .i64 n2, .view .aim l2, .int .i64 y2, .int .i64 z2]), (_, .rows .fix _ f)] => some (((⟨⟨a, t, p, cu⟩, ⟨o1, si, b, n, l⟩, y, z⟩, ⟨⟨a2, t2, p2, cu2⟩, ⟨o2, si2, b2, n2, l2⟩, y2, z2⟩), f), i)
  | .lit .i64 i, [(_, .cells [.int .i64 a, .view .task t, .view .ape p, .int .i64 cu, .bool o1, .int .i64 si, .int .i64 b, .int .i64 n, .view .aim l, .int .i64 y, .int .i64 z]), (_, .cells [.int .i64 a2, .view .task t2, .view .ape p2, .int .i64 cu2, .bool o2, .int .i64 si2, .int .i64 b2, .int .i64 n2, .view .aim l2, .int .i64 y2, .int .i64 z2]), (_, .rows .fix _ f)] => some (((⟨⟨a, t, p, cu⟩, ⟨o1, si, b, n, l⟩, y, z⟩, ⟨⟨a2, t2, p2, cu2⟩, ⟨o2, si2, b2, n2, l2⟩, y2, z2⟩), f), i)
  | _, _ => none
def okOx (x : XOx × Int) : Prop := 0 ≤ x.2 ∧ (x.1.2.length ≤ x.1.1.2.R.L.length ∧ x.1.2.length ≤ x.1.1.1.W.T.length ∧ x.1.2.length ≤ 1000) ∧ ∀ i : Int, 0 ≤ i → i < x.1.2.length → (rd .aim x.1.1.2.R.L i).P = (rd .fix x.1.2 i).P ∧ (rd .aim x.1.1.2.R.L i).S = (rd .fix x.1.2 i).S ∧ (rd .aim x.1.1.2.R.L i).ID = (rd .task x.1.1.1.W.T i).ID
def LxOx (x : XOx × Int) : Tree (Ex × St) := .asrt (okOx x) (.ret (EOx x.1))
def LOx : LoopCon := entry 5 (norm2 5 [] [0, 2, 4] sOx) TOx gOx LxOx
theorem lOx (hs : SubOf c213.P 5 (.loop (loopAt c213.P 5 16))) : SoundLoop c213 (loopAt c213.P 5 16) LOx := by
  refine loop_rule3 (C := c213) (g := 5) (l := 16) c213_good 60 5 _ _ (Weak.norm2 5 [] [0, 2, 4] sOx) (Weak.norm2 5 [] [0, 2] eOx) hs TOx LxOx (fun x => (x.1.2.length - x.2).toNat) (fun x q h => ?_) entry_out
  obtain ⟨x, i⟩ := x
  obtain ⟨⟨h0, ⟨h1, h2, h3⟩, h4⟩, h⟩ := Tree.out_asrt.1 h
  simp only at h0 h1 h2 h3 h4
  refine .of_eq (bOx x i) (Tree.wp_ite.2 ⟨fun hi => ?_, fun hi => Rnd.out h⟩)
  have hi : i < (x.2.length : Int) := of_decide_eq_true hi
  have iL : 0 ≤ i ∧ i < (x.1.2.R.L.length : Int) := by omega
  have iF : 0 ≤ i ∧ i < (x.2.length : Int) := by omega
  have iT : 0 ≤ i ∧ i < (x.1.1.W.T.length : Int) := by omega
  obtain ⟨k1, k2, k3⟩ := h4 i h0 hi
  refine ⟨iL, iF, iF, fun _ => iL, fun _ => iF, fun _ => iF, fun _ _ => iL, fun _ _ => iT, Tree.wp_ite.2 ⟨fun hb => ?_, fun _ => ?_⟩⟩
  · rw [k1, k2, k3, eqSpecB_eq] at hb
    simp at hb
  · rw [wrap_fits (n := i + 1) (by omega) (by omega)]
    exact Rnd.go (m := fun x : XOx × Int => (x.1.2.length - x.2).toNat) (x := (x, i)) (x, i + 1) (by simp only; omega) (Tree.out_asrt.2 ⟨⟨by simp only; omega, ⟨h1, h2, h3⟩, h4⟩, h⟩)
noncomputable def c214 : Cfg := c213.addLoop 5 16 LOx
theorem c214_good : GoodCfg c214 := c213_good.addLoop (by unfold OneLoop; kernel_rfl) lOx
theorem rate_else {s : Fu.Serv} {id t h : Int} (hm : mayE s = true) (ho : s.R.On = false) (hat : atIa s.W.T id ≠ -1) : ((rateQ s id t h).2 = false → (rateR s id t h).2 = 1) ∧ ((rateQ s id t h).2 = true → (rateR s id t h).2 = (targetV (rateL s id t h)).2) := by
  have hr : readyE s = 0 := by unfold readyE; rw [hm, ho]; rfl
  have e : rateE s id = 0 := by
    unfold rateE first2
    rw [hr, show (atIa s.W.T id == -1) = false from beq_eq_false_iff_ne.2 hat]
    rfl
  unfold rateR
  rw [e]
  constructor
  · intro h1
    rw [h1]
    rfl
  · intro h1
    rw [h1]
    show (bif (targetV (rateL s id t h)).2 != 0 then (s, (targetV (rateL s id t h)).2) else (putV s (-1) (targetV (rateL s id t h)).1, 0)).2 = _
    cases hb : ((targetV (rateL s id t h)).2 != 0) with
    | true => rfl
    | false => exact (bne_eq_false_iff_eq.1 hb).symm
def good2S (args : List AV) : Prop := ∃ (s : Fu.Serv) (i : Int), args = [.agg (encS s), .int .i64 i] ∧ smallS s
def rtOw (s : Fu.Serv) (i : Int) : Fu.Serv × Int := rateR s (rd .task s.W.T i).ID (rd .task s.W.T i).S.T (rd .task s.W.T i).S.Max
def FOw (s : Fu.Serv) (i : Int) : AOw × List Fu.Spec := foldI (nxtP vOw) ((s.W.T.length : Int) - 0).toNat ((s, (rtOw s i).1, (rtOw s i).2), []) 0
def owEnd (F : AOw × List Fu.Spec) : Tree (AV × List Blk) := .asrt True (.ite (F.1.2.2 != (targetV F.2).2 || (F.1.2.2 != 0 || (F.1.2.1.R.L.length : Int) != (targetV F.2).1.length)) (.ret (.bool (F.1.2.2 == (targetV F.2).2 && F.1.2.2 != 0), []))
  (.asrt (5 = 5 ∧ TOx (((F.1.1, F.1.2.1), (targetV F.2).1), 0) = TOx (((F.1.1, F.1.2.1), (targetV F.2).1), 0)) (.asrt (okOx (((F.1.1, F.1.2.1), (targetV F.2).1), 0)) (.ret (.bool (F.1.2.1.R.New == -1 && F.1.2.1.NextID == F.1.1.NextID), [])))))
def owT (s : Fu.Serv) (i : Int) : Tree (AV × List Blk) := .asrt (smallS s) (.asrt ((!nearE s) = false → smallS s) (.ite (!nearE s || (!mayE s || (s.R.On || (decide (i < 0) || decide (i ≥ (s.W.T.length : Int)))))) (.ret (.blit true, [])) (.asrt (0 ≤ i ∧ i < s.W.T.length) (.asrt (smallS s)
  (.asrt (3 = 3 ∧ TOw (((s, (rtOw s i).1, (rtOw s i).2), []), 0) = TOw (((s, (rtOw s i).1, (rtOw s i).2), []), 0)) (.asrt (0 ≤ (0 : Int) ∧ (s.W.T.length : Int) ≤ maxI64 ∧ okI (nxtP vOw) (fun _ _ => (none : Option Unit)) (okP 48 okEOw) ((s.W.T.length : Int) - 0).toNat ((s, (rtOw s i).1, (rtOw s i).2), []) 0) (owEnd (FOw s i))))))))
theorem fLawOw (s : Fu.Serv) (i : Int) : callC c214 60 5 [.agg (encS s), .int .i64 i] = owT s i := by kernel_rfl
theorem task_mayS {w : Fu.World} (hm : mayW w = true) {t : Fu.Task} (ht : t ∈ w.T) : mayS t.S = true := by
  obtain ⟨_, _, _, _, h, _, _⟩ := mayW_iff.1 hm
  have hk := (tkOK_iff.1 (h t ht)).1
  have := (mayK_iff.1 hk).2.2.2.1.2.1
  exact mayS_iff.2 (perOK_iff.1 this).1
theorem owT_tru {s : Fu.Serv} {i : Int} (hs : smallS s) : Tru (owT s i) := by
  have hls := smallS_len hs
  obtain ⟨k1, k2⟩ := foldP vOw 48 okEOw (s, (rtOw s i).1, (rtOw s i).2) ((s.W.T.length : Int) - 0).toNat [] 0 (fun _ _ _ => trivial) (by have := hs.1.1; simp only [List.length_nil]; omega)
  have eF : FOw s i = ((s, (rtOw s i).1, (rtOw s i).2), specsV s) := by
    unfold FOw
    rw [k1, List.nil_append]
    have : mapF (vOw (s, (rtOw s i).1, (rtOw s i).2)) ((s.W.T.length : Int) - 0).toNat 0 = s.W.T.map (·.S) := mapF_all (r := .task) (fun t : Fu.Task => t.S) s.W.T
    rw [this]
    rfl
  refine .asrt hs (.asrt (fun _ => hs) (.ite (fun _ => .yes) fun hb => ?_))
  simp only [Bool.or_eq_false_iff, Bool.not_eq_false', decide_eq_false_iff_not] at hb
  obtain ⟨_, hm, ho, hi0, hi1⟩ := hb
  have hin : 0 ≤ i ∧ i < (s.W.T.length : Int) := by omega
  refine .asrt hin (.asrt hs (.asrt ⟨rfl, rfl⟩ (.asrt ⟨Int.le_refl _, by unfold maxI64; omega, k2⟩ ?_)))
  rw [eF]
  have hasc := (newP_T hm).2.2
  have hat := atIa_rd hasc hin.1 hin.2
  have hne : atIa s.W.T (rd .task s.W.T i).ID ≠ -1 := by rw [hat]; omega
  have hS := task_mayS (safeE_may hm) (rd_mem' (r := .task) hin.1 hin.2)
  have est : stSp (rd .task s.W.T i).S (rd .task s.W.T i).S.T (rd .task s.W.T i).S.Max = (rd .task s.W.T i).S := rfl
  have eq : rateQ s (rd .task s.W.T i).ID (rd .task s.W.T i).S.T (rd .task s.W.T i).S.Max = ((rd .task s.W.T i).S, true) := by
    unfold rateQ stretchV
    rw [hat, specs_rd s hin.1 hin.2, est, hS]
    rfl
  have el : rateL s (rd .task s.W.T i).ID (rd .task s.W.T i).S.T (rd .task s.W.T i).S.Max = specsV s := by
    unfold rateL
    rw [hat, eq, ← specs_rd s hin.1 hin.2]
    exact upd_self hin.1 (by rw [specsV_len]; exact hin.2)
  have er : (rtOw s i).2 = (targetV (specsV s)).2 := by
    unfold rtOw
    rw [(rate_else hm ho hne).2 (by rw [eq]), el]
  refine .asrt trivial (.ite (fun hc => .of ?_) fun hc => .asrt ⟨rfl, rfl⟩ (.asrt ?_ (.of ?_)))
  · show ((rtOw s i).2 == (targetV (specsV s)).2 && (rtOw s i).2 != 0) = true
    have hc : ((rtOw s i).2 != (targetV (specsV s)).2 || ((rtOw s i).2 != 0 || ((rtOw s i).1.R.L.length : Int) != (targetV (specsV s)).1.length)) = true := hc
    rw [er] at hc ⊢
    rw [beq_self_eq_true, Bool.true_and]
    cases hz : ((targetV (specsV s)).2 != 0) with
    | true => rfl
    | false =>
      rw [hz, bne_self_eq_false, Bool.false_or, Bool.false_or] at hc
      have h0 : (rtOw s i).2 = 0 := er.trans (bne_eq_false_iff_eq.1 hz)
      obtain ⟨_, _, _, _, e⟩ := rate_ok h0
      have e : (rtOw s i).1 = _ := e
      rw [e, el] at hc
      have : (putV s (-1) (targetV (specsV s)).1).R.L.length = (targetV (specsV s)).1.length := aimsP_len _ _ _
      rw [this] at hc
      simp at hc
  all_goals
    have hc : ((rtOw s i).2 != (targetV (specsV s)).2 || ((rtOw s i).2 != 0 || ((rtOw s i).1.R.L.length : Int) != (targetV (specsV s)).1.length)) = false := hc
    rw [Bool.or_eq_false_iff, Bool.or_eq_false_iff] at hc
    have h0 : (rtOw s i).2 = 0 := bne_eq_false_iff_eq.1 hc.2.1
    obtain ⟨_, _, _, ht, e⟩ := rate_ok h0
    have e : (rtOw s i).1 = _ := e
    rw [el] at e ht
  · obtain ⟨q1, q2, q3⟩ := targetV_ok ht
    have hl : (targetV (specsV s)).1.length = s.W.T.length := by rw [q2, fixesV_len, specsV_len]
    have hT := (mayW_iff.1 (safeE_may hm)).2.1
    have eL : (rtOw s i).1.R.L = aimsP s.W.T (-1) (targetV (specsV s)).1 := by rw [e]; rfl
    refine ⟨Int.le_refl _, ⟨?_, ?_, ?_⟩, fun j j0 j1 => ?_⟩
    · simp only
      rw [eL, aimsP_len]
      exact Nat.le_refl _
    · simp only; omega
    · simp only; omega
    · simp only at j1 ⊢
      rw [eL, aimsP_rd _ _ _ j0 j1]
      unfold aimP
      rw [decide_eq_true (show j < (s.W.T.length : Int) by omega)]
      exact ⟨rfl, rfl, rfl⟩
  · show ((rtOw s i).1.R.New == -1 && (rtOw s i).1.NextID == s.NextID) = true
    rw [e]
    show ((-1 : Int) == -1 && s.NextID == s.NextID) = true
    simp
theorem conOw_valid : ValidCon c214.P 5 (lawCon good2S) := lawCon_of (n := 60) c214_good (by kernel_rfl) fun args ⟨s, i, h1, h2⟩ => by
  subst h1
  exact ⟨_, fLawOw s i, owT_tru h2⟩
end Go.Fx
