import Derived.Test.YtpamljjiglncmaaGreatP0
/- The law AdmitJust. -/
namespace Go.Fx
open Go Go.Proofs

abbrev AJu := Fu.Serv × Fu.Spec × (Int × Int × Int) × Int
def TJu (x : (AJu × List (RTy.carrier .spec)) × Int) : St := ⟨puts (J 143) [(2, .int .i64 x.1.1.2.2.1.1), (3, .int .i64 x.1.1.2.2.1.2.1), (4, .int .i64 x.1.1.2.2.1.2.2), (5, .ptr 0 0), (6, .ptr 1 0), (15, .int .i64 x.1.1.2.2.2), (16, .own 3), (17, .int .i64 x.2)], [(0, .cells (encS x.1.1.1)), (1, .cells (encSpec x.1.1.2.1)), (3, .rows .spec 40 x.1.2)], 4⟩
def sJu : List Sh := sets (Js 143) [(2, .int), (3, .int), (4, .int), (5, .keep), (6, .keep), (15, .int), (16, .keep), (17, .int)]
def eJu : List Sh := sets (Js 143) [(2, .int), (3, .int), (4, .int), (5, .keep), (6, .keep), (15, .int), (16, .keep)]
def fJu (ss : List Sh) (σ : St) : St := norm2 3 [.tmp 16] [0, 1, 3] ss (ownSlot 16 .spec 40 σ)
theorem weak_fJu (ss : List Sh) (σ : St) : Weak 3 σ (fJu ss σ) := (Weak.ownSlot 3 16 .spec 40 σ).trans (Weak.norm2 3 [.tmp 16] [0, 1, 3] ss _)
def EJu (x : AJu × List (RTy.carrier .spec)) : Ex × St := (.exit 0, ⟨puts (J 143) [(2, .int .i64 x.1.2.2.1.1), (3, .int .i64 x.1.2.2.1.2.1), (4, .int .i64 x.1.2.2.1.2.2), (5, .ptr 0 0), (6, .ptr 1 0), (15, .int .i64 x.1.2.2.2), (16, .own 3)], [(0, .cells (encS x.1.1)), (1, .cells (encSpec x.1.2.1)), (3, .rows .spec 40 x.2)], 4⟩)
def vJu (a : AJu) (i : Int) : RTy.carrier .spec := (rd .task a.1.W.T i).S
def okEJu : AJu → Int → Prop := fun a i => True
theorem bJu (x : AJu × List (RTy.carrier .spec)) (i : Int) : roundN c212 60 4 (loopAt c212.P 4 8) (fJu sJu) (fJu eJu) (TJu (x, i)) =
    .ite (decide (i < (x.1.1.W.T.length : Int))) (.asrt (0 ≤ i ∧ i < x.1.1.W.T.length) (.asrt ((x.2 ++ [vJu x.1 i]).length * 48 ≤ 140737488355328) (.ret (.normal, TJu ((x.1, x.2 ++ [vJu x.1 i]), IntKind.i64.wrap (i + 1)))))) (.ret (EJu x)) := by kernel_rfl
def gJu (σ : St) : Option ((AJu × List (RTy.carrier .spec)) × Int) :=
  match nth σ.tmps 2, nth σ.tmps 3, nth σ.tmps 4, nth σ.tmps 15, nth σ.tmps 17, σ.heap with
  | .int .i64 d1, .int .i64 d2, .int .i64 d3, .int .i64 d4, .int .i64 i, [(_, .cells [.int .i64 a, .view .task t, .view .ape p, .int .i64 cu, .bool o1, .int .i64 si, .int .i64 b, .int .i64 n, .view .aim l, .int .i64 y, .int .i64 z]), (_, .cells [.int .i64 c1, .int .i64 c2, .int .i64 c3, .int .i64 c4, .int .i64 c5, .int .i64 c6]), (_, .rows .spec _ o)] => some (((⟨⟨a, t, p, cu⟩, ⟨o1, si, b, n, l⟩, y, z⟩, ⟨c1, c2, c3, c4, c5, c6⟩, (d1, d2, d3), d4), o), i)
  | _, _, _, _, _, _ => none
def LJu : LoopCon := boundF 3 (fJu sJu) TJu gJu (fun x => (x.1.1.W.T.length : Int)) (okP 48 okEJu) (nxtP vJu) EJu
theorem lJu (hs : SubOf c212.P 4 (.loop (loopAt c212.P 4 8))) : SoundLoop c212 (loopAt c212.P 4 8) LJu :=
  bound_fold (C := c212) (g := 4) (l := 8) c212_good 60 3 _ _ (weak_fJu sJu) (weak_fJu eJu) hs TJu gJu (fun x => (x.1.1.W.T.length : Int)) (okP 48 okEJu) (nxtP vJu) EJu
    (fun _ => by intro h; cases h) (fun _ _ => rfl)
    (fun x i h0 hi hm hok => .of_eq (bJu x i) (by
      unfold maxI64 at hm
      rw [wrap_fits (n := i + 1) (by omega) (by omega)]
      refine (Tree.out_ite_true (decide_eq_true hi)).2 ?_
      have hl := hok.1
      have he := hok.2
      have hz : (x.2 ++ [vJu x.1 i]).length * 48 ≤ 140737488355328 := by rw [List.length_append]; exact hl
      exact ⟨⟨h0, hi⟩, hz, rfl⟩))
    (fun x i hi => .of_eq (bJu x i) ((Tree.out_ite_false (decide_eq_false (by omega))).2 rfl))
noncomputable def c213 : Cfg := c212.addLoop 4 8 LJu
theorem c213_good : GoodCfg c213 := c212_good.addLoop (by unfold OneLoop; kernel_rfl) lJu
def FJu (s : Fu.Serv) (p : Fu.Spec) (i t h : Int) : AJu × List Fu.Spec := foldI (nxtP vJu) ((s.W.T.length : Int) - 0).toNat ((s, p, (i, t, h), (joinR s p).2), []) 0
def juI (F : AJu × List Fu.Spec) : Prop := 0 ≤ F.1.2.2.1.1 ∧ F.1.2.2.1.1 < F.2.length
def juQ (F : AJu × List Fu.Spec) : Fu.Spec × Bool := stretchV (rd .spec F.2 F.1.2.2.1.1) F.1.2.2.1.2.1 F.1.2.2.1.2.2
def juR (F : AJu × List Fu.Spec) : Int := (rateR F.1.1 (rd .task F.1.1.W.T F.1.2.2.1.1).ID F.1.2.2.1.2.1 F.1.2.2.1.2.2).2
def juEnd (F : AJu × List Fu.Spec) : Tree (AV × List Blk) := .ite F.1.1.R.On (.ret (.bool (F.1.2.2.2 == 4), [])) (.ite ((F.1.1.W.T.length : Int) == 4 || F.1.1.NextID == 65536) (.ret (.bool (F.1.2.2.2 == 3), []))
  (.asrt (([] ++ F.2).length * 48 ≤ 140737488355328) (.asrt (([] ++ F.2 ++ [F.1.2.1]).length * 48 ≤ 140737488355328) (.asrt True (.ite (F.1.2.2.2 != (targetV ([] ++ F.2 ++ [F.1.2.1])).2) (.ret (.blit false, [])) (.ite (decide (F.1.2.2.1.1 < 0) || decide (F.1.2.2.1.1 ≥ (F.2.length : Int))) (.ret (.blit true, []))
    (.asrt (0 ≤ F.1.2.2.1.1 ∧ F.1.2.2.1.1 < F.1.1.W.T.length) (.asrt (smallS F.1.1) (.asrt (juI F) (.asrt (juI F) (.ite (!(juQ F).2) (.ret (.bool (juR F == 1), [])) (.asrt (juI F) (.asrt (juI F) (.asrt True (.ret (.bool (juR F == (targetV (upd .spec F.2 F.1.2.2.1.1 (juQ F).1)).2), []))))))))))))))))
def juT (s : Fu.Serv) (p : Fu.Spec) (i t h : Int) : Tree (AV × List Blk) := .asrt (smallS s) (.asrt ((!nearE s) = false → smallS s) (.ite (!nearE s || !mayE s) (.ret (.blit true, [])) (.asrt (smallS s) (.asrt (3 = 3 ∧ TJu (((s, p, (i, t, h), (joinR s p).2), []), 0) = TJu (((s, p, (i, t, h), (joinR s p).2), []), 0))
  (.asrt (0 ≤ (0 : Int) ∧ (s.W.T.length : Int) ≤ maxI64 ∧ okI (nxtP vJu) (fun _ _ => (none : Option Unit)) (okP 48 okEJu) ((s.W.T.length : Int) - 0).toNat ((s, p, (i, t, h), (joinR s p).2), []) 0) (juEnd (FJu s p i t h)))))))
theorem fLawJu (s : Fu.Serv) (p : Fu.Spec) (i t h : Int) : callC c213 60 4 [.agg (encS s), .agg (encSpec p), .int .i64 i, .int .i64 t, .int .i64 h] = juT s p i t h := by kernel_rfl
def good5S (args : List AV) : Prop := ∃ (s : Fu.Serv) (p : Fu.Spec) (i j k : Int), args = [.agg (encS s), .agg (encSpec p), .int .i64 i, .int .i64 j, .int .i64 k] ∧ smallS s
theorem joinW_on {s : Fu.Serv} (h : mayE s = true) (ho : s.R.On = true) (p : Fu.Spec) : (joinR s p).2 = 4 := by
  have hr : readyE s = 4 := by unfold readyE; rw [h, ho]; rfl
  have e : joinW s = 4 := by unfold joinW first2; rw [hr]; rfl
  unfold joinR
  rw [e]
  rfl
theorem joinW_full {s : Fu.Serv} (h : mayE s = true) (ho : s.R.On = false) (hf : ((s.W.T.length : Int) == 4 || s.NextID == 65536) = true) (p : Fu.Spec) : (joinR s p).2 = 3 := by
  have hr : readyE s = 0 := by unfold readyE; rw [h, ho]; rfl
  have hT := (mayW_iff.1 (safeE_may h)).2.1
  have hfu : fullE s = 3 := by
    unfold fullE
    cases h4 : decide ((s.W.T.length : Int) ≥ 4) with
    | true => rfl
    | false =>
      have := of_decide_eq_false h4
      rw [show ((s.W.T.length : Int) == 4) = false from beq_eq_false_iff_ne.2 (by omega), Bool.false_or] at hf
      rw [hf]
      rfl
  have e : joinW s = 3 := by unfold joinW first2; rw [hr, hfu]; rfl
  unfold joinR
  rw [e]
  rfl
theorem joinW_else {s : Fu.Serv} (h : mayE s = true) (ho : s.R.On = false) (hf : ((s.W.T.length : Int) == 4 || s.NextID == 65536) = false) (p : Fu.Spec) : (joinR s p).2 = (targetV (specsJ s p)).2 := by
  have hr : readyE s = 0 := by unfold readyE; rw [h, ho]; rfl
  have hT := (mayW_iff.1 (safeE_may h)).2.1
  rw [Bool.or_eq_false_iff] at hf
  have h4 := beq_eq_false_iff_ne.1 hf.1
  have hfu : fullE s = 0 := by
    unfold fullE
    rw [decide_eq_false (show ¬ (s.W.T.length : Int) ≥ 4 by omega), hf.2]
    rfl
  have e : joinW s = 0 := by unfold joinW first2; rw [hr, hfu]; rfl
  unfold joinR
  rw [e]
  show (bif (targetV (specsJ s p)).2 != 0 then ((s, -1), (targetV (specsJ s p)).2) else ((putV { s with NextID := s.NextID + 1 } s.NextID (targetV (specsJ s p)).1, s.NextID), 0)).2 = _
  cases hb : ((targetV (specsJ s p)).2 != 0) with
  | true => rfl
  | false => exact (bne_eq_false_iff_eq.1 hb).symm
theorem rate_else {s : Fu.Serv} {id t h : Int} (hm : mayE s = true) (ho : s.R.On = false) (hat : atIa s.W.T id ≠ -1) : ((rateQ s id t h).2 = false → (rateR s id t h).2 = 1) ∧ ((rateQ s id t h).2 = true → (rateR s id t h).2 = (targetV (rateL s id t h)).2) := by
  have hr : readyE s = 0 := by unfold readyE; rw [hm, ho]; rfl
  have e : rateE s id = 0 := by
    unfold rateE first2
    rw [hr, show (atIa s.W.T id == -1) = false from beq_eq_false_iff_ne.2 hat]
    rfl
  unfold rateR
  rw [e]
  constructor
  · intro h1
    rw [h1]
    rfl
  · intro h1
    rw [h1]
    show (bif (targetV (rateL s id t h)).2 != 0 then (s, (targetV (rateL s id t h)).2) else (putV s (-1) (targetV (rateL s id t h)).1, 0)).2 = _
    cases hb : ((targetV (rateL s id t h)).2 != 0) with
    | true => rfl
    | false => exact (bne_eq_false_iff_eq.1 hb).symm
theorem juT_tru {s : Fu.Serv} {p : Fu.Spec} {i t h : Int} (hs : smallS s) : Tru (juT s p i t h) := by
  have hls := smallS_len hs
  obtain ⟨k1, k2⟩ := foldP vJu 48 okEJu (s, p, (i, t, h), (joinR s p).2) ((s.W.T.length : Int) - 0).toNat [] 0 (fun _ _ _ => trivial) (by have := hs.1.1; simp only [List.length_nil]; omega)
  have eF : FJu s p i t h = ((s, p, (i, t, h), (joinR s p).2), specsV s) := by
    unfold FJu
    rw [k1, List.nil_append]
    have : mapF (vJu (s, p, (i, t, h), (joinR s p).2)) ((s.W.T.length : Int) - 0).toNat 0 = s.W.T.map (·.S) := mapF_all (r := .task) (fun t : Fu.Task => t.S) s.W.T
    rw [this]
    rfl
  refine .asrt hs (.asrt (fun _ => hs) (.ite (fun _ => .yes) fun hb => .asrt hs (.asrt ⟨rfl, rfl⟩ (.asrt ⟨Int.le_refl _, by unfold maxI64; omega, k2⟩ ?_))))
  rw [eF]
  rw [Bool.or_eq_false_iff, Bool.not_eq_false', Bool.not_eq_false'] at hb
  have hm := hb.2
  have hT := (mayW_iff.1 (safeE_may hm)).2.1
  have hasc := (newP_T hm).2.2
  have hsl := specsV_len s
  refine .ite (fun ho => .of ?_) fun ho => .ite (fun hf => .of ?_) fun hf => .asrt ?_ (.asrt ?_ (.asrt trivial (.ite (fun hc => ?_) fun _ => .ite (fun _ => .yes) fun hi => ?_)))
  · show ((joinR s p).2 == 4) = true
    rw [joinW_on hm ho]
    rfl
  · show ((joinR s p).2 == 3) = true
    rw [joinW_full hm ho hf]
    rfl
  · rw [List.nil_append]
    simp only [hsl]
    omega
  · rw [List.nil_append, List.length_append]
    simp only [hsl, List.length_cons, List.length_nil]
    omega
  · have hc : ((joinR s p).2 != (targetV ([] ++ specsV s ++ [p])).2) = true := hc
    rw [joinW_else hm ho hf, List.nil_append] at hc
    exact absurd hc (by unfold specsJ; simp)
  · rw [Bool.or_eq_false_iff, decide_eq_false_iff_not, decide_eq_false_iff_not] at hi
    obtain ⟨h0, h1⟩ := hi
    simp only at h0 h1
    rw [hsl] at h1
    have hin : juI ((s, p, (i, t, h), (joinR s p).2), specsV s) := ⟨by simp only; omega, by simp only; rw [hsl]; omega⟩
    have hat := atIa_rd hasc (i := i) (by omega) (by omega)
    have hne : atIa s.W.T (rd .task s.W.T i).ID ≠ -1 := by rw [hat]; omega
    have hrl := rate_else (t := t) (h := h) hm ho hne
    have eq1 : rateQ s (rd .task s.W.T i).ID t h = juQ ((s, p, (i, t, h), (joinR s p).2), specsV s) := by
      unfold rateQ juQ
      rw [hat]
    have el : rateL s (rd .task s.W.T i).ID t h = upd .spec (specsV s) i (juQ ((s, p, (i, t, h), (joinR s p).2), specsV s)).1 := by
      unfold rateL
      rw [hat, eq1]
    rw [eq1, el] at hrl
    refine .asrt ⟨by simp only; omega, by simp only; omega⟩ (.asrt hs (.asrt hin (.asrt hin (.ite (fun hq => .of ?_) fun hq => .asrt hin (.asrt hin (.asrt trivial (.of ?_)))))))
    · have : juR ((s, p, (i, t, h), (joinR s p).2), specsV s) = 1 := hrl.1 (by simpa using hq)
      rw [this]
      rfl
    · have : juR ((s, p, (i, t, h), (joinR s p).2), specsV s) = (targetV (upd .spec (specsV s) i (juQ ((s, p, (i, t, h), (joinR s p).2), specsV s)).1)).2 := hrl.2 (by simpa using hq)
      rw [this]
      exact beq_self_eq_true _
theorem conJu_valid : ValidCon c213.P 4 (lawCon good5S) := lawCon_of (n := 60) c213_good (by kernel_rfl) fun args ⟨s, p, i, j, k, h1, h2⟩ => by
  subst h1
  exact ⟨_, fLawJu s p i j k, juT_tru h2⟩
end Go.Fx
