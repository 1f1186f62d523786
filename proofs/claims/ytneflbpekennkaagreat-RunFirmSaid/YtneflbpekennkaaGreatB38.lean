import Derived.Test.YtneflbpekennkaaGreatB37
/- Contracts: who runs, band by band. -/
namespace Go.Fx
open Go Go.Proofs

def decNo : AV → Option Unit
  | .agg [] => some ()
  | _ => none
/-- A value of no parts. -/
def dNo : Dc Unit := ⟨decNo, fun _ => .agg [], fun v a h => by
  unfold decNo at h
  split at h
  · exact .refl _
  · cases h⟩
def livesW (w : Fu.World) : List Fu.Live := w.T.map liveK
def okWho (w : Fu.World) : Prop := smallW w ∧ okF (livesW w)
def mustW (w : Fu.World) : Int × Bool := bif firstL (livesW w) == -1 then (0, false) else ((rd .task w.T (firstL (livesW w))).ID, true)
def pairA (p : Int × Bool) : AV := .tup [.int .i64 p.1, .bool p.2]
theorem fMust18 (w : Fu.World) : callC c111 60 150 [.agg [], .agg (encW w)] = .asrt (smallW w) (.asrt (okF (livesW w)) (.ite (firstL (livesW w) == -1) (.ret (.tup [.lit .i64 0, .blit false], [])) (.asrt (0 ≤ firstL (livesW w) ∧ firstL (livesW w) < w.T.length) (.ret (.tup [.int .i64 (rd .task w.T (firstL (livesW w))).ID, .blit true], []))))) := by kernel_rfl
def conMust18 : Con := flatCon (d2 dNo dWorld) (fun x => okWho x.2) fun x => pairA (mustW x.2)
theorem conMust18_valid : ValidCon c111.P 150 conMust18 := flatCon_valid c111_good 60 (by kernel_rfl) fun x h => ⟨_, fMust18 x.2, by
  obtain ⟨h1, h2⟩ := h
  refine .asrt h1 (.asrt h2 ?_)
  have hr := firstL_range (livesW x.2)
  unfold mustW
  cases hf : (firstL (livesW x.2) == -1) with
  | true => exact .itet rfl (.ret (.tup (.cons (.lit rfl) (.cons (.blit rfl) .nil))) rfl)
  | false =>
    refine .itee rfl (.asrt ?_ (.ret (.tup (.cons (.refl _) (.cons (.blit rfl) .nil))) rfl))
    have : firstL (livesW x.2) ≠ -1 := by simpa using hf
    have hl : (livesW x.2).length = x.2.T.length := by unfold livesW; simp
    rcases hr with hr | hr
    · exact absurd hr this
    · rw [hl] at hr; exact hr⟩
noncomputable def c112 : Cfg := c111.addQuiet 150 conMust18
theorem c112_good : GoodCfg c112 := c111_good.addQuiet conMust18_valid flatCon_quiet
def pickW (w : Fu.World) : Int × List Int := pickA w.A w.Cur w.Now
def onceW (w : Fu.World) : Int × Bool := (maxI (pickW w).1 0, (pickW w).1 != -1)
theorem fOnce18 (w : Fu.World) : callC c112 60 151 [.agg [], .agg (encW w)] = .asrt ((w.A.length : Int) < 17592186044416) (.ret (pairA (onceW w), [])) := by kernel_rfl
def conOnce18 : Con := flatCon (d2 dNo dWorld) (fun x => okWho x.2) fun x => pairA (onceW x.2)
theorem conOnce18_valid : ValidCon c112.P 151 conOnce18 := flatCon_valid c112_good 60 (by kernel_rfl) fun x h => ⟨_, fOnce18 x.2, .asrt (by have := h.1.2; omega) (.ret (.refl _) rfl)⟩
noncomputable def c113 : Cfg := c112.addQuiet 151 conOnce18
theorem c113_good : GoodCfg c113 := c112_good.addQuiet conOnce18_valid flatCon_quiet
abbrev AMo := List Fu.Task × List Fu.Opt
def TMo (x : AMo × Int) : St := ⟨puts (J 46) [(6, .own 2), (13, .view .task x.1.1), (14, .int .i64 x.1.1.length), (15, .int .i64 x.2)], [(2, .rows .opt 216 x.1.2)], 3⟩
def sMo : List Sh := sets (Js 46) [(6, .keep), (13, .keep), (14, .int), (15, .int)]
def eMo : List Sh := sets (Js 46) [(6, .keep)]
def fMo (ss : List Sh) (σ : St) : St := norm2 2 [.tmp 6] [2] ss (ownSlot 6 .opt 216 σ)
theorem weak_fMo (ss : List Sh) (σ : St) : Weak 2 σ (fMo ss σ) := (Weak.ownSlot 2 6 .opt 216 σ).trans (Weak.norm2 2 [.tmp 6] [2] ss _)
def EMo (x : AMo) : Ex × St := (.exit 0, ⟨puts (J 46) [(6, .own 2)], [(2, .rows .opt 216 x.2)], 3⟩)
def optT1 (t : Fu.Task) : Fu.Opt := optR t.ID t.S t.J t.H
def nxtMo (x : AMo) (i : Int) : AMo := (x.1, bif isOpt (rd .task x.1 i).J then x.2 ++ [optT1 (rd .task x.1 i)] else x.2)
theorem bMo (x : AMo) (i : Int) : roundN c113 60 152 (loopAt c113.P 152 3) (fMo sMo) (fMo eMo) (TMo (x, i)) =
    .ite (decide (i < x.1.length)) (.asrt (0 ≤ i ∧ i < x.1.length) (.ite (isOpt (rd .task x.1 i).J) (.asrt ((x.2 ++ [optT1 (rd .task x.1 i)]).length * 24 ≤ 140737488355328) (.ret (.normal, TMo ((x.1, x.2 ++ [optT1 (rd .task x.1 i)]), IntKind.i64.wrap (i + 1))))) (.ret (.normal, TMo (x, IntKind.i64.wrap (i + 1)))))) (.ret (EMo x)) := by kernel_rfl
def gMo (σ : St) : Option (AMo × Int) :=
  match nth σ.tmps 13, nth σ.tmps 15, σ.heap with
  | .view .task T, .int .i64 i, [(_, .rows .opt _ o)] => some ((T, o), i)
  | _, _, _ => none
def okMo (x : AMo) (_ : Int) : Prop := (x.2.length + 1) * 24 ≤ 140737488355328
def LMo : LoopCon := boundF 2 (fMo sMo) TMo gMo (fun x => x.1.length) okMo nxtMo EMo
theorem lMo (hs : SubOf c113.P 152 (.loop (loopAt c113.P 152 3))) : SoundLoop c113 (loopAt c113.P 152 3) LMo :=
  bound_fold (C := c113) (g := 152) (l := 3) c113_good 60 2 _ _ (weak_fMo sMo) (weak_fMo eMo) hs TMo gMo (fun x => x.1.length) okMo nxtMo EMo
    (fun _ => by intro h; cases h) (fun _ _ => rfl)
    (fun x i h0 hi hm hok => .of_eq (bMo x i) (by
      unfold maxI64 at hm
      rw [wrap_fits (n := i + 1) (by omega) (by omega)]
      refine (Tree.out_ite_true (decide_eq_true hi)).2 ⟨⟨h0, hi⟩, ?_⟩
      unfold nxtMo
      cases h : isOpt (rd .task x.1 i).J with
      | true => exact (Tree.out_ite_true rfl).2 ⟨by rw [List.length_append]; exact hok, rfl⟩
      | false => exact (Tree.out_ite_false rfl).2 rfl))
    (fun x i hi => .of_eq (bMo x i) ((Tree.out_ite_false (decide_eq_false (by omega))).2 rfl))
noncomputable def c114 : Cfg := c113.addLoop 152 3 LMo
theorem c114_good : GoodCfg c114 := c113_good.addLoop (by unfold OneLoop; kernel_rfl) lMo
/-- The jobs of tasks that need not run. -/
def optsW (T : List Fu.Task) : List Fu.Opt := (T.filter fun t => isOpt t.J).map optT1
def mayBand (w : Fu.World) : Int × Bool := bif firstO (optsW w.T) == -1 then (0, false) else ((rd .opt (optsW w.T) (firstO (optsW w.T))).ID, true)
def moF (T : List Fu.Task) : AMo := foldI nxtMo ((T.length : Int) - 0).toNat (T, []) 0
def moE (l : List Fu.Opt) : Tree (AV × List Blk) := .asrt ((l.length : Int) < 17592186044416) (.ite (firstO l == -1) (.ret (.tup [.lit .i64 0, .blit false], [])) (.asrt (0 ≤ firstO l ∧ firstO l < l.length) (.asrt (0 ≤ firstO l ∧ firstO l < l.length) (.ret (.tup [.int .i64 (rd .opt l (firstO l)).ID, .blit true], [])))))
def moT (w : Fu.World) : Tree (AV × List Blk) := .asrt (2 = 2 ∧ TMo ((w.T, []), 0) = TMo ((w.T, []), 0)) (.asrt (0 ≤ (0 : Int) ∧ (w.T.length : Int) ≤ maxI64 ∧ okI nxtMo (fun _ _ => (none : Option Unit)) okMo ((w.T.length : Int) - 0).toNat (w.T, []) 0) (moE (moF w.T).2))
theorem fMay18 (w : Fu.World) : callC c114 60 152 [.agg [], .agg (encW w)] = moT w := by kernel_rfl
theorem foldMo {T : List Fu.Task} (hT : (T.length : Int) * 24 ≤ 140737488355328) (k : Nat) : ∀ (o : List Fu.Opt) (i : Int), 0 ≤ i → i + k = T.length → o.length + k ≤ T.length →
    foldI nxtMo k (T, o) i = (T, o ++ optsW (T.drop i.toNat)) ∧ okI nxtMo (fun _ _ => (none : Option Unit)) okMo k (T, o) i := by
  induction k with
  | zero => intro o i h0 h1 h2; rw [drop_end (by omega)]; exact ⟨by simp [foldI, optsW], trivial⟩
  | succ k ih =>
    intro o i h0 h1 h2
    have hd := drop_rd (r := .task) (xs := T) h0 (by omega)
    have e : nxtMo (T, o) i = (T, bif isOpt (rd .task T i).J then o ++ [optT1 (rd .task T i)] else o) := rfl
    have hl : (bif isOpt (rd .task T i).J then o ++ [optT1 (rd .task T i)] else o).length ≤ o.length + 1 := by
      cases isOpt (rd .task T i).J <;> simp
    obtain ⟨k1, k2⟩ := ih (bif isOpt (rd .task T i).J then o ++ [optT1 (rd .task T i)] else o) (i + 1) (by omega) (by omega) (by omega)
    refine ⟨?_, ⟨by show (o.length + 1) * 24 ≤ 140737488355328; omega, fun _ => by rw [e]; exact k2⟩⟩
    unfold foldI
    rw [e]
    refine k1.trans ?_
    rw [hd]
    unfold optsW
    rw [List.filter_cons]
    cases isOpt (rd .task T i).J <;> simp
def conMay18 : Con := flatCon (d2 dNo dWorld) (fun x => okWho x.2) fun x => pairA (mayBand x.2)
theorem conMay18_valid : ValidCon c114.P 152 conMay18 := flatCon_valid c114_good 60 (by kernel_rfl) fun x h => ⟨_, fMay18 x.2, by
  obtain ⟨h1, _⟩ := h
  have hT := h1.1
  obtain ⟨k1, k2⟩ := foldMo (T := x.2.T) (by omega) ((x.2.T.length : Int) - 0).toNat [] 0 (Int.le_refl _) (by omega) (by simp)
  rw [show (0 : Int).toNat = 0 from rfl, List.drop_zero, List.nil_append] at k1
  have e : moF x.2.T = (x.2.T, optsW x.2.T) := k1
  refine .asrt ⟨rfl, rfl⟩ (.asrt ⟨Int.le_refl _, by unfold maxI64; omega, k2⟩ ?_)
  rw [e]
  have hl : (optsW x.2.T).length ≤ x.2.T.length := by unfold optsW; rw [List.length_map]; exact List.length_filter_le _ _
  have hf := firstO_spec (optsW x.2.T)
  refine .asrt (by show ((optsW x.2.T).length : Int) < _; omega) ?_
  show Rez (.ite (firstO (optsW x.2.T) == -1) _ _) _
  unfold mayBand
  cases hc : (firstO (optsW x.2.T) == -1) with
  | true => exact .itet rfl (.ret (.tup (.cons (.lit rfl) (.cons (.blit rfl) .nil))) rfl)
  | false =>
    have : firstO (optsW x.2.T) ≠ -1 := by simpa using hc
    have hr := hf.resolve_left fun h => this h.1
    exact .itee rfl (.asrt hr (.asrt hr (.ret (.tup (.cons (.refl _) (.cons (.blit rfl) .nil))) rfl)))⟩
noncomputable def c115 : Cfg := c114.addQuiet 152 conMay18
theorem c115_good : GoodCfg c115 := c114_good.addQuiet conMay18_valid flatCon_quiet
def bandsR : AV × List Blk := (.slc 0 0 3 1, [.cells [.iface 146 (.agg []), .iface 147 (.agg []), .iface 148 (.agg [])]])
theorem fBands : callC c115 60 59 [] = .ret bandsR := by kernel_rfl
def conBands : Con
  | [] => .ret bandsR
  | _ => .fail
theorem conBands_valid : ValidCon c115.P 59 conBands := by
  refine con_of (C := c115) (n := 60) c115_good (by kernel_rfl) fun args r hr => ?_
  unfold conBands at hr
  split at hr
  · cases hr
    exact ⟨[], bandsR.1, .nil, .refl _, .of_eq fBands rfl⟩
  · exact hr.elim
noncomputable def c116 : Cfg := c115.addCon 59 conBands
theorem c116_good : GoodCfg c116 := c115_good.addCon conBands_valid (by kernel_rfl)
/-- Who runs: the band, and the number. -/
def whoW (w : Fu.World) : Int × Int := bif (mustW w).2 then (1, (mustW w).1) else bif (onceW w).2 then (2, (onceW w).1) else bif (mayBand w).2 then (3, (mayBand w).1) else (0, 0)
def whoR (b : AV) (i : AV) (g : List Int) : Tree (AV × List Blk) := .ret (.tup [.agg [b, i], .own 0], intsB g)
def whoT (w : Fu.World) : Tree (AV × List Blk) := .asrt ((w.A.length : Int) < 17592186044416) (.asrt (okWho w) (.ite (mustW w).2 (whoR (.lit .i64 1) (.int .i64 (mustW w).1) (pickW w).2) (.asrt (okWho w) (.ite (onceW w).2 (whoR (.lit .i64 2) (.int .i64 (onceW w).1) (pickW w).2)
  (.asrt (okWho w) (.ite (mayBand w).2 (whoR (.lit .i64 3) (.int .i64 (mayBand w).1) (pickW w).2) (whoR (.lit .i64 0) (.lit .i64 0) (pickW w).2)))))))
theorem fWho (w : Fu.World) : callC c116 60 29 [.agg (encW w)] = whoT w := by kernel_rfl
def whoRes (p : Int × Int) (g : List Int) : AV × List Blk := (.tup [.agg [.int .i64 p.1, .int .i64 p.2], .own 0], intsB g)
theorem whoR_rez {b i : AV} {x y : Int} {g : List Int} (hb : AsArg b (.int .i64 x)) (hi : AsArg i (.int .i64 y)) : Rez (whoR b i g) (whoRes (x, y) g) := .ret (.tup (.cons (.agg (.cons hb (.cons hi .nil))) (.cons (.refl _) .nil))) rfl
def conWho : Con := resCon (d1 dWorld) okWho fun w => whoRes (whoW w) (pickW w).2
theorem conWho_valid : ValidCon c116.P 29 conWho := resCon_valid c116_good 60 (by kernel_rfl) fun w h => ⟨_, fWho w, by
  unfold whoW
  refine .asrt (by have := h.1.2; omega) (.asrt h ?_)
  cases h1 : (mustW w).2 with
  | true => exact .itet rfl (whoR_rez (.lit rfl) (.refl _))
  | false =>
    refine .itee rfl (.asrt h ?_)
    cases h2 : (onceW w).2 with
    | true => exact .itet rfl (whoR_rez (.lit rfl) (.refl _))
    | false =>
      refine .itee rfl (.asrt h ?_)
      cases h3 : (mayBand w).2 with
      | true => exact .itet rfl (whoR_rez (.lit rfl) (.refl _))
      | false => exact .itee rfl (whoR_rez (.lit rfl) (.lit rfl))⟩
noncomputable def c117 : Cfg := c116.addCon 29 conWho
theorem c117_good : GoodCfg c117 := c116_good.addCon conWho_valid (by kernel_rfl)
end Go.Fx
