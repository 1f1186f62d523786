import Derived.Test.YtneflbpekennkaaGreatB29
/- Contracts: worlds that are the same, and safe ones. -/
namespace Go.Fx
open Go Go.Proofs

/-! ### what is the same -/
def eqSpecB (a b : Fu.Spec) : Bool := a.C == b.C && (a.T == b.T && (a.Max == b.Max && (a.M == b.M && (a.K == b.K && a.E == b.E))))
def eqJobB (a b : Fu.Job) : Bool := a.On == b.On && (a.J == b.J && (a.Rel == b.Rel && (a.Due == b.Due && (a.Mand == b.Mand && (a.C == b.C && (a.D == b.D && a.Ran == b.Ran))))))
def eqRingB (a b : Fu.Ring) : Bool := a.N == b.N && a.B == b.B
def eqTaskB (a b : Fu.Task) : Bool := a.ID == b.ID && (eqSpecB a.S b.S && (a.P == b.P && (a.Next == b.Next && (a.At == b.At && (a.N == b.N && (eqJobB a.J b.J && (eqRingB a.H b.H && a.Kept == b.Kept)))))))
def eqApeB (a b : Fu.Ape) : Bool := a.ID == b.ID && (a.Due == b.Due && (a.C == b.C && (a.V == b.V && a.Ran == b.Ran)))
theorem eqSpecB_eq (a b : Fu.Spec) : eqSpecB a b = decide (a = b) := by
  obtain ⟨a1, a2, a3, a4, a5, a6⟩ := a
  obtain ⟨b1, b2, b3, b4, b5, b6⟩ := b
  rw [Bool.eq_iff_iff]
  simp only [eqSpecB, Bool.and_eq_true, beq_iff_eq, decide_eq_true_eq, Fu.Spec.mk.injEq]
theorem eqJobB_eq (a b : Fu.Job) : eqJobB a b = decide (a = b) := by
  obtain ⟨a1, a2, a3, a4, a5, a6, a7, a8⟩ := a
  obtain ⟨b1, b2, b3, b4, b5, b6, b7, b8⟩ := b
  rw [Bool.eq_iff_iff]
  simp only [eqJobB, Bool.and_eq_true, beq_iff_eq, decide_eq_true_eq, Fu.Job.mk.injEq]
theorem eqRingB_eq (a b : Fu.Ring) : eqRingB a b = decide (a = b) := by
  obtain ⟨a1, a2⟩ := a
  obtain ⟨b1, b2⟩ := b
  rw [Bool.eq_iff_iff]
  simp only [eqRingB, Bool.and_eq_true, beq_iff_eq, decide_eq_true_eq, Fu.Ring.mk.injEq]
theorem eqTaskB_eq (a b : Fu.Task) : eqTaskB a b = decide (a = b) := by
  unfold eqTaskB
  rw [eqSpecB_eq, eqJobB_eq, eqRingB_eq]
  obtain ⟨a1, a2, a3, a4, a5, a6, a7, a8, a9⟩ := a
  obtain ⟨b1, b2, b3, b4, b5, b6, b7, b8, b9⟩ := b
  rw [Bool.eq_iff_iff]
  simp only [Bool.and_eq_true, beq_iff_eq, decide_eq_true_eq, Fu.Task.mk.injEq]
theorem eqApeB_eq (a b : Fu.Ape) : eqApeB a b = decide (a = b) := by
  obtain ⟨a1, a2, a3, a4, a5⟩ := a
  obtain ⟨b1, b2, b3, b4, b5⟩ := b
  rw [Bool.eq_iff_iff]
  simp only [eqApeB, Bool.and_eq_true, beq_iff_eq, decide_eq_true_eq, Fu.Ape.mk.injEq]
theorem cons_eq_dec {α : Type} [DecidableEq α] (a b : α) (l m : List α) : decide (a :: l = b :: m) = (decide (a = b) && decide (l = m)) := by
  rw [Bool.eq_iff_iff]; simp


/-! ### release.Lives, Safe -/
abbrev ALv := List Fu.Task × List Fu.Live
def TLv (x : ALv × Int) : St := ⟨puts (J 20) [(3, .own 1), (7, .view .task x.1.1), (8, .int .i64 x.1.1.length), (9, .int .i64 x.2)], [(1, .rows .live 105 x.1.2)], 2⟩
def sLv : List Sh := sets (Js 20) [(3, .keep), (7, .keep), (8, .int), (9, .int)]
def eLv : List Sh := sets (Js 20) [(3, .keep)]
def fLv (ss : List Sh) (σ : St) : St := norm2 1 [.tmp 3] [1] ss (ownSlot 3 .live 105 σ)
theorem weak_fLv (ss : List Sh) (σ : St) : Weak 1 σ (fLv ss σ) := (Weak.ownSlot 1 3 .live 105 σ).trans (Weak.norm2 1 [.tmp 3] [1] ss _)
def ELv (x : ALv) : Ex × St := (.exit 0, ⟨puts (J 20) [(3, .own 1)], [(1, .rows .live 105 x.2)], 2⟩)
theorem bLv (x : ALv) (i : Int) : roundN c73 60 41 (loopAt c73.P 41 3) (fLv sLv) (fLv eLv) (TLv (x, i)) =
    .ite (decide (i < x.1.length)) (.asrt (0 ≤ i ∧ i < x.1.length) (.asrt ((x.2 ++ [liveK (rd .task x.1 i)]).length * 136 ≤ 140737488355328) (.ret (.normal, TLv ((x.1, x.2 ++ [liveK (rd .task x.1 i)]), IntKind.i64.wrap (i + 1)))))) (.ret (ELv x)) := by kernel_rfl
def gLv (σ : St) : Option (ALv × Int) :=
  match nth σ.tmps 7, nth σ.tmps 9, σ.heap with
  | .view .task l, .int .i64 i, [(_, .rows .live _ o)] => some ((l, o), i)
  | _, _, _ => none
def nxtLv (x : ALv) (i : Int) : ALv := (x.1, x.2 ++ [liveK (rd .task x.1 i)])
def okLv (x : ALv) (_ : Int) : Prop := (x.2.length + 1) * 136 ≤ 140737488355328
def LLv : LoopCon := boundF 1 (fLv sLv) TLv gLv (fun x => x.1.length) okLv nxtLv ELv
theorem lLv (hs : SubOf c73.P 41 (.loop (loopAt c73.P 41 3))) : SoundLoop c73 (loopAt c73.P 41 3) LLv :=
  bound_fold (C := c73) (g := 41) (l := 3) c73_good 60 1 _ _ (weak_fLv sLv) (weak_fLv eLv) hs TLv gLv (fun x => x.1.length) okLv nxtLv ELv
    (fun _ => by intro h; cases h) (fun _ _ => rfl)
    (fun x i h0 hi hm hok => .of_eq (bLv x i) (by
      unfold maxI64 at hm
      rw [wrap_fits (n := i + 1) (by omega) (by omega)]
      exact (Tree.out_ite_true (decide_eq_true hi)).2 ⟨⟨h0, hi⟩, by rw [List.length_append]; exact hok, rfl⟩))
    (fun x i hi => .of_eq (bLv x i) ((Tree.out_ite_false (decide_eq_false (by omega))).2 rfl))
noncomputable def c74 : Cfg := c73.addLoop 41 3 LLv
theorem c74_good : GoodCfg c74 := c73_good.addLoop (by unfold OneLoop; kernel_rfl) lLv
def livesT (w : Fu.World) : Tree (AV × List Blk) :=
  .asrt (1 = 1 ∧ TLv ((w.T, []), 0) = TLv ((w.T, []), 0)) (.asrt (0 ≤ (0 : Int) ∧ (w.T.length : Int) ≤ maxI64 ∧ okI nxtLv (fun _ _ => (none : Option Unit)) okLv ((w.T.length : Int) - 0).toNat (w.T, []) 0)
    (.ret (.own 0, [.rows .live 105 (foldI nxtLv ((w.T.length : Int) - 0).toNat (w.T, []) 0).2])))
theorem fLives (w : Fu.World) : callC c74 60 41 [.agg (encW w)] = livesT w := by kernel_rfl
theorem foldLv {l : List Fu.Task} (hl : (l.length : Int) * 136 ≤ 140737488355328) (k : Nat) : ∀ (out : List Fu.Live) (i : Int), 0 ≤ i → i + k = l.length → out.length + k = l.length →
    foldI nxtLv k (l, out) i = (l, out ++ (l.drop i.toNat).map liveK) ∧ okI nxtLv (fun _ _ => (none : Option Unit)) okLv k (l, out) i := by
  induction k with
  | zero =>
    intro out i h0 h1 h2
    rw [drop_end (by omega)]
    exact ⟨by simp [foldI], trivial⟩
  | succ k ih =>
    intro out i h0 h1 h2
    have hd := drop_rd (r := .task) (xs := l) h0 (by omega)
    have hok : okLv (l, out) i := by show (out.length + 1) * 136 ≤ 140737488355328; omega
    obtain ⟨k1, k2⟩ := ih (out ++ [liveK (rd .task l i)]) (i + 1) (by omega) (by omega) (by rw [List.length_append]; simp only [List.length_cons, List.length_nil]; omega)
    refine ⟨?_, hok, fun _ => k2⟩
    unfold foldI
    refine k1.trans ?_
    rw [hd, List.map_cons, List.append_assoc]
    rfl
theorem livesT_rez {w : Fu.World} (h : smallW w) : Rez (livesT w) (.own 0, [.rows .live 105 (w.T.map liveK)]) := by
  have h := h.1
  obtain ⟨k1, k2⟩ := foldLv (l := w.T) (by omega) ((w.T.length : Int) - 0).toNat [] 0 (Int.le_refl _) (by omega) (by simp)
  rw [show (0 : Int).toNat = 0 from rfl, List.drop_zero] at k1
  refine .asrt ⟨rfl, rfl⟩ (.asrt ⟨Int.le_refl _, by unfold maxI64; omega, k2⟩ (.ret (.refl _) ?_))
  rw [k1]
  rfl
def conLives : Con := resCon (d1 dWorld) smallW fun w => (.own 0, [.rows .live 105 (w.T.map liveK)])
theorem conLives_valid : ValidCon c74.P 41 conLives := resCon_valid c74_good 60 (by kernel_rfl) fun w h => ⟨_, fLives w, livesT_rez h⟩
def conLivesF : Con := flatCon (d1 dWorld) smallW fun w => .view .live (w.T.map liveK)
theorem conLivesF_valid : ValidCon c74.P 41 conLivesF := resCon_frozen conLives_valid fun _ => ⟨_, rfl, .refl _⟩
noncomputable def c75 : Cfg := c74.addQuiet 41 conLivesF
theorem c75_good : GoodCfg c75 := c74_good.addQuiet conLivesF_valid flatCon_quiet
def fixK (t : Fu.Task) : Fu.Fix := ⟨t.S, t.Next⟩
abbrev ASf := Fu.World × List Fu.Fix
def TSf (x : ASf × Int) : St := ⟨puts (J 40) [(1, .ptr 0 0), (3, .own 1), (12, .view .task x.1.1.T), (13, .int .i64 x.1.1.T.length), (14, .int .i64 x.2)], [(0, .cells (encW x.1.1)), (1, .rows .fix 84 x.1.2)], 2⟩
def sSf : List Sh := sets (Js 40) [(1, .keep), (3, .keep), (12, .keep), (13, .int), (14, .int)]
def eSf : List Sh := sets (Js 40) [(1, .keep), (3, .keep)]
def fSf (ss : List Sh) (σ : St) : St := norm2 1 [.tmp 3] [0, 1] ss (ownSlot 3 .fix 84 σ)
theorem weak_fSf (ss : List Sh) (σ : St) : Weak 1 σ (fSf ss σ) := (Weak.ownSlot 1 3 .fix 84 σ).trans (Weak.norm2 1 [.tmp 3] [0, 1] ss _)
def ESf (x : ASf) : Ex × St := (.exit 0, ⟨puts (J 40) [(1, .ptr 0 0), (3, .own 1)], [(0, .cells (encW x.1)), (1, .rows .fix 84 x.2)], 2⟩)
theorem bSf (x : ASf) (i : Int) : roundN c75 60 18 (loopAt c75.P 18 5) (fSf sSf) (fSf eSf) (TSf (x, i)) =
    .ite (decide (i < x.1.T.length)) (.asrt (0 ≤ i ∧ i < x.1.T.length) (.asrt ((x.2 ++ [fixK (rd .task x.1.T i)]).length * 56 ≤ 140737488355328) (.ret (.normal, TSf ((x.1, x.2 ++ [fixK (rd .task x.1.T i)]), IntKind.i64.wrap (i + 1)))))) (.ret (ESf x)) := by kernel_rfl
def gSf (σ : St) : Option (ASf × Int) :=
  match nth σ.tmps 14, σ.heap with
  | .int .i64 i, [(_, .cells [.int .i64 a, .view .task t, .view .ape p, .int .i64 c]), (_, .rows .fix _ o)] => some ((⟨a, t, p, c⟩, o), i)
  | _, _ => none
def nxtSf (x : ASf) (i : Int) : ASf := (x.1, x.2 ++ [fixK (rd .task x.1.T i)])
def okSf (x : ASf) (_ : Int) : Prop := (x.2.length + 1) * 56 ≤ 140737488355328
def LSf : LoopCon := boundF 1 (fSf sSf) TSf gSf (fun x => x.1.T.length) okSf nxtSf ESf
theorem lSf (hs : SubOf c75.P 18 (.loop (loopAt c75.P 18 5))) : SoundLoop c75 (loopAt c75.P 18 5) LSf :=
  bound_fold (C := c75) (g := 18) (l := 5) c75_good 60 1 _ _ (weak_fSf sSf) (weak_fSf eSf) hs TSf gSf (fun x => x.1.T.length) okSf nxtSf ESf
    (fun _ => by intro h; cases h) (fun _ _ => rfl)
    (fun x i h0 hi hm hok => .of_eq (bSf x i) (by
      unfold maxI64 at hm
      rw [wrap_fits (n := i + 1) (by omega) (by omega)]
      exact (Tree.out_ite_true (decide_eq_true hi)).2 ⟨⟨h0, hi⟩, by rw [List.length_append]; exact hok, rfl⟩))
    (fun x i hi => .of_eq (bSf x i) ((Tree.out_ite_false (decide_eq_false (by omega))).2 rfl))
noncomputable def c76 : Cfg := c75.addLoop 18 5 LSf
theorem c76_good : GoodCfg c76 := c75_good.addLoop (by unfold OneLoop; kernel_rfl) lSf
/-- Can no mandatory job be missed? -/
def safeW (w : Fu.World) : Bool := mayW w && ((lookL (w.T.map liveK) w.Now).2 && testV (w.T.map fixK))
def sfF (w : Fu.World) : ASf := foldI nxtSf ((w.T.length : Int) - 0).toNat (w, []) 0
def safeE (w : Fu.World) (l : List Fu.Fix) : Tree (AV × List Blk) := .asrt (smallW w) (.asrt (smallL (w.T.map liveK)) (.asrt ((lookL (w.T.map liveK) w.Now).2 = true → (l.length : Int) < 17592186044416) (.ret (.bool ((lookL (w.T.map liveK) w.Now).2 && testV l), []))))
def safeT (w : Fu.World) : Tree (AV × List Blk) := .asrt (smallW w) (.ite (!mayW w) noB (.asrt (1 = 1 ∧ TSf ((w, []), 0) = TSf ((w, []), 0)) (.asrt (0 ≤ (0 : Int) ∧ (w.T.length : Int) ≤ maxI64 ∧ okI nxtSf (fun _ _ => (none : Option Unit)) okSf ((w.T.length : Int) - 0).toNat (w, []) 0)
    (safeE (sfF w).1 (sfF w).2))))
theorem fSafe (w : Fu.World) : callC c76 60 18 [.agg (encW w)] = safeT w := by kernel_rfl
theorem foldSf {w : Fu.World} (hl : (w.T.length : Int) * 136 ≤ 140737488355328) (k : Nat) : ∀ (out : List Fu.Fix) (i : Int), 0 ≤ i → i + k = w.T.length → out.length + k = w.T.length →
    foldI nxtSf k (w, out) i = (w, out ++ (w.T.drop i.toNat).map fixK) ∧ okI nxtSf (fun _ _ => (none : Option Unit)) okSf k (w, out) i := by
  induction k with
  | zero =>
    intro out i h0 h1 h2
    rw [drop_end (by omega)]
    exact ⟨by simp [foldI], trivial⟩
  | succ k ih =>
    intro out i h0 h1 h2
    have hd := drop_rd (r := .task) (xs := w.T) h0 (by omega)
    have hok : okSf (w, out) i := by show (out.length + 1) * 56 ≤ 140737488355328; omega
    obtain ⟨k1, k2⟩ := ih (out ++ [fixK (rd .task w.T i)]) (i + 1) (by omega) (by omega) (by rw [List.length_append]; simp only [List.length_cons, List.length_nil]; omega)
    refine ⟨?_, hok, fun _ => k2⟩
    unfold foldI
    refine k1.trans ?_
    rw [hd, List.map_cons, List.append_assoc]
    rfl
theorem safeT_rez {w : Fu.World} (h : smallW w) : Rez (safeT w) (.bool (safeW w), []) := by
  have hT := h.1
  refine .asrt h (ite_rez (fun hm => noB_rez (by unfold safeW; rw [show mayW w = false by simpa using hm]; rfl)) fun hm => ?_)
  obtain ⟨k1, k2⟩ := foldSf (w := w) (by omega) ((w.T.length : Int) - 0).toNat [] 0 (Int.le_refl _) (by omega) (by simp)
  rw [show (0 : Int).toNat = 0 from rfl, List.drop_zero] at k1
  refine .asrt ⟨rfl, rfl⟩ (.asrt ⟨Int.le_refl _, by unfold maxI64; omega, k2⟩ ?_)
  have e : sfF w = (w, w.T.map fixK) := k1
  rw [e]
  show Rez (safeE w (w.T.map fixK)) _
  refine .asrt h (.asrt (by unfold smallL; rw [List.length_map]; omega) (.asrt (fun _ => by rw [List.length_map]; omega) (retB ?_)))
  unfold safeW
  rw [show mayW w = true by simpa using hm]
  rfl
def conSafe : Con := flatCon (d1 dWorld) smallW fun w => .bool (safeW w)
theorem conSafe_valid : ValidCon c76.P 18 conSafe := flatCon_valid c76_good 60 (by kernel_rfl) fun w h => ⟨_, fSafe w, safeT_rez h⟩
noncomputable def c77 : Cfg := c76.addQuiet 18 conSafe
theorem c77_good : GoodCfg c77 := c76_good.addQuiet conSafe_valid flatCon_quiet
end Go.Fx
