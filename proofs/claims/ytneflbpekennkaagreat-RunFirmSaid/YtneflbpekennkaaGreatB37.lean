import Derived.Test.YtneflbpekennkaaGreatB36
/- Contracts: who runs. -/
namespace Go.Fx
open Go Go.Proofs

def dOpt : Dc Fu.Opt := dRow .opt
theorem fRank (o : Fu.Opt) : callC c106 60 158 [.agg (RTy.opt.enc o)] = .ret (.agg [.int .i64 o.Far, .int .i64 o.Due, .int .i64 o.ID], []) := by kernel_rfl
def conRank : Con := plainCon (d1 dOpt) fun o => .agg [.int .i64 o.Far, .int .i64 o.Due, .int .i64 o.ID]
theorem conRank_valid : ValidCon c106.P 158 conRank := plainCon_valid c106_good 60 (by kernel_rfl) fun o => ⟨_, fRank o, .ret (.refl _) rfl⟩
noncomputable def c107 : Cfg := c106.addQuiet 158 conRank
theorem c107_good : GoodCfg c107 := c106_good.addQuiet conRank_valid plainCon_quiet
def rankO (o : Fu.Opt) : List Int := [o.Far, o.Due, o.ID]
def lessO (a b : Fu.Opt) : Bool := !(a.Far == b.Far && (a.Due == b.Due && a.ID == b.ID)) && decide (cmpL (rankO a) (rankO b) < 0)
theorem fLess18 (a b : Fu.Opt) : callC c107 60 157 [.agg (RTy.opt.enc a), .agg (RTy.opt.enc b)] = .asrt ((!(a.Far == b.Far && (a.Due == b.Due && a.ID == b.ID))) = true → (rankO a).length = (rankO b).length ∧ ((rankO a).length : Int) < 17592186044416) (.ret (.bool (lessO a b), [])) := by kernel_rfl
def conLessO : Con := plainCon (d2 dOpt dOpt) fun x => .bool (lessO x.1 x.2)
theorem conLessO_valid : ValidCon c107.P 157 conLessO := plainCon_valid c107_good 60 (by kernel_rfl) fun x => ⟨_, fLess18 x.1 x.2, .asrt (fun _ => ⟨rfl, by show (3 : Int) < _; omega⟩) (.ret (.refl _) rfl)⟩
noncomputable def c108 : Cfg := c107.addQuiet 157 conLessO
theorem c108_good : GoodCfg c108 := c107_good.addQuiet conLessO_valid plainCon_quiet
/-- Is a job one that need not run, and that has something left? -/
def isOpt (j : Fu.Job) : Bool := !(!j.On || (j.Mand || leftJ j == 0))
def optOf (t : Fu.Task) : Fu.Opt := ⟨farV t.H t.S.M t.S.K, t.J.Due, t.ID⟩
def optR (id : Int) (s : Fu.Spec) (j : Fu.Job) (h : Fu.Ring) : Fu.Opt := bif isOpt j then ⟨farV h s.M s.K, j.Due, id⟩ else ⟨0, 0, 0⟩
theorem fOptOf (id : Int) (s : Fu.Spec) (j : Fu.Job) (h : Fu.Ring) : callC c108 60 153 [.int .i64 id, .agg (encSpec s), .agg (encJob j), .agg (encRing h)] =
  .ite (!j.On || (j.Mand || leftJ j == 0)) (.ret (.tup [.agg [.lit .i64 0, .lit .i64 0, .lit .i64 0], .blit false], [])) (.ret (.tup [.agg [.int .i64 (farV h s.M s.K), .int .i64 j.Due, .int .i64 id], .blit true], [])) := by kernel_rfl
def conOptOf : Con := plainCon (d4 dInt dSpec dJob dRing) fun x => .tup [.agg (RTy.opt.enc (optR x.1 x.2.1 x.2.2.1 x.2.2.2)), .bool (isOpt x.2.2.1)]
theorem conOptOf_valid : ValidCon c108.P 153 conOptOf := plainCon_valid c108_good 60 (by kernel_rfl) fun ⟨id, s, j, h⟩ => ⟨_, fOptOf id s j h, by
  show Rez _ (.tup [.agg (RTy.opt.enc (optR id s j h)), .bool (isOpt j)], [])
  unfold optR
  cases hc : (!j.On || (j.Mand || leftJ j == 0)) with
  | true =>
    have e : isOpt j = false := by unfold isOpt; rw [hc]; rfl
    rw [e]
    exact .itet rfl (.ret (.tup (.cons (.agg (.cons (.lit rfl) (.cons (.lit rfl) (.cons (.lit rfl) .nil)))) (.cons (.blit rfl) .nil))) rfl)
  | false =>
    have e : isOpt j = true := by unfold isOpt; rw [hc]; rfl
    rw [e]
    exact .itee rfl (.ret (.tup (.cons (.refl _) (.cons (.blit rfl) .nil))) rfl)⟩
noncomputable def c109 : Cfg := c108.addQuiet 153 conOptOf
theorem c109_good : GoodCfg c109 := c108_good.addQuiet conOptOf_valid plainCon_quiet
abbrev AFo := List Fu.Opt × Int
def TFo (x : AFo × Int) : St := ⟨puts (J 26) [(0, .view .opt x.1.1), (3, .int .i64 x.1.2), (6, .view .opt x.1.1), (7, .int .i64 x.1.1.length), (8, .int .i64 x.2)], [], 0⟩
def sFo : List Sh := sets (Js 26) [(0, .keep), (3, .int), (6, .keep), (7, .int), (8, .int)]
def eFo : List Sh := sets (Js 26) [(3, .int)]
def EFo (x : AFo) : Ex × St := (.exit 0, ⟨puts (J 26) [(3, .int .i64 x.2)], [], 0⟩)
def fstO (l : List Fu.Opt) (at' i : Int) : Bool := at' == -1 || lessO (rd .opt l i) (rd .opt l at')
def nxtFo (x : AFo) (i : Int) : AFo := (x.1, bif fstO x.1 x.2 i then i else x.2)
theorem bFo (x : AFo) (i : Int) : roundN c109 60 154 (loopAt c109.P 154 3) (norm2 0 [] [] sFo) (norm2 0 [] [] eFo) (TFo (x, i)) =
    .ite (decide (i < x.1.length)) (.asrt (0 ≤ i ∧ i < x.1.length) (.asrt ((x.2 == -1) = false → 0 ≤ x.2 ∧ x.2 < x.1.length) (.ret (.normal, TFo (nxtFo x i, IntKind.i64.wrap (i + 1)))))) (.ret (EFo x)) := by kernel_rfl
def gFo (σ : St) : Option (AFo × Int) :=
  match nth σ.tmps 0, nth σ.tmps 3, nth σ.tmps 8 with
  | .view .opt l, .int .i64 a, .int .i64 i => some ((l, a), i)
  | _, _, _ => none
def okFo (x : AFo) (_ : Int) : Prop := x.2 = -1 ∨ (0 ≤ x.2 ∧ x.2 < x.1.length)
def LFo : LoopCon := boundF 0 (norm2 0 [] [] sFo) TFo gFo (fun x => x.1.length) okFo nxtFo EFo
theorem lFo (hs : SubOf c109.P 154 (.loop (loopAt c109.P 154 3))) : SoundLoop c109 (loopAt c109.P 154 3) LFo :=
  bound_fold (C := c109) (g := 154) (l := 3) c109_good 60 0 _ _ (Weak.norm2 0 [] [] sFo) (Weak.norm2 0 [] [] eFo) hs TFo gFo (fun x => x.1.length) okFo nxtFo EFo
    (fun _ => by intro h; cases h) (fun _ _ => rfl)
    (fun x i h0 hi hm hok => .of_eq (bFo x i) (by
      unfold maxI64 at hm
      rw [wrap_fits (n := i + 1) (by omega) (by omega)]
      refine (Tree.out_ite_true (decide_eq_true hi)).2 ⟨⟨h0, hi⟩, fun hn => ?_, rfl⟩
      rcases hok with h | h
      · rw [h] at hn; cases hn
      · exact h))
    (fun x i hi => .of_eq (bFo x i) ((Tree.out_ite_false (decide_eq_false (by omega))).2 rfl))
noncomputable def c110 : Cfg := c109.addLoop 154 3 LFo
theorem c110_good : GoodCfg c110 := c109_good.addLoop (by unfold OneLoop; kernel_rfl) lFo
/-- The first one's place, or -1. -/
def firstO (l : List Fu.Opt) : Int := (foldI nxtFo ((l.length : Int) - 0).toNat (l, -1) 0).2
def firstOT (l : List Fu.Opt) : Tree (AV × List Blk) := .asrt (0 = 0 ∧ TFo ((l, -1), 0) = TFo ((l, -1), 0)) (.asrt (0 ≤ (0 : Int) ∧ (l.length : Int) ≤ maxI64 ∧ okI nxtFo (fun _ _ => (none : Option Unit)) okFo ((l.length : Int) - 0).toNat (l, -1) 0) (.ret (.int .i64 (firstO l), [])))
theorem fFirstO (l : List Fu.Opt) : callC c110 60 154 [.view .opt l] = firstOT l := by kernel_rfl
theorem foldFo (l : List Fu.Opt) (k : Nat) : ∀ (a i : Int), 0 ≤ i → i + k = l.length → (a = -1 ∧ i = 0 ∨ (0 ≤ a ∧ a < l.length)) → okI nxtFo (fun _ _ => (none : Option Unit)) okFo k (l, a) i ∧ (foldI nxtFo k (l, a) i).1 = l ∧ ((foldI nxtFo k (l, a) i).2 = -1 ∧ l = [] ∨ (0 ≤ (foldI nxtFo k (l, a) i).2 ∧ (foldI nxtFo k (l, a) i).2 < l.length)) := by
  induction k with
  | zero =>
    intro a i h0 h1 h2
    refine ⟨trivial, rfl, ?_⟩
    rcases h2 with ⟨h2, h3⟩ | h2
    · exact .inl ⟨h2, List.eq_nil_of_length_eq_zero (by omega)⟩
    · exact .inr h2
  | succ k ih =>
    intro a i h0 h1 h2
    have hn : (bif fstO l a i then i else a) = -1 ∧ i + 1 = 0 ∨ (0 ≤ (bif fstO l a i then i else a) ∧ (bif fstO l a i then i else a) < l.length) := by
      right
      cases hf : fstO l a i with
      | true => simp only [cond_true]; omega
      | false =>
        rcases h2 with ⟨h2, _⟩ | h2
        · unfold fstO at hf; rw [h2] at hf; cases hf
        · simp only [cond_false]; exact h2
    obtain ⟨k1, k2, k3⟩ := ih (bif fstO l a i then i else a) (i + 1) (by omega) (by omega) hn
    exact ⟨⟨h2.imp (·.1) id, fun _ => k1⟩, k2, k3⟩
theorem firstO_spec (l : List Fu.Opt) : firstO l = -1 ∧ l = [] ∨ (0 ≤ firstO l ∧ firstO l < l.length) := (foldFo l ((l.length : Int) - 0).toNat (-1) 0 (Int.le_refl _) (by omega) (.inl ⟨rfl, rfl⟩)).2.2
def conFirstO : Con := flatCon (d1 (dView .opt)) (fun l => (l.length : Int) < 17592186044416) fun l => .int .i64 (firstO l)
theorem conFirstO_valid : ValidCon c110.P 154 conFirstO := flatCon_valid c110_good 60 (by kernel_rfl) fun l h => ⟨_, fFirstO l, .asrt ⟨rfl, rfl⟩ (.asrt ⟨Int.le_refl _, by unfold maxI64; omega, (foldFo l _ (-1) 0 (Int.le_refl _) (by omega) (.inl ⟨rfl, rfl⟩)).1⟩ (.ret (.refl _) rfl))⟩
noncomputable def c111 : Cfg := c110.addQuiet 154 conFirstO
theorem c111_good : GoodCfg c111 := c110_good.addQuiet conFirstO_valid flatCon_quiet
end Go.Fx
