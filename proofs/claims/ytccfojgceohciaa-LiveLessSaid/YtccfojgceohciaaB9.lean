/- Contracts: who runs first. -/
import Derived.Test.YtccfojgceohciaaB8
import Derived.Test.YtccfojgceohciaaPlD
namespace Go.Fx
open Go Go.Proofs

/-! ### live.First -/
abbrev X22 := Int × (List Fu.Live × Int) × Int
def T22 (x : X22) : St := ⟨puts (J 26) [(1, .ptr 0 0), (3, .ptr 1 0), (4, .fn (.func 46) [] [.ptr 1 0, .ptr 0 0]), (8, .int .i64 x.1), (9, .int .i64 x.2.2)], [(0, .cells [.view .live x.2.1.1]), (1, .cells [.int .i64 x.2.1.2])], 2⟩
def s22 : List Sh := sets (Js 26) [(1, .keep), (3, .keep), (4, .keep), (8, .keep), (9, .int)]
def e22 : List Sh := sets (Js 26) [(3, .keep)]
def f22 (σ : St) : St := genBlk 1 [.int] (norm2 2 [] [0, 1] s22 σ)
theorem weak_f22 (σ : St) : Weak 2 σ (f22 σ) := (Weak.norm2 2 [] [0, 1] s22 σ).trans (Weak.genBlk 2 1 [.int] _)
def E22 (x : List Fu.Live × Int) : Ex × St := (.exit 0, ⟨puts (J 26) [(3, .ptr 1 0)], [(1, .cells [.int .i64 x.2])], 2⟩)
theorem b22 (N : Int) (x : List Fu.Live × Int) (i : Int) : roundN c34 60 22 (loopAt c34.P 22 4) f22 (norm2 2 [] [1] e22) (T22 (N, x, i)) =
    .ite (decide (i < N)) (.asrt (0 ≤ i ∧ i < x.1.length) (.asrt (smallC (jobAt x.1 i)) (.ite (mustJ (jobAt x.1 i))
      (.asrt ((x.2 == -1) = false → 0 ≤ i ∧ i < x.1.length) (.asrt ((x.2 == -1) = false → 0 ≤ x.2 ∧ x.2 < x.1.length) (.ite (x.2 == -1 || decide ((jobAt x.1 i).Due < (jobAt x.1 x.2).Due))
        (.ret (.normal, T22 (N, (x.1, i), IntKind.i64.wrap (i + 1)))) (.ret (.normal, T22 (N, x, IntKind.i64.wrap (i + 1)))))))
      (.ret (.normal, T22 (N, x, IntKind.i64.wrap (i + 1))))))) (.ret (E22 x)) := by kernel_rfl
def g22 (σ : St) : Option X22 :=
  match nth σ.tmps 8, nth σ.tmps 9, σ.heap with
  | .int .i64 N, .int .i64 i, [(_, .cells [.view .live l]), (_, .cells [.int .i64 a])] => some (N, (l, a), i)
  | _, _, _ => none
def ok22 (x : List Fu.Live × Int) (i : Int) : Prop := i < x.1.length ∧ smallC (jobAt x.1 i) ∧ (x.2 = -1 ∨ (0 ≤ x.2 ∧ x.2 < x.1.length))
def L22 : LoopCon := countF 2 f22 T22 g22 ok22 nxtF E22
theorem l22 (hs : SubOf c34.P 22 (.loop (loopAt c34.P 22 4))) : SoundLoop c34 (loopAt c34.P 22 4) L22 :=
  count_fold (C := c34) (g := 22) (l := 4) c34_good 60 2 _ _ weak_f22 (Weak.norm2 2 [] [1] e22) hs T22 g22 ok22 nxtF E22 (fun _ => by intro h; cases h)
    (fun N x i h0 hi hm hok => .of_eq (b22 N x i) (by
      unfold maxI64 at hm
      rw [wrap_fits (by omega) (by omega)]
      refine (Tree.out_ite_true (decide_eq_true hi)).2 ⟨⟨h0, hok.1⟩, hok.2.1, ?_⟩
      unfold nxtF
      cases h1 : mustJ (jobAt x.1 i) with
      | false => exact (Tree.out_ite_false rfl).2 rfl
      | true =>
        refine (Tree.out_ite_true rfl).2 ⟨fun _ => ⟨h0, hok.1⟩, fun hn => ?_, ?_⟩
        · rcases hok.2.2 with h2 | h2
          · rw [h2] at hn; simp at hn
          · exact h2
        · cases h2 : (x.2 == -1 || decide ((jobAt x.1 i).Due < (jobAt x.1 x.2).Due)) with
          | true => exact (Tree.out_ite_true rfl).2 rfl
          | false => exact (Tree.out_ite_false rfl).2 rfl))
    (fun N x i hi => .of_eq (b22 N x i) ((Tree.out_ite_false (decide_eq_false (by omega))).2 rfl))
noncomputable def c35 : Cfg := c34.addLoop 22 4 L22
theorem c35_good : GoodCfg c35 := c34_good.addLoop (by unfold OneLoop; kernel_rfl) l22
def firstT (l : List Fu.Live) : Tree (AV × List Blk) :=
  .asrt (2 = 2 ∧ T22 ((l.length : Int), (l, -1), 0) = T22 ((l.length : Int), (l, -1), 0)) (.asrt (0 ≤ (0 : Int) ∧ (l.length : Int) ≤ maxI64 ∧ okI nxtF (fun _ _ => (none : Option Unit)) ok22 ((l.length : Int) - 0).toNat (l, -1) 0)
    (.ret (.int .i64 (foldI nxtF ((l.length : Int) - 0).toNat (l, -1) 0).2, [])))
theorem fFirst (l : List Fu.Live) : callC c35 60 22 [.view .live l] = firstT l := by kernel_rfl
def okF (l : List Fu.Live) : Prop := (l.length : Int) < 17592186044416 ∧ ∀ x ∈ l, smallC x.J
theorem rd_mem {l : List Fu.Live} {i : Int} (h0 : 0 ≤ i) (h1 : i < l.length) : rd .live l i ∈ l := by
  have hlt : i.toNat < l.length := by omega
  have : rd .live l i = l[i.toNat] := by simp [rd, hlt]
  rw [this]
  exact List.getElem_mem _
theorem ok22_all {l : List Fu.Live} (h : okF l) : ∀ (n : Nat) (a k : Int), 0 ≤ k → k + n = l.length → (a = -1 ∨ (0 ≤ a ∧ a < l.length)) → okI nxtF (fun _ _ => (none : Option Unit)) ok22 n (l, a) k
  | 0, _, _, _, _, _ => trivial
  | n + 1, a, k, h0, hk, ha => by
    refine ⟨⟨(show k < (l.length : Int) by omega), h.2 _ (rd_mem h0 (by omega)), ha⟩, fun _ => ?_⟩
    have e : nxtF (l, a) k = (l, (nxtF (l, a) k).2) := Prod.ext (nxtF_fst (l, a) k) rfl
    rw [e]
    refine ok22_all h n _ (k + 1) (by omega) (by omega) ?_
    unfold nxtF
    simp only
    cases (mustJ (jobAt l k) && (a == -1 || decide ((jobAt l k).Due < (jobAt l a).Due))) with
    | true => right; simp only [cond_true]; omega
    | false => exact ha
theorem firstT_rez {l : List Fu.Live} (h : okF l) : Rez (firstT l) (.int .i64 (firstL l), []) := by
  have e : ((l.length : Int) - 0).toNat = l.length := by omega
  unfold firstT
  rw [e]
  exact .asrt ⟨rfl, rfl⟩ (.asrt ⟨by omega, by unfold maxI64; have := h.1; omega, ok22_all h _ _ _ (Int.le_refl _) (by omega) (.inl rfl)⟩ (.ret (.refl _) rfl))
def conFirst : Con := flatCon (d1 (dView .live)) okF fun l => .int .i64 (firstL l)
theorem conFirst_valid : ValidCon c35.P 22 conFirst := flatCon_valid c35_good 60 (by kernel_rfl) fun l h => ⟨_, fFirst l, firstT_rez h⟩
noncomputable def c36 : Cfg := c35.addQuiet 22 conFirst
theorem c36_good : GoodCfg c36 := c35_good.addQuiet conFirst_valid flatCon_quiet
def conIdle : Con := flatCon (d1 (dView .live)) okF fun l => .bool (idleL l)
theorem fIdle (l : List Fu.Live) : callC c36 60 24 [.view .live l] = .asrt (okF l) (.ret (.bool (idleL l), [])) := by kernel_rfl
theorem conIdle_valid : ValidCon c36.P 24 conIdle := flatCon_valid c36_good 60 (by kernel_rfl) fun l h => ⟨_, fIdle l, .asrt h (.ret (.refl _) rfl)⟩
noncomputable def c37 : Cfg := c36.addQuiet 24 conIdle
theorem c37_good : GoodCfg c37 := c36_good.addQuiet conIdle_valid flatCon_quiet

end Go.Fx
