import Derived.Test.YtccfojgceohciaaB13
/- Contracts: the document's answer for live: who runs, what one time comes to, looking on. -/
namespace Go.Fx
open Go Go.Proofs

/-! ### fuseeref12.First -/
abbrev AC := List Fu.Live × Int × Bool
def TC (x : AC × Int) : St := ⟨puts (J 72) [(0, .view .live x.1.1), (3, .int .i64 x.1.2.1), (4, .bool x.1.2.2), (5, .int .i64 x.2)], [], 0⟩
def sC : List Sh := sets (Js 72) [(0, .keep), (3, .keep), (4, .bool), (5, .int)]
def eC : List Sh := sets (Js 72) [(0, .keep), (3, .keep), (4, .bool)]
def EC (x : AC) : Ex × St := (.exit 2, ⟨puts (J 72) [(0, .view .live x.1), (3, .int .i64 x.2.1), (4, .bool x.2.2)], [], 0⟩)
/-- Comes one ahead of another? -/
def beats (l : List Fu.Live) (i k : Int) : Bool := mustJ (jobAt l k) && (decide ((jobAt l k).Due < (jobAt l i).Due) || (jobAt l k).Due == (jobAt l i).Due && decide (k < i))
theorem bC (x : AC) (k : Int) : roundN c53 60 23 (loopAt c53.P 23 6) (norm2 0 [] [] sC) (norm2 0 [] [] eC) (TC (x, k)) =
    .ite (decide (k < x.1.length) && x.2.2) (.asrt (0 ≤ k ∧ k < x.1.length) (.asrt (smallC (jobAt x.1 k)) (.asrt (mustJ (jobAt x.1 k) = true → 0 ≤ k ∧ k < x.1.length) (.asrt (mustJ (jobAt x.1 k) = true → 0 ≤ x.2.1 ∧ x.2.1 < x.1.length)
      (.asrt (mustJ (jobAt x.1 k) = true → decide ((jobAt x.1 k).Due < (jobAt x.1 x.2.1).Due) = false → 0 ≤ k ∧ k < x.1.length) (.asrt (mustJ (jobAt x.1 k) = true → decide ((jobAt x.1 k).Due < (jobAt x.1 x.2.1).Due) = false → 0 ≤ x.2.1 ∧ x.2.1 < x.1.length)
        (.ret (.normal, TC ((x.1, x.2.1, !beats x.1 x.2.1 k && x.2.2), IntKind.i64.wrap (k + 1)))))))))) (.ret (EC x)) := by kernel_rfl
def gC (σ : St) : Option (AC × Int) :=
  match nth σ.tmps 0, nth σ.tmps 3, nth σ.tmps 4, nth σ.tmps 5 with
  | .view .live l, .int .i64 i, .bool b, .int .i64 k => some ((l, i, b), k)
  | _, _, _, _ => none
def nxtC (x : AC) (k : Int) : AC := (x.1, x.2.1, !beats x.1 x.2.1 k && x.2.2)
def okC (x : AC) (k : Int) : Prop := smallC (jobAt x.1 k) ∧ 0 ≤ x.2.1 ∧ x.2.1 < x.1.length
def LC : LoopCon := boundF 0 (norm2 0 [] [] sC) TC gC (fun x => x.1.length) okC nxtC EC
theorem nxtC_false (k : Nat) : ∀ (x : AC) (i : Int), x.2.2 = false → foldI nxtC k x i = x := by
  induction k with
  | zero => intro _ _ _; rfl
  | succ k ih =>
    intro x i h
    have e : nxtC x i = x := by
      obtain ⟨l, j, b⟩ := x
      simp only at h
      subst h
      unfold nxtC
      simp
    unfold foldI
    rw [e]
    exact ih x (i + 1) h
theorem lC (hs : SubOf c53.P 23 (.loop (loopAt c53.P 23 6))) : SoundLoop c53 (loopAt c53.P 23 6) LC :=
  while_fold (C := c53) (g := 23) (l := 6) c53_good 60 0 _ _ (Weak.norm2 0 [] [] sC) (Weak.norm2 0 [] [] eC) hs TC gC (fun x => x.1.length) (fun x _ => x.2.2) okC nxtC EC
    (fun _ => by intro h; cases h) (fun _ _ => rfl)
    (fun x k h0 hk hm hok hc => .of_eq (bC x k) (by
      unfold maxI64 at hm
      obtain ⟨h1, h2⟩ := hok
      rw [wrap_fits (n := k + 1) (by omega) (by omega), decide_eq_true hk]
      refine (Tree.out_ite_true hc).2 ⟨⟨h0, hk⟩, h1, fun _ => ⟨h0, hk⟩, fun _ => h2, fun _ _ => ⟨h0, hk⟩, fun _ _ => h2, rfl⟩))
    (fun x k h => .of_eq (bC x k) ((Tree.out_ite_false (by
      rcases h with h | h
      · rw [decide_eq_false (by omega)]; rfl
      · rw [h, Bool.and_false])).2 rfl))
    (fun x i k h => nxtC_false k x i h)
noncomputable def c54 : Cfg := c53.addLoop 23 6 LC
theorem c54_good : GoodCfg c54 := c53_good.addLoop (by unfold OneLoop; kernel_rfl) lC
def inC (l : List Fu.Live) (i : Int) : AC := foldI nxtC ((l.length : Int) - 0).toNat (l, i, mustJ (jobAt l i)) 0
def TG (x : List Fu.Live × Int) : St := ⟨puts (J 72) [(0, .view .live x.1), (3, .int .i64 x.2)], [], 0⟩
def sG : List Sh := sets (Js 72) [(0, .keep), (3, .int)]
def eG : List Sh := sets (Js 72) [(2, .keep)]
def RG (i : Int) : Ex × St := (.ret, ⟨puts (J 72) [(2, .int .i64 i)], [], 0⟩)
def fG (ss : List Sh) (σ : St) : St := norm2 0 [] [] ss σ
theorem bG (l : List Fu.Live) (i : Int) : roundN c54 60 23 (loopAt c54.P 23 2) (norm2 0 [] [] sG) (norm2 0 [] [] eG) (TG (l, i)) =
    .ite (decide (i < l.length)) (.asrt (0 ≤ i ∧ i < l.length) (.asrt (smallC (jobAt l i)) (.asrt (0 = 0 ∧ TC ((l, i, mustJ (jobAt l i)), 0) = TC ((l, i, mustJ (jobAt l i)), 0)) (.asrt (0 ≤ (0 : Int) ∧ (l.length : Int) ≤ maxI64 ∧ okI nxtC (fun _ _ => (none : Option Unit)) okC ((l.length : Int) - 0).toNat (l, i, mustJ (jobAt l i)) 0)
      (.ite (inC l i).2.2 (.ret (RG (inC l i).2.1)) (.ret (.normal, TG ((inC l i).1, IntKind.i64.wrap ((inC l i).2.1 + 1)))))))))
      (.ret (.exit 0, ⟨puts (J 72) [], [], 0⟩)) := by kernel_rfl
def gG (σ : St) : Option (List Fu.Live × Int) :=
  match nth σ.tmps 0, nth σ.tmps 3 with
  | .view .live l, .int .i64 i => some (l, i)
  | _, _ => none
def brkG (l : List Fu.Live) (i : Int) : Option Int := bif (inC l i).2.2 then some i else none
def LG : LoopCon := boundB 0 (norm2 0 [] [] sG) TG gG (fun l => l.length) (fun l _ => okF l) (fun l _ => l) brkG 0 RG (fun _ => (.exit 0, ⟨puts (J 72) [], [], 0⟩))
theorem foldC {l : List Fu.Live} {i : Int} (n : Nat) : ∀ (b : Bool) (k : Int), (foldI nxtC n (l, i, b) k).1 = l ∧ (foldI nxtC n (l, i, b) k).2.1 = i ∧ ((foldI nxtC n (l, i, b) k).2.2 = true ↔ b = true ∧ ∀ j, k ≤ j → j < k + n → beats l i j = false) := by
  induction n with
  | zero => exact fun b k => ⟨rfl, rfl, ⟨fun h => ⟨h, fun j h1 h2 => by omega⟩, fun h => h.1⟩⟩
  | succ n ih =>
    intro b k
    obtain ⟨k1, k2, k3⟩ := ih (!beats l i k && b) (k + 1)
    refine ⟨k1, k2, ?_⟩
    show (foldI nxtC n (l, i, !beats l i k && b) (k + 1)).2.2 = true ↔ _
    rw [k3]
    constructor
    · rintro ⟨h1, h2⟩
      rw [Bool.and_eq_true] at h1
      refine ⟨h1.2, fun j h3 h4 => ?_⟩
      rcases Int.lt_or_eq_of_le h3 with h5 | rfl
      · exact h2 j (by omega) (by omega)
      · simpa using h1.1
    · rintro ⟨h1, h2⟩
      refine ⟨?_, fun j h3 h4 => h2 j (by omega) (by omega)⟩
      rw [h1, h2 k (Int.le_refl _) (by omega)]
      rfl
theorem okI_C {l : List Fu.Live} {i : Int} (h : okF l) (h0 : 0 ≤ i) (h1 : i < l.length) (n : Nat) : ∀ (b : Bool) (k : Int), 0 ≤ k → k + n = l.length → okI nxtC (fun _ _ => (none : Option Unit)) okC n (l, i, b) k := by
  induction n with
  | zero => intro _ _ _ _; trivial
  | succ n ih =>
    intro b k hk hn
    have hok : okC (l, i, b) k := ⟨h.2 _ (rd_mem hk (by omega)), h0, h1⟩
    exact ⟨hok, fun _ => ih _ (k + 1) (by omega) (by omega)⟩
theorem lG (hs : SubOf c54.P 23 (.loop (loopAt c54.P 23 2))) : SoundLoop c54 (loopAt c54.P 23 2) LG :=
  bound_loop (C := c54) (g := 23) (l := 2) c54_good 60 0 _ _ (Weak.norm2 0 [] [] sG) (Weak.norm2 0 [] [] eG) hs TG gG (fun l => l.length) (fun l _ => okF l) (fun l _ => l) brkG 0 RG (fun _ => (.exit 0, ⟨puts (J 72) [], [], 0⟩))
    (fun _ => by intro h; cases h) (fun _ => by intro h; cases h) (fun _ _ => rfl)
    (fun l i h0 hi hm hok => .of_eq (bG l i) (by
      have hl := hok.1
      have e : ((l.length : Int) - 0).toNat = l.length := by omega
      obtain ⟨k1, k2, k3⟩ := foldC (l := l) (i := i) ((l.length : Int) - 0).toNat (mustJ (jobAt l i)) 0
      have k1 : (inC l i).1 = l := k1
      have k2 : (inC l i).2.1 = i := k2
      rw [k1, k2, wrap_fits (n := i + 1) (by omega) (by omega)]
      refine (Tree.out_ite_true (decide_eq_true hi)).2 ⟨⟨h0, hi⟩, hok.2 _ (rd_mem h0 hi), ⟨rfl, rfl⟩, ⟨Int.le_refl _, hm, okI_C hok h0 hi _ _ 0 (Int.le_refl _) (by omega)⟩, ?_⟩
      unfold brkG
      cases hb : (inC l i).2.2 with
      | true => exact (Tree.out_ite_true rfl).2 rfl
      | false => exact (Tree.out_ite_false rfl).2 rfl))
    (fun l i hi => .of_eq (bG l i) ((Tree.out_ite_false (decide_eq_false (by omega))).2 rfl))
noncomputable def c55 : Cfg := c54.addLoop 23 2 LG
theorem c55_good : GoodCfg c55 := c54_good.addLoop (by unfold OneLoop; kernel_rfl) lG
def rfirstT (l : List Fu.Live) : Tree (AV × List Blk) :=
  .asrt (0 = 0 ∧ TG (l, 0) = TG (l, 0)) (.asrt (0 ≤ (0 : Int) ∧ (l.length : Int) ≤ maxI64 ∧ okI (fun l _ => l) brkG (fun l _ => okF l) ((l.length : Int) - 0).toNat l 0)
    (optT 0 (brkI (fun l _ => l) brkG ((l.length : Int) - 0).toNat l 0) (fun i => .ret (.int .i64 i, [])) (.ret (.lit .i64 (-1), []))))
theorem fRFirst (l : List Fu.Live) : callC c55 60 23 [.view .live l] = rfirstT l := by kernel_rfl
theorem inC_iff {l : List Fu.Live} {i : Int} : (inC l i).2.2 = true ↔ mustJ (jobAt l i) = true ∧ ∀ j : Int, 0 ≤ j → j < l.length → beats l i j = false := by
  obtain ⟨_, _, k3⟩ := foldC (l := l) (i := i) ((l.length : Int) - 0).toNat (mustJ (jobAt l i)) 0
  refine k3.trans ⟨fun h => ⟨h.1, fun j h1 h2 => h.2 j h1 (by omega)⟩, fun h => ⟨h.1, fun j h1 h2 => h.2 j h1 (by omega)⟩⟩
theorem inC_first {l : List Fu.Live} {i : Int} (h0 : 0 ≤ i) (h1 : i < l.length) (h : (inC l i).2.2 = true) : firstL l = i := by
  obtain ⟨h2, h3⟩ := inC_iff.1 h
  refine firstL_eq (.inr ⟨h0, h1, h2, fun j k0 k1 hm => ?_⟩)
  have h4 := h3 j k0 k1
  unfold beats at h4
  rw [hm, Bool.true_and] at h4
  simp only [Bool.or_eq_false_iff, decide_eq_false_iff_not, Bool.and_eq_false_iff, beq_eq_false_iff_ne] at h4
  omega
theorem first_inC {l : List Fu.Live} (h : firstL l ≠ -1) : (inC l (firstL l)).2.2 = true := by
  rcases firstL_spec l with ⟨h1, _⟩ | ⟨h1, h2, h3, h4⟩
  · exact absurd h1 h
  · refine inC_iff.2 ⟨h3, fun j k0 k1 => ?_⟩
    unfold beats
    cases hm : mustJ (jobAt l j) with
    | false => rfl
    | true =>
      have := h4 j k0 k1 hm
      rw [Bool.true_and]
      simp only [Bool.or_eq_false_iff, decide_eq_false_iff_not, Bool.and_eq_false_iff, beq_eq_false_iff_ne]
      omega
theorem brkI_at {X β : Type} {brk : X → Int → Option β} {x : X} (n : Nat) : ∀ (i : Int) (b : β), brkI (fun x _ => x) brk n x i = some b → ∃ j, i ≤ j ∧ j < i + n ∧ brk x j = some b := by
  induction n with
  | zero => intro i b h; cases h
  | succ n ih =>
    intro i b h
    unfold brkI at h
    cases hb : brk x i with
    | some c =>
      rw [hb] at h
      exact ⟨i, Int.le_refl _, by omega, hb.trans h⟩
    | none =>
      rw [hb] at h
      obtain ⟨j, k1, k2, k3⟩ := ih (i + 1) b h
      exact ⟨j, by omega, by omega, k3⟩
theorem rfirstT_rez {l : List Fu.Live} (h : okF l) : Rez (rfirstT l) (.int .i64 (firstL l), []) := by
  have hl := h.1
  refine .asrt ⟨rfl, rfl⟩ (.asrt ⟨Int.le_refl _, by unfold maxI64; omega, okI_idA _ _ fun _ _ _ => h⟩ ?_)
  cases hb : brkI (fun l _ => l) brkG ((l.length : Int) - 0).toNat l 0 with
  | some b =>
    refine .itet rfl (.ret ?_ rfl)
    obtain ⟨j, k1, k2, k3⟩ := brkI_at _ _ _ hb
    unfold brkG at k3
    cases hc : (inC l j).2.2 with
    | false => rw [hc] at k3; cases k3
    | true =>
      rw [hc] at k3
      cases k3
      exact .eq (by rw [inC_first k1 (by omega) hc]; rfl)
  | none =>
    refine .itee rfl (.ret (.lit ?_) rfl)
    have h1 := (brkI_idA _ _).1 hb
    rcases firstL_range l with h2 | ⟨h2, h3⟩
    · exact h2.symm
    · have h4 := h1 (firstL l) h2 (by omega)
      unfold brkG at h4
      rw [first_inC (by omega)] at h4
      cases h4
theorem conRFirst_valid : ValidCon c55.P 23 conFirst := flatCon_valid c55_good 60 (by kernel_rfl) fun l h => ⟨_, fRFirst l, rfirstT_rez h⟩
noncomputable def c56 : Cfg := c55.addQuiet 23 conFirst
theorem c56_good : GoodCfg c56 := c55_good.addQuiet conRFirst_valid flatCon_quiet
theorem fRIdle (l : List Fu.Live) : callC c56 60 25 [.view .live l] = .asrt (okF l) (.ret (.bool (decide (firstL l < 0)), [])) := by kernel_rfl
theorem idle_lt (l : List Fu.Live) : decide (firstL l < 0) = idleL l := by
  unfold idleL
  rcases firstL_range l with h | h
  · rw [h]; rfl
  · rw [decide_eq_false (by omega)]; symm; simp; omega
theorem conRIdle_valid : ValidCon c56.P 25 conIdle := flatCon_valid c56_good 60 (by kernel_rfl) fun l h => ⟨_, fRIdle l, .asrt h (.ret (.eq (by rw [idle_lt])) rfl)⟩
noncomputable def c57 : Cfg := c56.addQuiet 25 conIdle
theorem c57_good : GoodCfg c57 := c56_good.addQuiet conRIdle_valid flatCon_quiet

end Go.Fx
