import Derived.Test.YtccfojgceohciaaV7
import Derived.Test.YtccfojgceohciaaFx5
/- Contracts: the document's answer for live. -/
namespace Go.Fx
open Go Go.Proofs

/-! ### fuseeref12.May -/
abbrev XA := (List Fu.Live × Int) × Int
def TA (x : XA) : St := ⟨puts (J 32) [(0, .view .live x.1.1), (1, .int .i64 x.1.2), (4, .blit false), (5, .int .i64 x.2)], [], 0⟩
def sA : List Sh := sets (Js 32) [(0, .keep), (1, .keep), (4, .keep), (5, .int)]
def eA : List Sh := sets (Js 32) [(4, .keep)]
def RA : Ex × St := (.ret, ⟨puts (J 32) [(4, .blit false)], [], 0⟩)
def EA : Ex × St := (.exit 0, ⟨puts (J 32) [(4, .blit false)], [], 0⟩)
theorem bA (x : List Fu.Live × Int) (i : Int) : roundN c49 60 21 (loopAt c49.P 21 4) (norm2 0 [] [] sA) (norm2 0 [] [] eA) (TA (x, i)) =
    .ite (decide (i < x.1.length)) (.asrt (0 ≤ i ∧ i < x.1.length) (.asrt (nowOK x.2) (.ite (!mayL1 (rd .live x.1 i) x.2) (.ret RA) (.ret (.normal, TA (x, IntKind.i64.wrap (i + 1))))))) (.ret EA) := by kernel_rfl
def gA (σ : St) : Option XA :=
  match nth σ.tmps 0, nth σ.tmps 1, nth σ.tmps 5 with
  | .view .live l, .int .i64 n, .int .i64 i => some ((l, n), i)
  | _, _, _ => none
def brkA (x : List Fu.Live × Int) (i : Int) : Option Unit := bif !mayL1 (rd .live x.1 i) x.2 then some () else none
def LA : LoopCon := boundB 0 (norm2 0 [] [] sA) TA gA (fun x => x.1.length) (fun x _ => nowOK x.2) (fun x _ => x) brkA () (fun _ => RA) (fun _ => EA)
theorem lA (hs : SubOf c49.P 21 (.loop (loopAt c49.P 21 4))) : SoundLoop c49 (loopAt c49.P 21 4) LA :=
  bound_loop (C := c49) (g := 21) (l := 4) c49_good 60 0 _ _ (Weak.norm2 0 [] [] sA) (Weak.norm2 0 [] [] eA) hs TA gA (fun x => x.1.length) (fun x _ => nowOK x.2) (fun x _ => x) brkA () (fun _ => RA) (fun _ => EA)
    (fun _ => by intro h; cases h) (fun _ => by intro h; cases h) (fun _ _ => rfl)
    (fun x i h0 hi hm hok => .of_eq (bA x i) (by
      unfold maxI64 at hm
      rw [wrap_fits (by omega) (by omega)]
      refine (Tree.out_ite_true (decide_eq_true hi)).2 ⟨⟨h0, hi⟩, hok, ?_⟩
      unfold brkA
      cases h : (!mayL1 (rd .live x.1 i) x.2) with
      | true => exact (Tree.out_ite_true rfl).2 rfl
      | false => exact (Tree.out_ite_false rfl).2 rfl))
    (fun x i hi => .of_eq (bA x i) ((Tree.out_ite_false (decide_eq_false (by omega))).2 rfl))
noncomputable def c50 : Cfg := c49.addLoop 21 4 LA
theorem c50_good : GoodCfg c50 := c49_good.addLoop (by unfold OneLoop; kernel_rfl) lA
def rmayT (l : List Fu.Live) (n : Int) : Tree (AV × List Blk) :=
  .ite (decide (n < 0) || (decide (n > 549755813888) || decide ((l.length : Int) > 4))) noB (.asrt (0 = 0 ∧ TA ((l, n), 0) = TA ((l, n), 0)) (.asrt (0 ≤ (0 : Int) ∧ (l.length : Int) ≤ maxI64 ∧ okI (fun x _ => x) brkA (fun x _ => nowOK x.2) ((l.length : Int) - 0).toNat (l, n) 0)
    (optT () (brkI (fun x _ => x) brkA ((l.length : Int) - 0).toNat (l, n) 0) (fun _ => .ret (.blit false, [])) (.ret (.blit true, [])))))
theorem fRMay (l : List Fu.Live) (n : Int) : callC c50 60 21 [.view .live l, .int .i64 n] = rmayT l n := by kernel_rfl
theorem okI_idA {X β : Type} {brk : X → Int → Option β} {ok : X → Int → Prop} {x : X} : ∀ (n : Nat) (i : Int), (∀ j, i ≤ j → j < i + n → ok x j) → okI (fun x _ => x) brk ok n x i
  | 0, _, _ => trivial
  | n + 1, i, h => ⟨h i (Int.le_refl _) (by omega), fun _ => okI_idA n (i + 1) fun j h1 h2 => h j (by omega) (by omega)⟩
theorem brkI_idA {X β : Type} {brk : X → Int → Option β} {x : X} : ∀ (n : Nat) (i : Int), brkI (fun x _ => x) brk n x i = none ↔ ∀ j, i ≤ j → j < i + n → brk x j = none
  | 0, i => by
    constructor
    · intro _ j h1 h2; omega
    · intro _; rfl
  | n + 1, i => by
    unfold brkI
    have ih := brkI_idA (brk := brk) (x := x) n (i + 1)
    constructor
    · intro h j h1 h2
      cases hb : brk x i with
      | some b => rw [hb] at h; cases h
      | none =>
        rw [hb] at h
        rcases Int.lt_or_eq_of_le h1 with h3 | rfl
        · exact ih.1 h j (by omega) (by omega)
        · exact hb
    · intro h
      rw [h i (Int.le_refl _) (by omega)]
      exact ih.2 fun j h1 h2 => h j (by omega) (by omega)
theorem all_rd {l : List Fu.Live} {p : Fu.Live → Bool} : (∀ j : Int, 0 ≤ j → j < l.length → p (rd .live l j) = true) ↔ l.all p = true := by
  rw [List.all_eq_true]
  constructor
  · intro h x hx
    obtain ⟨n, hn, rfl⟩ := List.mem_iff_getElem.1 hx
    have := h n (by omega) (by omega)
    simpa [rd, hn] using this
  · intro h j h0 h1
    exact h _ (rd_mem h0 h1)
theorem rmayT_rez {l : List Fu.Live} {n : Int} (_h : smallL l) : Rez (rmayT l n) (.bool (mayL l n), []) := by
  refine ite_rez (fun h => noB_rez ?_) fun h => ?_
  · cases hm : mayL l n with
    | false => rfl
    | true =>
      obtain ⟨h1, h2, _⟩ := mayL_iff.1 hm
      simp only [Bool.or_eq_true, decide_eq_true_eq] at h
      omega
  · simp only [Bool.or_eq_false_iff, decide_eq_false_iff_not] at h
    have e : mayL l n = l.all fun x => mayL1 x n := by
      unfold mayL
      rw [decide_eq_true (show l.length ≤ 4 by omega), decide_eq_true (show 0 ≤ n by omega), decide_eq_true (show n ≤ 549755813888 by omega)]
      rfl
    rw [e]
    refine .asrt ⟨rfl, rfl⟩ (.asrt ⟨Int.le_refl _, by unfold maxI64; omega, okI_idA _ _ fun _ _ _ => ⟨by omega, by omega⟩⟩ ?_)
    cases hb : brkI (fun x _ => x) brkA ((l.length : Int) - 0).toNat (l, n) 0 with
    | none =>
      refine .itee rfl (.ret (.blit (all_rd.1 fun j k0 k1 => ?_).symm) rfl)
      have := (brkI_idA _ _).1 hb j k0 (by omega)
      unfold brkA at this
      cases hc : mayL1 (rd .live l j) n with
      | true => rfl
      | false => simp only [hc] at this; cases this
    | some b =>
      refine .itet rfl (.ret (.blit ?_) rfl)
      cases ha : l.all fun x => mayL1 x n with
      | false => rfl
      | true =>
        have : brkI (fun x _ => x) brkA ((l.length : Int) - 0).toNat (l, n) 0 = none := (brkI_idA _ _).2 fun j k0 k1 => by
          unfold brkA
          rw [all_rd.2 ha j k0 (by omega)]
          rfl
        rw [this] at hb; cases hb
theorem conRMayL_valid : ValidCon c50.P 21 conMayL := flatCon_valid c50_good 60 (by kernel_rfl) fun x h => ⟨_, fRMay x.1 x.2, rmayT_rez h⟩
noncomputable def c51 : Cfg := c50.addQuiet 21 conMayL
theorem c51_good : GoodCfg c51 := c50_good.addQuiet conRMayL_valid flatCon_quiet

/-! ### fuseeref12.Begin -/
abbrev XB := (List Fu.Live × Int × List Fu.Live) × Int
def TB (x : XB) : St := ⟨puts (J 56) [(0, .view .live x.1.1), (1, .int .i64 x.1.2.1), (5, .own 0), (6, .int .i64 x.2)], [(0, .rows .live 39 x.1.2.2)], 1⟩
def sB : List Sh := sets (Js 56) [(0, .keep), (1, .keep), (5, .keep), (6, .int)]
def eB : List Sh := sets (Js 56) [(5, .keep)]
def fB (ss : List Sh) (σ : St) : St := norm2 0 [.tmp 5] [0] ss (ownSlot 5 .live 39 σ)
theorem weak_fB (ss : List Sh) (σ : St) : Weak 0 σ (fB ss σ) := (Weak.ownSlot 0 5 .live 39 σ).trans (Weak.norm2 0 [.tmp 5] [0] ss _)
def EB (x : List Fu.Live × Int × List Fu.Live) : Ex × St := (.exit 0, ⟨puts (J 56) [(5, .own 0)], [(0, .rows .live 39 x.2.2)], 1⟩)
theorem bB (x : List Fu.Live × Int × List Fu.Live) (i : Int) : roundN c51 60 19 (loopAt c51.P 19 3) (fB sB) (fB eB) (TB (x, i)) =
    .ite (decide (i < x.1.length)) (.asrt (0 ≤ i ∧ i < x.1.length) (.ite (decide ((rd .live x.1 i).At ≤ x.2.1)) (.asrt ((x.2.2 ++ [begunW x.2.1 (rd .live x.1 i)]).length * 136 ≤ 140737488355328) (.ret (.normal, TB ((x.1, x.2.1, x.2.2 ++ [begunW x.2.1 (rd .live x.1 i)]), IntKind.i64.wrap (i + 1)))))
      (.asrt ((x.2.2 ++ [rd .live x.1 i]).length * 136 ≤ 140737488355328) (.ret (.normal, TB ((x.1, x.2.1, x.2.2 ++ [rd .live x.1 i]), IntKind.i64.wrap (i + 1))))))) (.ret (EB x)) := by kernel_rfl
def gB (σ : St) : Option XB :=
  match nth σ.tmps 0, nth σ.tmps 1, nth σ.tmps 6, σ.heap with
  | .view .live l, .int .i64 n, .int .i64 i, [(_, .rows .live _ o)] => some ((l, n, o), i)
  | .view .live l, .int .i64 n, .lit .i64 i, [(_, .rows .live _ o)] => some ((l, n, o), i)
  | _, _, _, _ => none
def nxtRB (x : List Fu.Live × Int × List Fu.Live) (i : Int) : List Fu.Live × Int × List Fu.Live := (x.1, x.2.1, x.2.2 ++ [beginL x.2.1 (rd .live x.1 i)])
def okRB (x : List Fu.Live × Int × List Fu.Live) (i : Int) : Prop := okB x.2.1 (rd .live x.1 i) ∧ (x.2.2.length + 1) * 136 ≤ 140737488355328
def LB : LoopCon := boundF 0 (fB sB) TB gB (fun x => x.1.length) okRB nxtRB EB
theorem lB (hs : SubOf c51.P 19 (.loop (loopAt c51.P 19 3))) : SoundLoop c51 (loopAt c51.P 19 3) LB :=
  bound_fold (C := c51) (g := 19) (l := 3) c51_good 60 0 _ _ (weak_fB sB) (weak_fB eB) hs TB gB (fun x => x.1.length) okRB nxtRB EB
    (fun _ => by intro h; cases h) (fun _ _ => rfl)
    (fun x i h0 hi hm hok => .of_eq (bB x i) (by
      unfold maxI64 at hm
      obtain ⟨h1, h2⟩ := hok
      rw [wrap_fits (n := i + 1) (by omega) (by omega)]
      refine (Tree.out_ite_true (decide_eq_true hi)).2 ⟨⟨h0, hi⟩, ?_⟩
      unfold nxtRB
      cases ha : decide ((rd .live x.1 i).At ≤ x.2.1) with
      | true =>
        have ha' := of_decide_eq_true ha
        rw [begunW_eq h1 (decide_eq_false (by omega))]
        exact (Tree.out_ite_true rfl).2 ⟨by rw [List.length_append]; exact h2, rfl⟩
      | false =>
        have ha' := of_decide_eq_false ha
        rw [beginL_stay (decide_eq_true (by omega))]
        exact (Tree.out_ite_false rfl).2 ⟨by rw [List.length_append]; exact h2, rfl⟩))
    (fun x i hi => .of_eq (bB x i) ((Tree.out_ite_false (decide_eq_false (by omega))).2 rfl))
noncomputable def c52 : Cfg := c51.addLoop 19 3 LB
theorem c52_good : GoodCfg c52 := c51_good.addLoop (by unfold OneLoop; kernel_rfl) lB
def rbeginT (l : List Fu.Live) (now : Int) : Tree (AV × List Blk) :=
  .asrt (0 = 0 ∧ TB ((l, now, []), 0) = TB ((l, now, []), 0)) (.asrt (0 ≤ (0 : Int) ∧ (l.length : Int) ≤ maxI64 ∧ okI nxtRB (fun _ _ => (none : Option Unit)) okRB ((l.length : Int) - 0).toNat (l, now, []) 0)
    (.ret (.own 0, [.rows .live 39 (foldI nxtRB ((l.length : Int) - 0).toNat (l, now, []) 0).2.2])))
theorem fRBegin (l : List Fu.Live) (now : Int) : callC c52 60 19 [.view .live l, .int .i64 now] = rbeginT l now := by kernel_rfl
theorem foldRB {l : List Fu.Live} {now : Int} (hl : l.length * 136 ≤ 140737488355328) (h : ∀ y ∈ l, okB now y) (n : Nat) : ∀ (out : List Fu.Live) (i : Int), 0 ≤ i → i + n = l.length → out.length + n = l.length →
    foldI nxtRB n (l, now, out) i = (l, now, out ++ (l.drop i.toNat).map (beginL now)) ∧ okI nxtRB (fun _ _ => (none : Option Unit)) okRB n (l, now, out) i := by
  induction n with
  | zero =>
    intro out i h0 h1 h2
    have e : l.drop i.toNat = [] := List.drop_eq_nil_of_le (by omega)
    rw [e]
    exact ⟨by simp [foldI], trivial⟩
  | succ n ih =>
    intro out i h0 h1 h2
    have hr := drop_rd (r := .live) h0 (show i < (l.length : Int) by omega)
    obtain ⟨k1, k2⟩ := ih (out ++ [beginL now (rd .live l i)]) (i + 1) (by omega) (by omega) (by rw [List.length_append]; simp only [List.length_cons, List.length_nil]; omega)
    have hok : okRB (l, now, out) i := ⟨h _ (rd_mem h0 (by omega)), by show (out.length + 1) * 136 ≤ 140737488355328; omega⟩
    refine ⟨?_, hok, fun _ => k2⟩
    unfold foldI
    refine k1.trans ?_
    rw [hr, List.map_cons, List.append_assoc]
    rfl
theorem rbeginT_rez {l : List Fu.Live} {now : Int} (h : okBs (l, now)) : Rez (rbeginT l now) (.own 0, [.rows .live 39 (beginAll l now)]) := by
  obtain ⟨h1, h2⟩ := h
  have h1' : (l.length : Int) * 136 ≤ 140737488355328 := h1
  have e : ((l.length : Int) - 0).toNat = l.length := by omega
  obtain ⟨k1, k2⟩ := foldRB (l := l) (now := now) (by omega) h2 l.length [] 0 (Int.le_refl _) (by omega) (by simp)
  unfold rbeginT
  rw [e]
  refine .asrt ⟨rfl, rfl⟩ (.asrt ⟨Int.le_refl _, by unfold maxI64; omega, k2⟩ (.ret (.refl _) ?_))
  rw [k1]
  rfl
theorem conRBegin_valid : ValidCon c52.P 19 conBegin := resCon_valid c52_good 60 (by kernel_rfl) fun x h => ⟨_, fRBegin x.1 x.2, rbeginT_rez h⟩
noncomputable def c53 : Cfg := c52.addCon 19 conBegin
theorem c53_good : GoodCfg c53 := c52_good.addCon conRBegin_valid (by kernel_rfl)

end Go.Fx
