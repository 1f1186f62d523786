import Derived.Test.YtneflbpekennkaaGreatB28
/- Contracts: which worlds may be. -/
namespace Go.Fx
open Go Go.Proofs

/-- Each no less than the one ahead. -/
def ascA : List Fu.Ape → Bool
  | [] => true
  | [_] => true
  | a :: b :: l => decide (a.ID ≤ b.ID) && ascA (b :: l)
/-- From a place back. -/
def srtA (A : List Fu.Ape) : Nat → Bool
  | 0 => true
  | k + 1 => decide ((rd .ape A k).ID ≤ (rd .ape A ((k : Int) + 1)).ID) && srtA A k
theorem srtA_cons (a : Fu.Ape) (A : List Fu.Ape) : ∀ k : Nat, srtA (a :: A) (k + 1) = (srtA A k && decide (a.ID ≤ (rd .ape A 0).ID))
  | 0 => by
    show (decide _ && true) = (true && decide _)
    rw [Bool.and_true, Bool.true_and]
    rfl
  | k + 1 => by
    have ih := srtA_cons a A k
    have e1 : rd .ape (a :: A) ((k + 1 : Nat) : Int) = rd .ape A (k : Nat) := by
      unfold rd
      rw [show ((k + 1 : Nat) : Int).toNat = k + 1 by omega, show ((k : Nat) : Int).toNat = k by omega]; rfl
    have e2 : rd .ape (a :: A) (((k + 1 : Nat) : Int) + 1) = rd .ape A ((k : Int) + 1) := by
      unfold rd
      rw [show (((k + 1 : Nat) : Int) + 1).toNat = k + 2 by omega, show ((k : Int) + 1).toNat = k + 1 by omega]; rfl
    show (decide (_ ≤ _) && srtA (a :: A) (k + 1)) = (decide (_ ≤ _) && srtA A k && _)
    rw [ih, e1, e2, Bool.and_assoc]
theorem srtA_asc : ∀ A : List Fu.Ape, srtA A (A.length - 1) = ascA A
  | [] => rfl
  | [_] => rfl
  | a :: b :: l => by
    have ih := srtA_asc (b :: l)
    show srtA (a :: b :: l) (l.length + 1) = _
    rw [srtA_cons]
    rw [show (b :: l).length - 1 = l.length from rfl] at ih
    rw [ih, Bool.and_comm]
    rfl
def TIs (x : List Fu.Ape × Int) : St := ⟨puts (J 25) [(0, .view .ape x.1), (1, .fn (.func 24) [] []), (5, .int .i64 x.2)], [], 0⟩
def sIs : List Sh := sets (Js 25) [(0, .keep), (1, .keep), (5, .int)]
def eIs : List Sh := sets (Js 25) [(4, .keep)]
def RIs : Ex × St := (.ret, ⟨puts (J 25) [(4, .blit false)], [], 0⟩)
def EIs : Ex × St := (.exit 0, ⟨J 25, [], 0⟩)
theorem bIs (A : List Fu.Ape) (i : Int) : roundN c69 60 23 (loopAt c69.P 23 2) (norm2 0 [] [] sIs) (norm2 0 [] [] eIs) (TIs (A, i)) =
    .ite (decide (i > 0)) (.asrt (0 ≤ i ∧ i < A.length) (.asrt (0 ≤ IntKind.i64.wrap (i - 1) ∧ IntKind.i64.wrap (i - 1) < A.length) (.ite (decide (IntKind.i64.wrap ((rd .ape A i).ID - (rd .ape A (IntKind.i64.wrap (i - 1))).ID) < 0)) (.ret RIs) (.ret (.normal, TIs (A, IntKind.i64.wrap (i - 1))))))) (.ret EIs) := by kernel_rfl
def gIs (σ : St) : Option (List Fu.Ape × Int) :=
  match nth σ.tmps 0, nth σ.tmps 5 with
  | .view .ape A, .int .i64 i => some (A, i)
  | _, _ => none
def smallIDs (A : List Fu.Ape) : Prop := ∀ a ∈ A, 0 ≤ a.ID ∧ a.ID ≤ 549755813888
def LxIs (x : List Fu.Ape × Int) : Tree (Ex × St) := .asrt ((-1 ≤ x.2 ∧ x.2 < x.1.length ∧ (x.1.length : Int) < 17592186044416) ∧ smallIDs x.1) (.ite (srtA x.1 x.2.toNat) (.ret EIs) (.ret RIs))
def LIs : LoopCon := entry 0 (norm2 0 [] [] sIs) TIs gIs LxIs
theorem rd_memA {A : List Fu.Ape} {i : Int} (h0 : 0 ≤ i) (h1 : i < A.length) : rd .ape A i ∈ A := by
  have hlt : i.toNat < A.length := by omega
  have : rd .ape A i = A[i.toNat] := by simp [rd, hlt]
  rw [this]
  exact List.getElem_mem _
theorem lIs (hs : SubOf c69.P 23 (.loop (loopAt c69.P 23 2))) : SoundLoop c69 (loopAt c69.P 23 2) LIs := by
  refine loop_rule3 (C := c69) (g := 23) (l := 2) c69_good 60 0 _ _ (Weak.norm2 0 [] [] sIs) (Weak.norm2 0 [] [] eIs) hs TIs LxIs (fun x => x.2.toNat) (fun x q h => ?_) entry_out
  obtain ⟨A, i⟩ := x
  obtain ⟨⟨⟨h0, h1, h2⟩, h3⟩, h⟩ := Tree.out_asrt.1 h
  simp only at h0 h1 h2 h3 h
  refine .of_eq (bIs A i) ?_
  rw [wrap_fits (n := i - 1) (by omega) (by omega)]
  refine Tree.wp_ite.2 ⟨fun hi => ?_, fun hi => ?_⟩
  · have hi := of_decide_eq_true hi
    have k1 := h3 _ (rd_memA (A := A) (i := i) (by omega) h1)
    have k2 := h3 _ (rd_memA (A := A) (i := i - 1) (by omega) (by omega))
    rw [wrap_fits (by omega) (by omega)]
    have e : srtA A i.toNat = (decide ((rd .ape A (i - 1)).ID ≤ (rd .ape A i).ID) && srtA A (i - 1).toNat) := by
      rw [show i.toNat = (i - 1).toNat + 1 by omega]
      show (decide _ && _) = _
      rw [show (((i - 1).toNat : Nat) : Int) = i - 1 by omega, show i - 1 + 1 = i by omega]
    rw [e] at h
    refine ⟨⟨by omega, h1⟩, ⟨by omega, by omega⟩, Tree.wp_ite.2 ⟨fun hb => ?_, fun hb => ?_⟩⟩
    · have hb := of_decide_eq_true hb
      rw [decide_eq_false (by omega), Bool.false_and] at h
      exact Rnd.ret h
    · have hb := of_decide_eq_false hb
      rw [decide_eq_true (by omega), Bool.true_and] at h
      exact Rnd.go (m := fun x : List Fu.Ape × Int => x.2.toNat) (x := (A, i)) (A, i - 1) (by simp only; omega) (Tree.out_asrt.2 ⟨⟨⟨by simp only; omega, by simp only; omega, h2⟩, h3⟩, h⟩)
  · have hi := of_decide_eq_false hi
    rw [show i.toNat = 0 by omega] at h
    exact Rnd.out h
noncomputable def c70 : Cfg := c69.addLoop 23 2 LIs
theorem c70_good : GoodCfg c70 := c69_good.addLoop (by unfold OneLoop; kernel_rfl) lIs
def isT (A : List Fu.Ape) : Tree (AV × List Blk) := .asrt (0 = 0 ∧ TIs (A, IntKind.i64.wrap ((A.length : Int) - 1)) = TIs (A, IntKind.i64.wrap ((A.length : Int) - 1)))
  (.asrt ((-1 ≤ IntKind.i64.wrap ((A.length : Int) - 1) ∧ IntKind.i64.wrap ((A.length : Int) - 1) < A.length ∧ (A.length : Int) < 17592186044416) ∧ smallIDs A) (.ite (srtA A (IntKind.i64.wrap ((A.length : Int) - 1)).toNat) (.ret (.blit true, [])) noB))
theorem fIs (A : List Fu.Ape) : callC c70 60 23 [.view .ape A, .fn (.func 24) [] []] = isT A := by kernel_rfl
def conIs : Con := flatCon (d2 (dView .ape) (dFn 24)) (fun x => (x.1.length : Int) < 17592186044416 ∧ smallIDs x.1) fun x => .bool (ascA x.1)
theorem conIs_valid : ValidCon c70.P 23 conIs := flatCon_valid c70_good 60 (by kernel_rfl) fun x h => ⟨_, fIs x.1, by
  have h1 := h.1
  have h2 := h.2
  generalize x.1 = A at h1 h2 ⊢
  refine .asrt ⟨rfl, rfl⟩ ?_
  rw [wrap_fits (n := (A.length : Int) - 1) (by omega) (by omega)]
  refine .asrt ⟨⟨by omega, by omega, h1⟩, h2⟩ ?_
  rw [show ((A.length : Int) - 1).toNat = A.length - 1 by omega, srtA_asc]
  cases h : ascA A with
  | true => exact .itet rfl (.ret (.blit (by simp [h])) rfl)
  | false => exact .itee rfl (noB_rez (by simp [h]))⟩
noncomputable def c71 : Cfg := c70.addQuiet 23 conIs
theorem c71_good : GoodCfg c71 := c70_good.addQuiet conIs_valid flatCon_quiet

/-! ### worlds -/
def encW (w : Fu.World) : List AV := [.int .i64 w.Now, .view .task w.T, .view .ape w.A, .int .i64 w.Cur]
def decW : AV → Option Fu.World
  | .agg [a, t, p, c] => match a.i, t.asView .task, p.asView .ape, c.i with
    | some a, some t, some p, some c => some ⟨a, t, p, c⟩
    | _, _, _, _ => none
  | _ => none
def dWorld : Dc Fu.World := ⟨decW, fun w => .agg (encW w), fun v w h => by
  unfold decW at h
  split at h
  · split at h
    · rename_i h1 h2 h3 h4; cases h; exact .agg (.cons (.i h1) (.cons (.view h2) (.cons (.view h3) (.cons (.i h4) .nil))))
    · cases h
  · cases h⟩
def smallW (w : Fu.World) : Prop := (w.T.length : Int) * 176 ≤ 140737488355328 ∧ (w.A.length : Int) * 40 ≤ 140737488355328
/-- Tasks each behind the one ahead, by their numbers. -/
def ascT : List Fu.Task → Bool
  | [] => true
  | [_] => true
  | a :: b :: l => decide (a.ID < b.ID) && ascT (b :: l)
def tkOK (now : Int) (t : Fu.Task) : Bool := mayK t now && !(t.J.On && decide (t.J.Due ≤ now))
def mayW (w : Fu.World) : Bool := !(decide (w.Now < 0) || (decide (w.Now > 274877906944) || (decide ((w.T.length : Int) > 4) || (decide (w.Cur < -1) || (decide (w.Cur > 549755813888) || !mayA w.A w.Now))))) && ((w.T.all (tkOK w.Now) && ascT w.T) && ascA w.A)
abbrev ARm := Fu.World
def TRm (x : ARm × Int) : St := ⟨puts (J 83) [(1, .ptr 0 0), (38, .view .task x.1.T), (39, .int .i64 x.1.T.length), (40, .int .i64 x.2)], [(0, .cells (encW x.1))], 1⟩
def sRm : List Sh := sets (Js 83) [(1, .keep), (38, .keep), (39, .int), (40, .int)]
def xRm : List Sh := sets (Js 83) [(1, .keep)]
def eRm : List Sh := sets (Js 83) [(1, .keep), (2, .keep)]
def ERm (x : ARm) : Ex × St := (.exit 0, ⟨puts (J 83) [(1, .ptr 0 0)], [(0, .cells (encW x))], 1⟩)
def RRm (x : ARm) : Ex × St := (.ret, ⟨puts (J 83) [(1, .ptr 0 0), (2, .blit false)], [(0, .cells (encW x))], 1⟩)
def badT2 (x : ARm) (i : Int) : Bool := !mayK (rd .task x.T i) x.Now || (rd .task x.T i).J.On && decide ((rd .task x.T i).J.Due ≤ x.Now)
def brkRb (x : ARm) (i : Int) : Bool := bif decide (i > 0) then decide ((rd .task x.T i).ID ≤ (rd .task x.T (IntKind.i64.wrap (i - 1))).ID) || badT2 x i else badT2 x i
theorem bRm (x : ARm) (i : Int) : roundN c71 80 10 (loopAt c71.P 10 4) (norm2 1 [] [0] sRm) (norm2 1 [] [0] eRm) (TRm (x, i)) =
    .ite (decide (i < x.T.length)) (.asrt (0 ≤ i ∧ i < x.T.length) (.asrt (decide (i > 0) = true → 0 ≤ IntKind.i64.wrap (i - 1) ∧ IntKind.i64.wrap (i - 1) < x.T.length) (.ite (brkRb x i) (.ret (RRm x)) (.ret (.normal, TRm (x, IntKind.i64.wrap (i + 1))))))) (.ret (ERm x)) := by kernel_rfl
def gRm (σ : St) : Option (ARm × Int) :=
  match nth σ.tmps 40, σ.heap with
  | .int .i64 i, [(_, .cells [.int .i64 a, .view .task t, .view .ape p, .int .i64 c])] => some (⟨a, t, p, c⟩, i)
  | _, _ => none
/-- What is left of the tasks, behind one. -/
def fineFrom (now : Int) : Option Fu.Task → List Fu.Task → Bool
  | _, [] => true
  | p, t :: l => (match p with | some q => decide (q.ID < t.ID) | none => true) && (tkOK now t && fineFrom now (some t) l)
def prevT (T : List Fu.Task) (i : Int) : Option Fu.Task := if i > 0 then some (rd .task T (i - 1)) else none
def LxRm (x : ARm × Int) : Tree (Ex × St) := .asrt (0 ≤ x.2 ∧ x.2 ≤ x.1.T.length ∧ (x.1.T.length : Int) ≤ 17592186044415) (.ite (fineFrom x.1.Now (prevT x.1.T x.2) (x.1.T.drop x.2.toNat)) (.ret (ERm x.1)) (.ret (RRm x.1)))
def LRm : LoopCon := entry 1 (norm2 1 [] [0] sRm) TRm gRm LxRm
theorem brkRb_eq {x : ARm} {i : Int} (h0 : 0 ≤ i) (h1 : i < x.T.length) (h2 : (x.T.length : Int) ≤ 17592186044415) (l : List Fu.Task) : fineFrom x.Now (prevT x.T i) (rd .task x.T i :: l) = (!brkRb x i && fineFrom x.Now (some (rd .task x.T i)) l) := by
  have hw : IntKind.i64.wrap (i - 1) = i - 1 := wrap_fits (by omega) (by omega)
  have eb : tkOK x.Now (rd .task x.T i) = !badT2 x i := by unfold tkOK badT2; rw [Bool.not_or, Bool.not_not]
  have ec : fineFrom x.Now (prevT x.T i) (rd .task x.T i :: l) = ((match prevT x.T i with | some q => decide (q.ID < (rd .task x.T i).ID) | none => true) && (tkOK x.Now (rd .task x.T i) && fineFrom x.Now (some (rd .task x.T i)) l)) := rfl
  rw [ec, eb]
  unfold brkRb prevT
  rw [hw]
  by_cases hi : i > 0
  · rw [if_pos hi, decide_eq_true hi]
    simp only [cond_true]
    have e : decide ((rd .task x.T (i - 1)).ID < (rd .task x.T i).ID) = !decide ((rd .task x.T i).ID ≤ (rd .task x.T (i - 1)).ID) := by
      rw [Bool.eq_iff_iff]; simp
    rw [e, Bool.not_or, Bool.and_assoc]
  · rw [if_neg hi, decide_eq_false hi]
    simp only [cond_false]
    rw [Bool.true_and]
theorem lRm (hs : SubOf c71.P 10 (.loop (loopAt c71.P 10 4))) : SoundLoop c71 (loopAt c71.P 10 4) LRm := by
  refine loop_rule3 (C := c71) (g := 10) (l := 4) c71_good 80 1 _ _ (Weak.norm2 1 [] [0] sRm) (Weak.norm2 1 [] [0] eRm) hs TRm LxRm (fun x => (x.1.T.length - x.2).toNat) (fun x q h => ?_) entry_out
  obtain ⟨x, i⟩ := x
  obtain ⟨⟨h0, h1, h2⟩, h⟩ := Tree.out_asrt.1 h
  simp only at h0 h1 h2 h
  refine .of_eq (bRm x i) ?_
  rw [wrap_fits (n := i + 1) (by omega) (by omega)]
  refine Tree.wp_ite.2 ⟨fun hi => ?_, fun hi => ?_⟩
  · have hi := of_decide_eq_true hi
    rw [drop_rd (r := .task) h0 hi, brkRb_eq h0 hi h2] at h
    refine ⟨⟨h0, hi⟩, fun hp => ?_, Tree.wp_ite.2 ⟨fun hb => ?_, fun hb => ?_⟩⟩
    · have hp := of_decide_eq_true hp
      rw [wrap_fits (by omega) (by omega)]
      omega
    · rw [hb] at h
      exact Rnd.ret h
    · rw [hb] at h
      refine Rnd.go (m := fun x : ARm × Int => (x.1.T.length - x.2).toNat) (x := (x, i)) (x, i + 1) (by simp only; omega) (Tree.out_asrt.2 ⟨⟨by simp only; omega, by simp only; omega, h2⟩, ?_⟩)
      simp only
      have e : prevT x.T (i + 1) = some (rd .task x.T i) := by unfold prevT; rw [if_pos (by omega), show i + 1 - 1 = i by omega]
      rw [e]
      simpa using h
  · have hi := of_decide_eq_false hi
    rw [drop_end (by omega)] at h
    exact Rnd.out h
noncomputable def c72 : Cfg := c71.addLoop 10 4 LRm
theorem c72_good : GoodCfg c72 := c71_good.addLoop (by unfold OneLoop; kernel_rfl) lRm
theorem fineFrom_eq (now : Int) : ∀ (T : List Fu.Task), fineFrom now none T = (T.all (tkOK now) && ascT T) ∧ ∀ q, fineFrom now (some q) T = (T.all (tkOK now) && ascT (q :: T))
  | [] => ⟨rfl, fun _ => rfl⟩
  | t :: l => by
    obtain ⟨_, h2⟩ := fineFrom_eq now l
    have e : fineFrom now none (t :: l) = ((t :: l).all (tkOK now) && ascT (t :: l)) := by
      show (true && (tkOK now t && fineFrom now (some t) l)) = _
      rw [h2 t, List.all_cons, Bool.true_and, Bool.and_assoc]
    refine ⟨e, fun q => ?_⟩
    show (decide (q.ID < t.ID) && (tkOK now t && fineFrom now (some t) l)) = ((t :: l).all (tkOK now) && (decide (q.ID < t.ID) && ascT (t :: l)))
    rw [h2 t, List.all_cons]
    cases decide (q.ID < t.ID) <;> cases tkOK now t <;> cases l.all (tkOK now) <;> cases ascT (t :: l) <;> rfl
def badW (w : Fu.World) : Bool := decide (w.Now < 0) || (decide (w.Now > 274877906944) || (decide ((w.T.length : Int) > 4) || (decide (w.Cur < -1) || (decide (w.Cur > 549755813888) || !mayA w.A w.Now))))
def mayWT (w : Fu.World) : Tree (AV × List Blk) :=
  .asrt (decide (w.Now < 0) = false → decide (w.Now > 274877906944) = false → decide ((w.T.length : Int) > 4) = false → decide (w.Cur < -1) = false → decide (w.Cur > 549755813888) = false → (w.A.length : Int) < 17592186044416)
    (.ite (badW w) noB (.asrt (1 = 1 ∧ TRm (w, 0) = TRm (w, 0)) (.asrt (0 ≤ (0 : Int) ∧ (0 : Int) ≤ w.T.length ∧ (w.T.length : Int) ≤ 17592186044415)
      (.ite (fineFrom w.Now (prevT w.T 0) (w.T.drop (0 : Int).toNat)) (.asrt ((w.A.length : Int) < 17592186044416 ∧ smallIDs w.A) (.ret (.bool (ascA w.A), []))) noB))))
theorem fRelMay (w : Fu.World) : callC c72 80 10 [.agg (encW w)] = mayWT w := by kernel_rfl
def conMayW : Con := flatCon (d1 dWorld) smallW fun w => .bool (mayW w)
theorem mayWT_rez {w : Fu.World} (h : smallW w) : Rez (mayWT w) (.bool (mayW w), []) := by
  obtain ⟨h1, h2⟩ := h
  refine .asrt (fun _ _ _ _ _ => by omega) ?_
  have e : mayW w = (!badW w && ((w.T.all (tkOK w.Now) && ascT w.T) && ascA w.A)) := rfl
  rw [e]
  cases hb : badW w with
  | true => exact .itet rfl (noB_rez rfl)
  | false =>
    refine .itee rfl (.asrt ⟨rfl, rfl⟩ (.asrt ⟨Int.le_refl _, by omega, by omega⟩ ?_))
    rw [show prevT w.T 0 = none from rfl, show (0 : Int).toNat = 0 from rfl, List.drop_zero, (fineFrom_eq w.Now w.T).1]
    cases hf : (w.T.all (tkOK w.Now) && ascT w.T) with
    | false => exact .itee rfl (noB_rez rfl)
    | true =>
      refine .itet rfl (.asrt ⟨by omega, ?_⟩ (retB rfl))
      have hm : mayA w.A w.Now = true := by
        unfold badW at hb
        simp only [Bool.or_eq_false_iff, Bool.not_eq_false'] at hb
        exact hb.2.2.2.2.2
      unfold mayA at hm
      simp only [Bool.and_eq_true, List.all_eq_true] at hm
      exact fun a ha => (apeOK_iff.1 (hm.1 a ha)).1
theorem conMayW_valid : ValidCon c72.P 10 conMayW := flatCon_valid c72_good 80 (by kernel_rfl) fun w h => ⟨_, fRelMay w, mayWT_rez h⟩
noncomputable def c73 : Cfg := c72.addQuiet 10 conMayW
theorem c73_good : GoodCfg c73 := c72_good.addQuiet conMayW_valid flatCon_quiet
end Go.Fx
