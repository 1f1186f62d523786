import Derived.Test.YtneflbpekennkaaGreatB35
/- Contracts: jobs that need not run. -/
namespace Go.Fx
open Go Go.Proofs

def cmpI (a b : Int) : Int := bif decide (a < b) then -1 else bif decide (a > b) then 1 else 0
theorem fCmpI (a b : Int) : callC c99 60 160 [.int .i64 a, .int .i64 b] = .ite (a != a) (.ite (b != b) (.ret (.lit .i64 0, [])) (.ret (.lit .i64 (-1), []))) (.ite (b != b) (.ret (.lit .i64 1, [])) (.ite (decide (a < b)) (.ret (.lit .i64 (-1), [])) (.ite (decide (a > b)) (.ret (.lit .i64 1, [])) (.ret (.lit .i64 0, []))))) := by kernel_rfl
def conCmpI : Con := plainCon (d2 dInt dInt) fun x => .int .i64 (cmpI x.1 x.2)
theorem conCmpI_valid : ValidCon c99.P 160 conCmpI := plainCon_valid c99_good 60 (by kernel_rfl) fun x => ⟨_, fCmpI x.1 x.2, by
  unfold cmpI
  refine .itee (by simp) (.itee (by simp) ?_)
  refine ite_rez (fun h => .ret (.lit (by rw [h]; rfl)) rfl) fun h => ite_rez (fun h2 => .ret (.lit (by rw [h, h2]; rfl)) rfl) fun h2 => .ret (.lit (by rw [h, h2]; rfl)) rfl⟩
noncomputable def c100 : Cfg := c99.addQuiet 160 conCmpI
theorem c100_good : GoodCfg c100 := c99_good.addQuiet conCmpI_valid plainCon_quiet
abbrev ACl := List Int × List Int
def TCl (x : ACl × Int) : St := ⟨puts (J 36) [(0, .view (.int .i64) x.1.1), (1, .view (.int .i64) x.1.2), (9, .view (.int .i64) x.1.1), (10, .int .i64 x.1.1.length), (11, .int .i64 x.2)], [], 0⟩
def sCl : List Sh := sets (Js 36) [(0, .keep), (1, .keep), (9, .keep), (10, .int), (11, .int)]
def eCl (σ : St) : St := outE 0 4 [] [] (sets (Js 36) [(4, .int)]) (sets (Js 36) [(0, .keep), (1, .keep), (4, .int)]) σ
def RCl (n : Int) : Ex × St := (.ret, ⟨puts (J 36) [(4, .int .i64 n)], [], 0⟩)
def QCl (x : ACl) (n : Int) : Ex × St := (.ret, ⟨puts (J 36) [(0, .view (.int .i64) x.1), (1, .view (.int .i64) x.2), (4, .int .i64 n)], [], 0⟩)
def ECl (x : ACl) : Ex × St := (.exit 0, ⟨puts (J 36) [(0, .view (.int .i64) x.1), (1, .view (.int .i64) x.2)], [], 0⟩)
theorem bCl1 (x : ACl) (i : Int) : roundN c100 60 159 (loopAt c100.P 159 2) (norm2 0 [] [] sCl) eCl (TCl (x, i)) =
    .ite (decide (i < (x.1.length : Int))) (.asrt (0 ≤ i ∧ i < (x.1.length : Int)) (.ite (decide (i ≥ (x.2.length : Int))) (.ret (RCl 1)) (.asrt (0 ≤ i ∧ i < (x.2.length : Int)) (.ite (cmpI (rd (.int .i64) x.1 i) (rd (.int .i64) x.2 i) != 0) (.ret (QCl x (cmpI (rd (.int .i64) x.1 i) (rd (.int .i64) x.2 i))))
      (.ret (.normal, TCl (x, IntKind.i64.wrap (i + 1)))))))) (.ret (ECl x)) := by kernel_rfl
def gCl (σ : St) : Option (ACl × Int) :=
  match nth σ.tmps 0, nth σ.tmps 1, nth σ.tmps 11 with
  | .view (.int .i64) a, .view (.int .i64) b, .int .i64 i => some ((a, b), i)
  | _, _, _ => none
/-- Two lists held against one another, one by one; of no unlike length. -/
def cmpF : List Int → List Int → Option Int
  | a :: l, b :: m => bif cmpI a b != 0 then some (cmpI a b) else cmpF l m
  | _, _ => none
def LxCl (x : ACl × Int) : Tree (Ex × St) := .asrt (0 ≤ x.2 ∧ x.2 ≤ (x.1.1.length : Int) ∧ x.1.1.length = x.1.2.length ∧ (x.1.1.length : Int) < 17592186044416) (optT 0 (cmpF (x.1.1.drop x.2.toNat) (x.1.2.drop x.2.toNat)) (fun n => .ret (QCl x.1 n)) (.ret (ECl x.1)))
def LCl : LoopCon := entry 0 (norm2 0 [] [] sCl) TCl gCl LxCl
theorem lCl1 (hs : SubOf c100.P 159 (.loop (loopAt c100.P 159 2))) : SoundLoop c100 (loopAt c100.P 159 2) LCl := by
  refine loop_rule3 (C := c100) (g := 159) (l := 2) c100_good 60 0 _ _ (Weak.norm2 0 [] [] sCl) (weak_outE 0 4 [] [] (sets (Js 36) [(4, .int)]) (sets (Js 36) [(0, .keep), (1, .keep), (4, .int)])) hs TCl LxCl (fun x => (x.1.1.length - x.2).toNat) (fun x q h => ?_) entry_out
  obtain ⟨⟨a, b⟩, i⟩ := x
  obtain ⟨⟨h0, h1, h2, h3⟩, h⟩ := Tree.out_asrt.1 h
  simp only at h0 h1 h2 h3 h
  refine .of_eq (bCl1 (a, b) i) ?_
  simp only
  rw [wrap_fits (n := i + 1) (by omega) (by omega)]
  refine Tree.wp_ite.2 ⟨fun hi => ?_, fun hi => ?_⟩
  · have hi : i < (a.length : Int) := of_decide_eq_true hi
    have ha : a.drop i.toNat = rd (.int .i64) a i :: a.drop (i + 1).toNat := drop_rd (r := .int .i64) h0 hi
    have hb : b.drop i.toNat = rd (.int .i64) b i :: b.drop (i + 1).toNat := drop_rd (r := .int .i64) h0 (by show i < (b.length : Int); omega)
    rw [ha, hb] at h
    unfold cmpF at h
    refine ⟨⟨h0, hi⟩, Tree.wp_ite.2 ⟨fun hc => ?_, fun _ => ⟨⟨h0, by omega⟩, Tree.wp_ite.2 ⟨fun hb => ?_, fun hb => ?_⟩⟩⟩⟩
    · have := of_decide_eq_true hc; omega
    · rw [hb] at h; exact Rnd.ret (optT_out.1 h)
    · rw [hb] at h
      exact Rnd.go (m := fun x : ACl × Int => (x.1.1.length - x.2).toNat) (x := ((a, b), i)) ((a, b), i + 1) (by simp only; omega) (Tree.out_asrt.2 ⟨⟨by simp only; omega, by simp only; omega, h2, h3⟩, h⟩)
  · have hi : ¬ i < (a.length : Int) := of_decide_eq_false hi
    have e : a.drop i.toNat = [] := by rw [List.drop_eq_nil_iff]; omega
    rw [e] at h
    exact Rnd.out (optT_out.1 h)
noncomputable def c101 : Cfg := c100.addLoop 159 2 LCl
theorem c101_good : GoodCfg c101 := c100_good.addLoop (by unfold OneLoop; kernel_rfl) lCl1
def cmpLT (a b : List Int) : Tree (AV × List Blk) := .asrt (0 = 0 ∧ TCl ((a, b), 0) = TCl ((a, b), 0)) (.asrt (0 ≤ (0 : Int) ∧ (0 : Int) ≤ (a.length : Int) ∧ a.length = b.length ∧ (a.length : Int) < 17592186044416)
  (.ite (cmpF (a.drop (0 : Int).toNat) (b.drop (0 : Int).toNat)).isSome (.ret (.int .i64 ((cmpF (a.drop (0 : Int).toNat) (b.drop (0 : Int).toNat)).getD 0), [])) (.ite (decide ((a.length : Int) < b.length)) (.ret (.lit .i64 (-1), [])) (.ret (.lit .i64 0, [])))))
theorem fCmpL (a b : List Int) : callC c101 60 159 [.view (.int .i64) a, .view (.int .i64) b] = cmpLT a b := by kernel_rfl
def cmpL (a b : List Int) : Int := (cmpF a b).getD 0
def conCmpL : Con := flatCon (d2 (dView (.int .i64)) (dView (.int .i64))) (fun x => (x.1 : List Int).length = (x.2 : List Int).length ∧ ((x.1 : List Int).length : Int) < 17592186044416) fun x => .int .i64 (cmpL x.1 x.2)
theorem conCmpL_valid : ValidCon c101.P 159 conCmpL := flatCon_valid c101_good 60 (by kernel_rfl) fun x h => ⟨_, fCmpL x.1 x.2, by
  obtain ⟨h1, h2⟩ := h
  refine .asrt ⟨rfl, rfl⟩ (.asrt ⟨Int.le_refl _, by omega, h1, h2⟩ ?_)
  rw [show (0 : Int).toNat = 0 from rfl, List.drop_zero, List.drop_zero]
  unfold cmpL
  cases hc : cmpF x.1 x.2 with
  | some n => exact .itet rfl (.ret (.refl _) rfl)
  | none => exact .itee rfl (.itee (decide_eq_false (by omega)) (.ret (.lit rfl) rfl))⟩
noncomputable def c102 : Cfg := c101.addQuiet 159 conCmpL
theorem c102_good : GoodCfg c102 := c101_good.addQuiet conCmpL_valid flatCon_quiet
def leftJ (j : Fu.Job) : Int := bif j.On then maxI (minI (IntKind.i64.wrap (j.C - j.Ran)) (IntKind.i64.wrap (j.D - j.Ran))) 0 else 0
theorem fLeftJ (j : Fu.Job) : callC c102 60 155 [.agg (encJob j)] = .ite (!j.On) (.ret (.lit .i64 0, [])) (.ret (.int .i64 (maxI (minI (IntKind.i64.wrap (j.C - j.Ran)) (IntKind.i64.wrap (j.D - j.Ran))) 0), [])) := by kernel_rfl
def conLeftJ : Con := plainCon (d1 dJob) fun j => .int .i64 (leftJ j)
theorem conLeftJ_valid : ValidCon c102.P 155 conLeftJ := plainCon_valid c102_good 60 (by kernel_rfl) fun j => ⟨_, fLeftJ j, by
  unfold leftJ
  exact ite_rez (fun h => .ret (.lit (by rw [show j.On = false by simpa using h]; rfl)) rfl) fun h => .ret (.eq (by rw [show j.On = true by simpa using h]; rfl)) rfl⟩
noncomputable def c103 : Cfg := c102.addQuiet 155 conLeftJ
theorem c103_good : GoodCfg c103 := c102_good.addQuiet conLeftJ_valid plainCon_quiet
def ones1 (m k x : Int) : Int := IntKind.u64.wrap (andI .u64 (shrI .u64 x k) m + andI .u64 x m)
def ones2 (k x : Int) : Int := IntKind.u64.wrap (x + shrI .u64 x k)
def onesV (x : Int) : Int := andI .i64 (IntKind.i64.wrap (ones2 32 (ones2 16 (ones2 8 (andI .u64 (IntKind.u64.wrap (shrI .u64 (ones1 3689348814741910323 2 (ones1 6148914691236517205 1 x)) 4 + ones1 3689348814741910323 2 (ones1 6148914691236517205 1 x))) 1085102592571150095))))) 127
theorem fOnes (x : Int) : callC c103 60 45 [.int .u64 x] = .ret (.int .i64 (onesV x), []) := by kernel_rfl
def conOnes : Con := plainCon (d1 (dI .u64)) fun x => .int .i64 (onesV x)
theorem conOnes_valid : ValidCon c103.P 45 conOnes := plainCon_valid c103_good 60 (by kernel_rfl) fun x => ⟨_, fOnes x, .ret (.refl _) rfl⟩
noncomputable def c104 : Cfg := c103.addQuiet 45 conOnes
theorem c104_good : GoodCfg c104 := c103_good.addQuiet conOnes_valid plainCon_quiet
abbrev AFr := Int × Int × Int
def TFr (x : AFr × Int) : St := ⟨puts (J 43) [(1, .int .i64 x.1.1), (2, .int .i64 x.1.2.1), (8, .int .u64 x.1.2.2), (27, .int .i64 x.1.2.1), (28, .int .i64 x.2)], [], 90⟩
def sFr : List Sh := sets (Js 43) [(1, .int), (2, .int), (8, .int), (27, .int), (28, .int)]
def eFr (σ : St) : St := norm2 90 [] [] (sets (Js 43) [(2, .int), (6, .int)]) σ
def RFr (x : AFr × Int) : Ex × St := (.ret, ⟨puts (J 43) [(2, .int .i64 x.1.2.1), (6, .int .i64 x.2)], [], 90⟩)
def EFr (x : AFr) : Ex × St := (.exit 0, ⟨puts (J 43) [(2, .int .i64 x.2.1)], [], 90⟩)
def fewF (x : AFr) (i : Int) : Bool := decide (onesV (andI .u64 x.2.2 (maskV (IntKind.i64.wrap (x.2.1 - i)))) < x.1)
theorem bFr1 (x : AFr) (i : Int) : roundN c104 60 156 (loopAt c104.P 156 6) (norm2 90 [] [] sFr) eFr (TFr (x, i)) =
    .ite (decide (i < x.2.1)) (.asrt (0 ≤ IntKind.i64.wrap (x.2.1 - i)) (.ite (fewF x i) (.ret (RFr (x, i))) (.ret (.normal, TFr (x, IntKind.i64.wrap (i + 1)))))) (.ret (EFr x)) := by kernel_rfl
def gFr (σ : St) : Option (AFr × Int) :=
  match nth σ.tmps 1, nth σ.tmps 2, nth σ.tmps 8, nth σ.tmps 28 with
  | .int .i64 m, .int .i64 k, .int .u64 v, .int .i64 i => some ((m, k, v), i)
  | _, _, _, _ => none
def brkFr (x : AFr) (i : Int) : Option (AFr × Int) := bif fewF x i then some (x, i) else none
def nxtFr (x : AFr) (_ : Int) : AFr := x
def okFr (x : AFr) (_ : Int) : Prop := x.2.1 ≤ 60
def LFr : LoopCon := boundB 90 (norm2 90 [] [] sFr) TFr gFr (fun x => x.2.1) okFr nxtFr brkFr ((0, 0, 0), 0) RFr EFr
theorem lFr (hs : SubOf c104.P 156 (.loop (loopAt c104.P 156 6))) : SoundLoop c104 (loopAt c104.P 156 6) LFr :=
  bound_loop (C := c104) (g := 156) (l := 6) c104_good 60 90 _ _ (Weak.norm2 90 [] [] sFr) (Weak.norm2 90 [] [] (sets (Js 43) [(2, .int), (6, .int)])) hs TFr gFr (fun x => x.2.1) okFr nxtFr brkFr ((0, 0, 0), 0) RFr EFr
    (fun _ => by intro h; cases h) (fun _ => by intro h; cases h) (fun _ _ => rfl)
    (fun x i h0 hi hm hok => .of_eq (bFr1 x i) (by
      unfold maxI64 at hm
      have hok : x.2.1 ≤ 60 := hok
      rw [wrap_fits (n := i + 1) (by omega) (by omega), wrap_fits (n := x.2.1 - i) (by omega) (by omega)]
      refine (Tree.out_ite_true (decide_eq_true hi)).2 ⟨by omega, ?_⟩
      unfold brkFr
      cases h : fewF x i with
      | true => exact (Tree.out_ite_true rfl).2 rfl
      | false => exact (Tree.out_ite_false rfl).2 rfl))
    (fun x i hi => .of_eq (bFr1 x i) ((Tree.out_ite_false (decide_eq_false (by omega))).2 rfl))
noncomputable def c105 : Cfg := c104.addLoop 156 6 LFr
theorem c105_good : GoodCfg c105 := c104_good.addLoop (by unfold OneLoop; kernel_rfl) lFr
def farX0 (h : Fu.Ring) (m k : Int) : AFr := (m, k, orI .u64 (ofRing h).B (shlI .u64 (maskV k) (ofRing h).N))
/-- How far a ring is from too few. -/
def farV (h : Fu.Ring) (m k : Int) : Int := bif mayP m k then (match brkI nxtFr brkFr (k - 0).toNat (farX0 h m k) 0 with | some b => b.2 | none => k) else k
def farT (h : Fu.Ring) (m k : Int) : Tree (AV × List Blk) := .ite (!mayP m k) (.ret (.int .i64 k, [])) (.asrt (0 ≤ k) (.asrt (0 ≤ (ofRing h).N) (.asrt (90 = 90 ∧ TFr (farX0 h m k, 0) = TFr (farX0 h m k, 0)) (.asrt (0 ≤ (0 : Int) ∧ k ≤ maxI64 ∧ okI nxtFr brkFr okFr (k - 0).toNat (farX0 h m k) 0)
  (.ite (brkI nxtFr brkFr (k - 0).toNat (farX0 h m k) 0).isSome (.ret (.int .i64 ((brkI nxtFr brkFr (k - 0).toNat (farX0 h m k) 0).getD ((0, 0, 0), 0)).2, [])) (.ret (.int .i64 (foldI nxtFr (k - 0).toNat (farX0 h m k) 0).2.1, [])))))))
theorem fFar (h : Fu.Ring) (m k : Int) : callC c105 60 156 [.agg (encRing h), .int .i64 m, .int .i64 k] = farT h m k := by kernel_rfl
theorem okFr_all (x : AFr) (h : x.2.1 ≤ 60) : ∀ (k : Nat) (i : Int), okI nxtFr brkFr okFr k x i
  | 0, _ => trivial
  | k + 1, i => ⟨h, fun _ => okFr_all x h k (i + 1)⟩
theorem foldFr (x : AFr) : ∀ (k : Nat) (i : Int), foldI nxtFr k x i = x
  | 0, _ => rfl
  | k + 1, i => foldFr x k (i + 1)
def conFar : Con := plainCon (d3 dRing dInt dInt) fun x => .int .i64 (farV x.1 x.2.1 x.2.2)
theorem conFar_valid : ValidCon c105.P 156 conFar := plainCon_valid c105_good 60 (by kernel_rfl) fun ⟨h, m, k⟩ => ⟨_, fFar h m k, by
  show Rez (farT h m k) (.int .i64 (farV h m k), [])
  unfold farV
  cases hm : mayP m k with
  | false => exact .itet (by rw [hm]; rfl) (.ret (.refl _) rfl)
  | true =>
    have hk : 1 ≤ k ∧ k ≤ 60 := by
      unfold mayP at hm
      simp only [Bool.and_eq_true, decide_eq_true_eq] at hm
      omega
    have hr := ofRing_N h
    refine .itee (by rw [hm]; rfl) (.asrt (by omega) (.asrt hr.1 (.asrt ⟨rfl, rfl⟩ (.asrt ⟨Int.le_refl _, by unfold maxI64; omega, okFr_all _ hk.2 _ _⟩ ?_))))
    simp only [cond_true]
    cases hb : brkI nxtFr brkFr (k - 0).toNat (farX0 h m k) 0 with
    | some b => exact .itet rfl (.ret (.refl _) rfl)
    | none => exact .itee rfl (.ret (.eq (by rw [foldFr]; rfl)) rfl)⟩
noncomputable def c106 : Cfg := c105.addQuiet 156 conFar
theorem c106_good : GoodCfg c106 := c105_good.addQuiet conFar_valid plainCon_quiet
end Go.Fx
