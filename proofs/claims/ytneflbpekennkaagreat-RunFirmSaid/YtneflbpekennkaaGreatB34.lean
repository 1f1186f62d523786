import Derived.Test.YtneflbpekennkaaGreatB33
/- Contracts: jobs that came once: what is left, who can wait, whether all fit; what is so much more. -/
namespace Go.Fx
open Go Go.Proofs

def leftA (a : Fu.Ape) : Int := IntKind.i64.wrap (a.C - a.Ran)
theorem fLeftA (a : Fu.Ape) : callC c89 60 26 [.agg (encApe a)] = .ret (.int .i64 (leftA a), []) := by kernel_rfl
def conLeftA : Con := plainCon (d1 dApe) fun a => .int .i64 (leftA a)
theorem conLeftA_valid : ValidCon c89.P 26 conLeftA := plainCon_valid c89_good 60 (by kernel_rfl) fun a => ⟨_, fLeftA a, .ret (.refl _) rfl⟩
noncomputable def c90 : Cfg := c89.addQuiet 26 conLeftA
theorem c90_good : GoodCfg c90 := c89_good.addQuiet conLeftA_valid plainCon_quiet
def laxA (a : Fu.Ape) (now : Int) : Int := IntKind.i64.wrap (IntKind.i64.wrap (a.Due - now) - leftA a)
theorem fLaxA (a : Fu.Ape) (now : Int) : callC c90 60 82 [.agg (encApe a), .int .i64 now] = .ret (.int .i64 (laxA a now), []) := by kernel_rfl
def conLaxA : Con := plainCon (d2 dApe dInt) fun x => .int .i64 (laxA x.1 x.2)
theorem conLaxA_valid : ValidCon c90.P 82 conLaxA := plainCon_valid c90_good 60 (by kernel_rfl) fun x => ⟨_, fLaxA x.1 x.2, .ret (.refl _) rfl⟩
noncomputable def c91 : Cfg := c90.addQuiet 82 conLaxA
theorem c91_good : GoodCfg c91 := c90_good.addQuiet conLaxA_valid plainCon_quiet
/-- Is one so much more? -/
def beatsV (v s k : Int) : Bool := ((decide (0 ≤ v) && decide (v ≤ 1048576)) && ((decide (0 ≤ s) && decide (s ≤ 1048576)) && ((decide (0 ≤ k) && decide (k ≤ 1048576)) && decide (s < v)))) && decide (k * s * s < (v - s) * (v - s))
theorem fBeats (v s k : Int) : callC c91 60 105 [.int .i64 v, .int .i64 s, .int .i64 k] = .ite (!(decide (v ≥ 0) && decide (v ≤ 1048576))) noB (.ite (!(decide (s ≥ 0) && decide (s ≤ 1048576))) noB (.ite (!(decide (k ≥ 0) && decide (k ≤ 1048576))) noB (.ite (decide (v ≤ s)) noB
  (.ret (.bool (decide (IntKind.i64.wrap (IntKind.i64.wrap (v - s) * IntKind.i64.wrap (v - s)) > IntKind.i64.wrap (IntKind.i64.wrap (k * s) * s))), []))))) := by kernel_rfl
def conBeats : Con := plainCon (d3 dInt dInt dInt) fun x => .bool (beatsV x.1 x.2.1 x.2.2)
theorem conBeats_valid : ValidCon c91.P 105 conBeats := plainCon_valid c91_good 60 (by kernel_rfl) fun ⟨v, s, k⟩ => ⟨_, fBeats v s k, by
  show Rez _ (.bool (beatsV v s k), [])
  refine ite_rez (fun h1 => noB_rez ?_) fun h1 => ite_rez (fun h2 => noB_rez ?_) fun h2 => ite_rez (fun h3 => noB_rez ?_) fun h3 => ite_rez (fun h4 => noB_rez ?_) fun h4 => retB ?_
  · unfold beatsV; simp only [ge_iff_le] at h1; rw [Bool.not_eq_true'] at h1; rw [h1]; rfl
  · unfold beatsV; simp only [ge_iff_le] at h2; rw [Bool.not_eq_true'] at h2; rw [h2]; simp
  · unfold beatsV; simp only [ge_iff_le] at h3; rw [Bool.not_eq_true'] at h3; rw [h3]; simp
  · unfold beatsV; rw [decide_eq_false (p := s < v) (by have := of_decide_eq_true h4; omega)]; simp
  · simp only [Bool.not_eq_false', Bool.and_eq_true, decide_eq_true_eq, decide_eq_false_iff_not] at h1 h2 h3 h4
    unfold beatsV
    rw [decide_eq_true (p := 0 ≤ v) (by omega), decide_eq_true (p := v ≤ 1048576) (by omega), decide_eq_true (p := 0 ≤ s) (by omega), decide_eq_true (p := s ≤ 1048576) (by omega), decide_eq_true (p := 0 ≤ k) (by omega), decide_eq_true (p := k ≤ 1048576) (by omega), decide_eq_true (p := s < v) (by omega)]
    have e1 : 0 ≤ (v - s) * (v - s) ∧ (v - s) * (v - s) ≤ 1048576 * 1048576 := mul_le_of (by omega) (by omega) (by omega) (by omega)
    have e2 : 0 ≤ k * s ∧ k * s ≤ 1048576 * 1048576 := mul_le_of (by omega) (by omega) (by omega) (by omega)
    have e3 : 0 ≤ k * s * s ∧ k * s * s ≤ 1048576 * 1048576 * 1048576 := mul_le_of (by omega) (by omega) (by omega) (by omega)
    rw [wrap_fits (n := v - s) (by omega) (by omega), wrap_fits (n := (v - s) * (v - s)) (by omega) (by omega), wrap_fits (n := k * s) (by omega) (by omega), wrap_fits (n := k * s * s) (by omega) (by omega)]
    rfl⟩
noncomputable def c92 : Cfg := c91.addQuiet 105 conBeats
theorem c92_good : GoodCfg c92 := c91_good.addQuiet conBeats_valid plainCon_quiet
abbrev AFi := List Fu.Ape × Int
def TFi (x : AFi × Int) : St := ⟨puts (J 23) [(1, .int .i64 x.1.2), (8, .view .ape x.1.1), (9, .int .i64 x.1.1.length), (10, .int .i64 x.2)], [], 0⟩
def sFi : List Sh := sets (Js 23) [(1, .int), (8, .keep), (9, .int), (10, .int)]
def eFi (σ : St) : St := outE 0 4 [] [] (sets (Js 23) [(4, .keep)]) (Js 23) σ
def RFi : Ex × St := (.ret, (⟨puts (J 23) [(4, .blit false)], [], 0⟩ : St))
def EFi : Ex × St := (.exit 0, ⟨J 23, [], 0⟩)
theorem bFi (l : List Fu.Ape) (now i : Int) : roundN c92 60 11 (loopAt c92.P 11 2) (norm2 0 [] [] sFi) eFi (TFi ((l, now), i)) =
    .ite (decide (i < l.length)) (.asrt (0 ≤ i ∧ i < l.length) (.ite (decide (IntKind.i64.wrap (now + leftA (rd .ape l i)) > (rd .ape l i).Due)) (.ret RFi) (.ret (.normal, TFi ((l, IntKind.i64.wrap (now + leftA (rd .ape l i))), IntKind.i64.wrap (i + 1)))))) (.ret EFi) := by kernel_rfl
def gFi (σ : St) : Option (AFi × Int) :=
  match nth σ.tmps 1, nth σ.tmps 8, nth σ.tmps 10 with
  | .int .i64 n, .view .ape l, .int .i64 i => some ((l, n), i)
  | _, _, _ => none
/-- Do all end in time, one behind the other? -/
def fitF : Int → List Fu.Ape → Bool
  | _, [] => true
  | now, a :: l => bif decide (IntKind.i64.wrap (now + leftA a) > a.Due) then false else fitF (IntKind.i64.wrap (now + leftA a)) l
def LxFi (x : AFi × Int) : Tree (Ex × St) := .asrt (0 ≤ x.2 ∧ x.2 ≤ x.1.1.length ∧ (x.1.1.length : Int) < 17592186044416) (.ite (fitF x.1.2 (x.1.1.drop x.2.toNat)) (.ret EFi) (.ret RFi))
def LFi : LoopCon := entry 0 (norm2 0 [] [] sFi) TFi gFi LxFi
theorem lFi (hs : SubOf c92.P 11 (.loop (loopAt c92.P 11 2))) : SoundLoop c92 (loopAt c92.P 11 2) LFi := by
  refine loop_rule3 (C := c92) (g := 11) (l := 2) c92_good 60 0 _ _ (Weak.norm2 0 [] [] sFi) (weak_outE 0 4 [] [] (sets (Js 23) [(4, .keep)]) (Js 23)) hs TFi LxFi (fun x => (x.1.1.length - x.2).toNat) (fun x q h => ?_) entry_out
  obtain ⟨⟨l, now⟩, i⟩ := x
  obtain ⟨⟨h0, h1, h2⟩, h⟩ := Tree.out_asrt.1 h
  simp only at h0 h1 h2 h
  refine .of_eq (bFi l now i) ?_
  rw [wrap_fits (n := i + 1) (by omega) (by omega)]
  refine Tree.wp_ite.2 ⟨fun hi => ?_, fun hi => ?_⟩
  · have hi := of_decide_eq_true hi
    rw [drop_rd (r := .ape) (xs := l) h0 hi] at h
    unfold fitF at h
    refine ⟨⟨h0, hi⟩, Tree.wp_ite.2 ⟨fun hb => ?_, fun hb => ?_⟩⟩
    · rw [hb] at h; exact Rnd.ret h
    · rw [hb] at h
      exact Rnd.go (m := fun x : AFi × Int => (x.1.1.length - x.2).toNat) (x := ((l, now), i)) ((l, IntKind.i64.wrap (now + leftA (rd .ape l i))), i + 1) (by simp only; omega) (Tree.out_asrt.2 ⟨⟨by simp only; omega, by simp only; omega, h2⟩, h⟩)
  · have hi := of_decide_eq_false hi
    rw [drop_end (xs := l) (by omega)] at h
    exact Rnd.out h
noncomputable def c93 : Cfg := c92.addLoop 11 2 LFi
theorem c93_good : GoodCfg c93 := c92_good.addLoop (by unfold OneLoop; kernel_rfl) lFi
def fitsA (l : List Fu.Ape) (now : Int) : Bool := fitF now (sortA l)
def fitsT (l : List Fu.Ape) (now : Int) : Tree (AV × List Blk) := .asrt ((l.length : Int) < 20) (.asrt (0 = 0 ∧ TFi ((sortA l, now), 0) = TFi ((sortA l, now), 0)) (.asrt (0 ≤ (0 : Int) ∧ (0 : Int) ≤ (sortA l).length ∧ ((sortA l).length : Int) < 17592186044416) (.ite (fitF now ((sortA l).drop (0 : Int).toNat)) (.ret (.blit true, [])) noB)))
theorem fFits18 (l : List Fu.Ape) (now : Int) : callC c93 60 11 [.view .ape l, .int .i64 now] = fitsT l now := by kernel_rfl
theorem foldOu_len : ∀ (k : Nat) (xs : List Fu.Ape) (i : Int), (foldI nxtOu k xs i).length = xs.length
  | 0, _, _ => rfl
  | k + 1, xs, i => by
    show (foldI nxtOu k (sinkA i.toNat xs) (i + 1)).length = _
    rw [foldOu_len k, sinkA_len]
theorem sortA_len (xs : List Fu.Ape) : (sortA xs).length = xs.length := foldOu_len _ _ _
def conFitsA : Con := flatCon (d2 (dView .ape) dInt) (fun x => (x.1.length : Int) < 20) fun x => .bool (fitsA x.1 x.2)
theorem conFitsA_valid : ValidCon c93.P 11 conFitsA := flatCon_valid c93_good 60 (by kernel_rfl) fun x h => ⟨_, fFits18 x.1 x.2, by
  have hl := sortA_len x.1
  refine .asrt h (.asrt ⟨rfl, rfl⟩ (.asrt ⟨Int.le_refl _, by omega, by rw [hl]; omega⟩ ?_))
  rw [show (0 : Int).toNat = 0 from rfl, List.drop_zero]
  unfold fitsA
  cases hf : fitF x.2 (sortA x.1) with
  | true => exact .itet rfl (.ret (.blit rfl) rfl)
  | false => exact .itee rfl (noB_rez rfl)⟩
noncomputable def c94 : Cfg := c93.addQuiet 11 conFitsA
theorem c94_good : GoodCfg c94 := c93_good.addQuiet conFitsA_valid flatCon_quiet
end Go.Fx
