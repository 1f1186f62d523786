import Derived.Test.YtneflbpekennkaaGreatB43
/- Contracts: outcomes of which enough are good. -/
namespace Go.Fx
open Go Go.Proofs

/-- Too few, of so many from some place on. -/
def fewI (B m k i : Int) : Bool := decide (onesV (andI .u64 (shrI .u64 B i) (maskV k)) < m)
abbrev AFn := Fu.Ring × Int × Int
def TFn (x : AFn × Int) : St := ⟨puts (J 35) [(1, .int .i64 x.1.2.1), (2, .int .i64 x.1.2.2), (7, .ptr 1 0), (8, .int .i64 x.2)], [(1, .cells (encRing x.1.1))], 2⟩
def sFn : List Sh := sets (Js 35) [(1, .int), (2, .int), (7, .keep), (8, .int)]
def eFn : List Sh := sets (Js 35) [(6, .keep)]
def RFn : Ex × St := (.ret, ⟨puts (J 35) [(6, .blit false)], [], 2⟩)
def EFn : Ex × St := (.exit 0, ⟨J 35, [], 2⟩)
theorem bFn (x : AFn) (i : Int) : roundN c140 60 19 (loopAt c140.P 19 5) (norm2 2 [] [1] sFn) (norm2 2 [] [] eFn) (TFn (x, i)) =
    .ite (decide (IntKind.i64.wrap (i + x.2.2) ≤ x.1.N)) (.asrt (0 ≤ i) (.asrt (0 ≤ x.2.2) (.ite (fewI x.1.B x.2.1 x.2.2 i) (.ret RFn) (.ret (.normal, TFn (x, IntKind.i64.wrap (i + 1))))))) (.ret EFn) := by kernel_rfl
def gFn (σ : St) : Option (AFn × Int) :=
  match nth σ.tmps 1, nth σ.tmps 2, nth σ.tmps 8, σ.heap with
  | .int .i64 m, .int .i64 k, .int .i64 i, [(_, .cells [.int .i64 n, .int .u64 b])] => some ((⟨n, b⟩, m, k), i)
  | _, _, _, _ => none
def okFn (x : AFn × Int) : Prop := (0 ≤ x.2 ∧ x.2 ≤ 61 ∧ x.1.1.N ≤ 60 ∧ 1 ≤ x.1.2.2 ∧ x.1.2.2 ≤ 6) ∧ ∀ i : Int, 0 ≤ i → i + x.1.2.2 ≤ x.1.1.N → fewI x.1.1.B x.1.2.1 x.1.2.2 i = false
def LxFn (x : AFn × Int) : Tree (Ex × St) := .asrt (okFn x) (.ret EFn)
def LFn : LoopCon := entry 2 (norm2 2 [] [1] sFn) TFn gFn LxFn
theorem lFn (hs : SubOf c140.P 19 (.loop (loopAt c140.P 19 5))) : SoundLoop c140 (loopAt c140.P 19 5) LFn := by
  refine loop_rule3 (C := c140) (g := 19) (l := 5) c140_good 60 2 _ _ (Weak.norm2 2 [] [1] sFn) (Weak.norm2 2 [] [] eFn) hs TFn LxFn (fun x => (61 - x.2).toNat) (fun x q h => ?_) entry_out
  obtain ⟨x, i⟩ := x
  obtain ⟨⟨⟨h0, h1, h2, h3, h4⟩, hall⟩, h⟩ := Tree.out_asrt.1 h
  simp only at h0 h1 h2 h3 h4 hall
  refine .of_eq (bFn x i) ?_
  rw [wrap_fits (n := i + x.2.2) (by omega) (by omega), wrap_fits (n := i + 1) (by omega) (by omega)]
  refine Tree.wp_ite.2 ⟨fun hi => ?_, fun hi => Rnd.out h⟩
  have hi : i + x.2.2 ≤ x.1.N := of_decide_eq_true hi
  refine ⟨h0, by omega, Tree.wp_ite.2 ⟨fun hb => ?_, fun _ => ?_⟩⟩
  · rw [hall i h0 hi] at hb
    cases hb
  · exact Rnd.go (m := fun x : AFn × Int => (61 - x.2).toNat) (x := (x, i)) (x, i + 1) (by simp only; omega) (Tree.out_asrt.2 ⟨⟨⟨by simp only; omega, by simp only; omega, h2, h3, h4⟩, hall⟩, h⟩)
noncomputable def c141 : Cfg := c140.addLoop 19 5 LFn
theorem c141_good : GoodCfg c141 := c140_good.addLoop (by unfold OneLoop; kernel_rfl) lFn
/-- Are enough good, of each so many? -/
def FineP (h : Fu.Ring) (m k : Int) : Prop := mayP m k = true → ∀ i : Int, 0 ≤ i → i + k ≤ (ofRing h).N → fewI (ofRing h).B m k i = false
theorem fFine (h : Fu.Ring) (m k : Int) : callC c141 60 19 [.agg (encRing h), .int .i64 m, .int .i64 k] =
    .ite (!mayP m k) (.ret (.blit true, [])) (.asrt (2 = 2 ∧ TFn ((ofRing h, m, k), 0) = TFn ((ofRing h, m, k), 0)) (.asrt (okFn ((ofRing h, m, k), 0)) (.ret (.blit true, [])))) := by kernel_rfl
def conFine : Con := flatCon (d3 dRing dInt dInt) (fun x => FineP x.1 x.2.1 x.2.2) fun _ => .bool true
theorem conFine_valid : ValidCon c141.P 19 conFine := flatCon_valid c141_good 60 (by kernel_rfl) fun ⟨h, m, k⟩ hx => ⟨_, fFine h m k, by
  refine ite_rez (fun _ => .ret (.blit rfl) rfl) fun hm => ?_
  have hm : mayP m k = true := by simpa using hm
  have hk : 1 ≤ k ∧ k ≤ 6 := by
    unfold mayP at hm
    simp only [Bool.and_eq_true, decide_eq_true_eq] at hm
    omega
  have hN := ofRing_N h
  exact .asrt ⟨rfl, rfl⟩ (.asrt ⟨⟨Int.le_refl _, by simp only; omega, hN.2, hk.1, hk.2⟩, hx hm⟩ (.ret (.blit rfl) rfl))⟩
noncomputable def c142 : Cfg := c141.addQuiet 19 conFine
theorem c142_good : GoodCfg c142 := c141_good.addQuiet conFine_valid flatCon_quiet
end Go.Fx
