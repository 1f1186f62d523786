import Derived.Test.YtdpcphkhkhdbnaaR9
import Derived.Test.YtdpcphkhkhdbnaaPlT
/- The law ChooseBands. -/
namespace Go.Fx
open Go Go.Proofs
theorem fFar17 (w : Fu.World) : callC c134 60 34 [.agg (encW w)] = .asrt (smallW w) (.ite (nearW w) (.ret (.lit .i64 0, [])) (.ret (.lit .i64 1, []))) := by kernel_rfl
def farW (w : Fu.World) : Int := bif nearW w then 0 else 1
def conFarW : Con := flatCon (d1 dWorld) smallW fun w => .int .i64 (farW w)
theorem conFarW_valid : ValidCon c134.P 34 conFarW := flatCon_valid c134_good 60 (by kernel_rfl) fun w h => ⟨_, fFar17 w, by
  unfold farW
  exact .asrt h (ite_rez (fun hn => .ret (.lit (by rw [hn]; rfl)) rfl) fun hn => .ret (.lit (by rw [hn]; rfl)) rfl)⟩
noncomputable def c135 : Cfg := c134.addQuiet 34 conFarW
theorem c135_good : GoodCfg c135 := c134_good.addQuiet conFarW_valid flatCon_quiet
abbrev ACb := Fu.World × Bool
def TCb (x : ACb × Int) : St := ⟨puts (J 64) [(1, .ptr 0 0), (3, .blit true), (4, .bool x.1.2), (5, .int .i64 x.2)], [(0, .cells (encW x.1.1))], 1⟩
def sCb : List Sh := sets (Js 64) [(1, .keep), (3, .keep), (4, .bool), (5, .int)]
def eCb : List Sh := sets (Js 64) [(1, .keep), (3, .keep), (4, .bool)]
def ECb (x : ACb) : Ex × St := (.exit 0, ⟨puts (J 64) [(1, .ptr 0 0), (3, .blit true), (4, .bool x.2)], [(0, .cells (encW x.1))], 1⟩)
def kOK (t : Fu.Task) : Bool := decide (t.S.K ≤ 1000)
theorem bCb (x : ACb) (i : Int) : roundN c135 60 12 (loopAt c135.P 12 4) (norm2 1 [] [0] sCb) (norm2 1 [] [0] eCb) (TCb (x, i)) =
    .ite (decide (i < x.1.T.length) && x.2) (.asrt (0 ≤ i ∧ i < x.1.T.length) (.ret (.normal, TCb ((x.1, kOK (rd .task x.1.T i)), IntKind.i64.wrap (i + 1))))) (.ret (ECb x)) := by kernel_rfl
def gCb (σ : St) : Option (ACb × Int) :=
  match nth σ.tmps 4, nth σ.tmps 5, σ.heap with
  | .bool b, .int .i64 i, [(_, .cells [.int .i64 a, .view .task t, .view .ape q, .int .i64 c])] => some ((⟨a, t, q, c⟩, b), i)
  | _, _, _ => none
def LxCb (x : ACb × Int) : Tree (Ex × St) := .asrt (0 ≤ x.2 ∧ x.2 ≤ x.1.1.T.length ∧ (x.1.1.T.length : Int) < 17592186044416) (.ret (ECb (x.1.1, x.1.2 && (x.1.1.T.drop x.2.toNat).all kOK)))
def LCb : LoopCon := entry 1 (norm2 1 [] [0] sCb) TCb gCb LxCb
theorem lCb (hs : SubOf c135.P 12 (.loop (loopAt c135.P 12 4))) : SoundLoop c135 (loopAt c135.P 12 4) LCb := by
  refine loop_rule3 (C := c135) (g := 12) (l := 4) c135_good 60 1 _ _ (Weak.norm2 1 [] [0] sCb) (Weak.norm2 1 [] [0] eCb) hs TCb LxCb (fun x => (x.1.1.T.length - x.2).toNat) (fun x q h => ?_) entry_out
  obtain ⟨⟨w, ok⟩, i⟩ := x
  obtain ⟨⟨h0, h1, h2⟩, h⟩ := Tree.out_asrt.1 h
  simp only at h0 h1 h2 h
  refine .of_eq (bCb (w, ok) i) ?_
  simp only
  rw [wrap_fits (n := i + 1) (by omega) (by omega)]
  refine Tree.wp_ite.2 ⟨fun hi => ?_, fun hi => ?_⟩
  · rw [Bool.and_eq_true, decide_eq_true_eq] at hi
    obtain ⟨hi, rfl⟩ := hi
    rw [drop_rd (r := .task) (xs := w.T) h0 hi, List.all_cons, Bool.true_and] at h
    exact ⟨⟨h0, hi⟩, Rnd.go (m := fun x : ACb × Int => (x.1.1.T.length - x.2).toNat) (x := ((w, true), i)) ((w, kOK (rd .task w.T i)), i + 1) (by simp only; omega) (Tree.out_asrt.2 ⟨⟨by simp only; omega, by simp only; omega, h2⟩, h⟩)⟩
  · rw [Bool.and_eq_false_iff, decide_eq_false_iff_not] at hi
    have e : (ok && (w.T.drop i.toNat).all kOK) = ok := by
      rcases hi with hi | hi
      · rw [drop_end (xs := w.T) (by omega)]; simp
      · rw [hi]; rfl
    rw [e] at h
    exact Rnd.out h
noncomputable def c136 : Cfg := c135.addLoop 12 4 LCb
theorem c136_good : GoodCfg c136 := c135_good.addLoop (by unfold OneLoop; kernel_rfl) lCb
def n2B : Int := IntKind.i64.wrap (1 + 1)
def n3B : Int := IntKind.i64.wrap (n2B + 1)
def isB (w : Fu.World) (n : Int) (i : Int) : Tree (AV × List Blk) := .ret (.bool ((whoW w).1 == n && (whoW w).2 == i), [])
def nearB (w : Fu.World) : Bool := farW w == 0 && (w.T.drop (0 : Int).toNat).all kOK
def cbT (w : Fu.World) : Tree (AV × List Blk) := .asrt (smallW w) (.asrt (1 = 1 ∧ TCb ((w, farW w == 0), 0) = TCb ((w, farW w == 0), 0)) (.asrt (0 ≤ (0 : Int) ∧ (0 : Int) ≤ w.T.length ∧ (w.T.length : Int) < 17592186044416) (.ite (!nearB w) (.ret (.blit true, []))
  (.asrt (okWho w) (.asrt (okWho w) (.ite (bandW w 1).2 (isB w 1 (bandW w 1).1) (.asrt (okWho w) (.ite (bandW w n2B).2 (isB w n2B (bandW w n2B).1) (.asrt (okWho w) (.ite (bandW w n3B).2 (isB w n3B (bandW w n3B).1) (isB w 0 0)))))))))))
theorem fCb (w : Fu.World) : callC c136 60 12 [.agg (encW w)] = cbT w := by kernel_rfl
theorem cbT_tru {w : Fu.World} (h : smallW w) : Tru (cbT w) := by
  have hT := h.1
  refine .asrt h (.asrt ⟨rfl, rfl⟩ (.asrt ⟨Int.le_refl _, by omega, by omega⟩ (.ite (fun _ => .yes) fun hn => ?_)))
  have hn : nearB w = true := by simpa using hn
  have hnear : nearW w = true := by
    unfold nearB farW at hn
    rw [Bool.and_eq_true] at hn
    cases hc : nearW w with
    | true => rfl
    | false => rw [hc] at hn; cases hn.1
  have hok : okWho w := by
    refine ⟨h, by unfold livesW; rw [List.length_map]; omega, fun x hx => ?_⟩
    obtain ⟨t, ht, rfl⟩ := List.mem_map.1 hx
    unfold nearW at hnear
    rw [show (0 : Int).toNat = 0 from rfl, List.drop_zero, Bool.and_eq_true, Bool.and_eq_true] at hnear
    have := List.all_eq_true.1 hnear.1.2 t ht
    unfold nT at this
    simp only [Bool.and_eq_true, decide_eq_true_eq] at this
    have e : (liveK t).J.C = t.J.C ∧ (liveK t).J.Ran = t.J.Ran := by
      show (lookJ t).C = _ ∧ (lookJ t).Ran = _
      unfold lookJ
      cases t.J.On <;> exact ⟨rfl, rfl⟩
    refine ⟨by rw [e.1]; omega, by rw [e.1]; omega, by rw [e.2]; omega, by rw [e.2]; omega⟩
  have e1 : bandW w 1 = mustW w := rfl
  have e2 : n2B = 2 := by decide
  have e3 : n3B = 3 := by decide
  have e4 : bandW w 2 = onceW w := rfl
  have e5 : bandW w 3 = mayBand w := rfl
  rw [e1, e2, e3, e4, e5]
  refine .asrt hok (.asrt hok (.ite (fun h1 => .of ?_) fun h1 => .asrt hok (.ite (fun h2 => .of ?_) fun h2 => .asrt hok (.ite (fun h3 => .of ?_) fun h3 => .of ?_))))
  · unfold whoW; rw [h1]; simp
  · unfold whoW; rw [h1, h2]; simp
  · unfold whoW; rw [h1, h2, h3]; simp
  · unfold whoW; rw [h1, h2, h3]; simp
theorem conCb_valid : ValidCon c136.P 12 (lawCon good1W) := lawCon_of (n := 60) c136_good (by kernel_rfl) fun args ⟨w, h1, h2⟩ => by
  subst h1
  exact ⟨_, fCb w, cbT_tru h2⟩
end Go.Fx
