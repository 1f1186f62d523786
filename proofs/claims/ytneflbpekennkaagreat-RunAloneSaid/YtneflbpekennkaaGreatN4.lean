import Derived.Test.YtneflbpekennkaaGreatN8
import Derived.Test.YtneflbpekennkaaGreatPlZa
/- The law RunAlone. -/
namespace Go.Fx
open Go Go.Proofs

def TRa (x : Fu.World × Int) : St := ⟨puts (J 71) [(1, .ptr 0 0), (4, .int .i64 x.2)], [(0, .cells (encW x.1))], 1⟩
def sRa : List Sh := sets (Js 71) [(1, .keep), (4, .int)]
def eRa : List Sh := sets (Js 71) [(1, .keep), (2, .keep)]
def RRa (w : Fu.World) : Ex × St := (.ret, ⟨puts (J 71) [(1, .ptr 0 0), (2, .blit false)], [(0, .cells (encW w))], 1⟩)
def ERa (w : Fu.World) : Ex × St := (.exit 0, ⟨puts (J 71) [(1, .ptr 0 0)], [(0, .cells (encW w))], 1⟩)
theorem bRa (w : Fu.World) (i : Int) : roundN c136 60 3 (loopAt c136.P 3 5) (norm2 1 [] [0] sRa) (norm2 1 [] [0] eRa) (TRa (w, i)) =
    .ite (decide (i < 170) && decide ((w.A.length : Int) > 0)) (.asrt (tickY (w, [])) (.ite (decide (((pickW (startW w [])).2.length : Int) > 0) || (whoW (startW w [])).1 != 2) (.ret (RRa w)) (.ret (.normal, TRa (tickW w [], IntKind.i64.wrap (i + 1)))))) (.ret (ERa w)) := by kernel_rfl
def gRa (σ : St) : Option (Fu.World × Int) :=
  match nth σ.tmps 4, σ.heap with
  | .int .i64 i, [(_, .cells [.int .i64 a, .view .task t, .view .ape p, .int .i64 c])] => some (⟨a, t, p, c⟩, i)
  | _, _ => none
/-- Some times, as long as a job is there. -/
def aloneF : Nat → Fu.World → Fu.World
  | 0, w => w
  | k + 1, w => match w.A with | [] => w | _ => aloneF k (tickW w [])
theorem aloneF_cons (k : Nat) {w : Fu.World} (h : w.A ≠ []) : aloneF (k + 1) w = aloneF k (tickW w []) := by
  have e : aloneF (k + 1) w = match w.A with | [] => w | _ => aloneF k (tickW w []) := rfl
  rw [e]
  cases hw : w.A with
  | nil => exact absurd hw h
  | cons a l => rfl
def okRa (x : Fu.World × Int) : Prop := (0 ≤ x.2 ∧ x.2 ≤ 170) ∧ mayW x.1 = true ∧ x.1.T = [] ∧ x.1.Now ≤ 137438953472 + x.2 ∧ fitsA x.1.A x.1.Now = true
def LxRa (x : Fu.World × Int) : Tree (Ex × St) := .asrt (okRa x) (.ret (ERa (aloneF (170 - x.2).toNat x.1)))
def LRa : LoopCon := entry 1 (norm2 1 [] [0] sRa) TRa gRa LxRa
theorem lRa (hs : SubOf c136.P 3 (.loop (loopAt c136.P 3 5))) : SoundLoop c136 (loopAt c136.P 3 5) LRa := by
  refine loop_rule3 (C := c136) (g := 3) (l := 5) c136_good 60 1 _ _ (Weak.norm2 1 [] [0] sRa) (Weak.norm2 1 [] [0] eRa) hs TRa LxRa (fun x => (170 - x.2).toNat) (fun x q h => ?_) entry_out
  obtain ⟨w, i⟩ := x
  obtain ⟨⟨⟨h0, h1⟩, h2, h3, h4, h5⟩, h⟩ := Tree.out_asrt.1 h
  simp only at h0 h1 h2 h3 h4 h5
  refine .of_eq (bRa w i) (Tree.wp_ite.2 ⟨fun hi => ?_, fun hi => ?_⟩)
  · rw [Bool.and_eq_true, decide_eq_true_eq, decide_eq_true_eq] at hi
    obtain ⟨hi, hl⟩ := hi
    have hne : w.A ≠ [] := fun e => by rw [e] at hl; simp at hl
    have hA : Ahead w := ⟨h2, by omega, by rw [h3]; simp⟩
    obtain ⟨k1, k2, k3, k4, _⟩ := alone_tick h2 h3 hA.now h5 hne
    have hnow := hA.now
    refine ⟨⟨mayW_small h2, ?_⟩, Tree.wp_ite.2 ⟨fun hb => ?_, fun _ => ?_⟩⟩
    · simp only
      rw [h2, Bool.not_true, Bool.false_or, beq_eq_false_iff_ne]
      omega
    · rw [k1, k2] at hb
      simp at hb
    · rw [wrap_fits (n := i + 1) (by omega) (by omega)]
      have e : aloneF (170 - i).toNat w = aloneF (170 - (i + 1)).toNat (tickW w []) := by
        rw [show (170 - i).toNat = (170 - (i + 1)).toNat + 1 by omega]
        exact aloneF_cons _ hne
      refine Rnd.go (m := fun x : Fu.World × Int => (170 - x.2).toNat) (x := (w, i)) (tickW w [], i + 1) (by simp only; omega) (Tree.out_asrt.2 ⟨⟨by simp only; omega, hA.tickMay [], k3, by simp only; rw [hA.tickNow []]; omega, by simp only; rw [hA.tickNow []]; exact k4⟩, ?_⟩)
      have h : (Tree.ret (ERa (aloneF (170 - i).toNat w))).Out q := h
      rw [e] at h
      exact h
  · have e : aloneF (170 - i).toNat w = w := by
      rw [Bool.and_eq_false_iff, decide_eq_false_iff_not, decide_eq_false_iff_not] at hi
      cases hk : (170 - i).toNat with
      | zero => rfl
      | succ k =>
        have hnil : w.A = [] := List.eq_nil_of_length_eq_zero (by omega)
        unfold aloneF
        rw [hnil]
    have h : (Tree.ret (ERa (aloneF (170 - i).toNat w))).Out q := h
    rw [e] at h
    exact Rnd.out h
noncomputable def c137 : Cfg := c136.addLoop 3 5 LRa
theorem c137_good : GoodCfg c137 := c136_good.addLoop (by unfold OneLoop; kernel_rfl) lRa
def raT (w : Fu.World) : Tree (AV × List Blk) := .asrt (decide ((w.T.length : Int) > 0) = false → decide (w.Now > 137438953472) = false → smallW w) (.asrt (decide ((w.T.length : Int) > 0) = false → decide (w.Now > 137438953472) = false → (!mayW w) = false → (w.A.length : Int) < 20)
  (.ite (decide ((w.T.length : Int) > 0) || (decide (w.Now > 137438953472) || (!mayW w || !fitsA w.A w.Now))) (.ret (.blit true, [])) (.asrt (1 = 1 ∧ TRa (w, 0) = TRa (w, 0)) (.asrt (okRa (w, 0)) (.ret (.bool (((aloneF (170 - (0 : Int)).toNat w).A.length : Int) == 0), []))))))
theorem fRa (w : Fu.World) : callC c137 60 3 [.agg (encW w)] = raT w := by kernel_rfl
theorem alone_end : ∀ (k : Nat) (w : Fu.World), mayW w = true → w.T = [] → w.Now + k ≤ 274877906944 → fitsA w.A w.Now = true → remS w.A ≤ k → (aloneF k w).A = []
  | 0, w, h1, h2, h3, h4, h5 => by
    unfold aloneF
    have hA : mayA w.A w.Now = true := (mayW_iff.1 h1).2.2.2.1
    cases hw : w.A with
    | nil => rfl
    | cons a l =>
      have := (remS_le (l := w.A) fun b hb => (mayA_iff.1 hA).1 b hb).2.2 (by rw [hw]; simp)
      omega
  | k + 1, w, h1, h2, h3, h4, h5 => by
    unfold aloneF
    cases hw : w.A with
    | nil => exact hw
    | cons a l =>
      have hA : Ahead w := ⟨h1, by omega, by rw [h2]; simp⟩
      obtain ⟨_, _, k3, k4, k5⟩ := alone_tick h1 h2 hA.now h4 (by rw [hw]; simp)
      have e := hA.tickNow []
      exact alone_end k (tickW w []) (hA.tickMay []) k3 (by rw [e]; omega) (by rw [e]; exact k4) (by omega)
theorem raT_tru {w : Fu.World} (h : smallW w) : Tru (raT w) := by
  refine .asrt (fun _ _ => h) (.asrt (fun _ _ hm => ?_) (.ite (fun _ => .yes) fun hb => .asrt ⟨rfl, rfl⟩ (.asrt ?_ (.of ?_))))
  · have hm : mayW w = true := by simpa using hm
    have := (mayA_iff.1 (mayW_iff.1 hm).2.2.2.1).2.2.1
    omega
  all_goals
    simp only [Bool.or_eq_false_iff, Bool.not_eq_false', decide_eq_false_iff_not] at hb
    obtain ⟨h1, h2, h3, h4⟩ := hb
    have hT : w.T = [] := List.eq_nil_of_length_eq_zero (by omega)
  · exact ⟨⟨Int.le_refl _, by simp⟩, h3, hT, by simp only; omega, h4⟩
  · have hA : mayA w.A w.Now = true := (mayW_iff.1 h3).2.2.2.1
    have hr := (remS_le (l := w.A) fun b hb => (mayA_iff.1 hA).1 b hb).2.1
    have hl := (mayA_iff.1 hA).2.2.1
    rw [alone_end (170 - (0 : Int)).toNat w h3 hT (by omega) h4 (by omega)]
    rfl
theorem conRa_valid : ValidCon c137.P 3 (lawCon good1W) := lawCon_of (n := 60) c137_good (by kernel_rfl) fun args ⟨w, h1, h2⟩ => by
  subst h1
  exact ⟨_, fRa w, raT_tru h2⟩
end Go.Fx
