import Derived.Test.YtccfojgceohciaaV9
import Derived.Test.YtccfojgceohciaaFx5
/- Contracts: sums of units. -/
namespace Go.Fx
open Go Go.Proofs

theorem fLimits : callC c66 60 75 [] = .ret (.agg [.lit .i64 0, .lit .i64 1099511627776], []) := by kernel_rfl
def conLimits : Con := plainCon Ds.none fun _ => .agg [.lit .i64 0, .lit .i64 1099511627776]
theorem conLimits_valid : ValidCon c66.P 75 conLimits := plainCon_valid c66_good 60 (by kernel_rfl) fun _ => ⟨_, fLimits, .ret (.refl _) rfl⟩
noncomputable def c67 : Cfg := c66.addQuiet 75 conLimits
theorem c67_good : GoodCfg c67 := c66_good.addQuiet conLimits_valid plainCon_quiet
/-! ### units.Sum -/
def litAt (d : Nat) (σ : St) : Bool := match nth σ.tmps d with | .lit _ _ => true | .blit _ => true | _ => false
/-- One way out says one thing, the other one another. -/
def outE (n0 d : Nat) (h1 h2 : List Nat) (s1 s2 : List Sh) (σ : St) : St := bif litAt d σ then norm2 n0 [] h1 s1 σ else norm2 n0 [] h2 s2 σ
theorem weak_outE (n0 d : Nat) (h1 h2 : List Nat) (s1 s2 : List Sh) (σ : St) : Weak n0 σ (outE n0 d h1 h2 s1 s2 σ) := by
  unfold outE
  cases litAt d σ with
  | true => exact Weak.norm2 n0 [] h1 s1 σ
  | false => exact Weak.norm2 n0 [] h2 s2 σ
def outU (x : Int) : Bool := decide (x < 0) || decide (x > 1099511627776)
abbrev AU1 := List Int × Int × List Int × Int
def tabU : List (Nat × Blk) := [(0, .cells [.lit .i64 0, .lit .i64 1099511627776])]
def TU1 (x : AU1 × Int) : St := ⟨puts (J 48) [(4, .ptr 0 0), (5, .int .i64 x.1.2.1), (6, .view (.int .i64) x.1.2.2.1), (7, .int .i64 x.1.2.2.2), (24, .view (.int .i64) x.1.1), (25, .int .i64 x.1.1.length), (26, .int .i64 x.2)], [(0, .cells [.lit .i64 0, .lit .i64 1099511627776])], 1⟩
def sU1 : List Sh := sets (Js 48) [(4, .keep), (5, .int), (6, .keep), (7, .keep), (24, .keep), (25, .int), (26, .int)]
def xU1 : List Sh := sets (Js 48) [(4, .keep), (5, .int), (6, .keep), (7, .keep)]
def rU1 : List Sh := sets (Js 48) [(2, .keep), (3, .keep)]
def eU1 (σ : St) : St := outE 1 2 [] [0] rU1 xU1 σ
def RU1 : Ex × St := (.ret, ⟨puts (J 48) [(2, .lit .i64 0), (3, .blit false)], [], 1⟩)
def EU1 (x : AU1) : Ex × St := (.exit 2, ⟨puts (J 48) [(4, .ptr 0 0), (5, .int .i64 x.2.1), (6, .view (.int .i64) x.2.2.1), (7, .int .i64 x.2.2.2)], [(0, .cells [.lit .i64 0, .lit .i64 1099511627776])], 1⟩)
theorem bU1 (x : AU1) (i : Int) : roundN c67 60 63 (loopAt c67.P 63 8) (norm2 1 [] [0] sU1) eU1 (TU1 (x, i)) =
    .ite (decide (i < x.1.length)) (.asrt (0 ≤ i ∧ i < x.1.length) (.ite (outU (rd (.int .i64) x.1 i)) (.ret RU1) (.ret (.normal, TU1 ((x.1, IntKind.i64.wrap (x.2.1 + rd (.int .i64) x.1 i), x.2.2), IntKind.i64.wrap (i + 1)))))) (.ret (EU1 x)) := by kernel_rfl
def gU1 (σ : St) : Option (AU1 × Int) :=
  match nth σ.tmps 24, nth σ.tmps 5, nth σ.tmps 6, nth σ.tmps 7, nth σ.tmps 26 with
  | .view (.int .i64) xs, .int .i64 n, .view (.int .i64) rest, .int .i64 k, .int .i64 i => some ((xs, n, rest, k), i)
  | _, _, _, _, _ => none
def nxtU1 (x : AU1) (i : Int) : AU1 := (x.1, x.2.1 + rd (.int .i64) x.1 i, x.2.2)
def brkU1 (x : AU1) (i : Int) : Option Unit := bif outU (rd (.int .i64) x.1 i) then some () else none
def okU1 (x : AU1) (_ : Int) : Prop := -1152921504606846976 ≤ x.2.1 ∧ x.2.1 ≤ 1152921504606846976
def LU1 : LoopCon := boundB 1 (norm2 1 [] [0] sU1) TU1 gU1 (fun x => x.1.length) okU1 nxtU1 brkU1 () (fun _ => RU1) EU1
theorem lU1 (hs : SubOf c67.P 63 (.loop (loopAt c67.P 63 8))) : SoundLoop c67 (loopAt c67.P 63 8) LU1 :=
  bound_loop (C := c67) (g := 63) (l := 8) c67_good 60 1 _ _ (Weak.norm2 1 [] [0] sU1) (weak_outE 1 2 [] [0] rU1 xU1) hs TU1 gU1 (fun x => x.1.length) okU1 nxtU1 brkU1 () (fun _ => RU1) EU1
    (fun _ => by intro h; cases h) (fun _ => by intro h; cases h) (fun _ _ => rfl)
    (fun x i h0 hi hm hok => .of_eq (bU1 x i) (by
      unfold maxI64 at hm
      obtain ⟨h1, h2⟩ := hok
      rw [wrap_fits (n := i + 1) (by omega) (by omega)]
      refine (Tree.out_ite_true (decide_eq_true hi)).2 ⟨⟨h0, hi⟩, ?_⟩
      unfold brkU1
      cases h : outU (rd (.int .i64) x.1 i) with
      | true => exact (Tree.out_ite_true rfl).2 rfl
      | false =>
        unfold outU at h
        simp only [Bool.or_eq_false_iff, decide_eq_false_iff_not] at h
        rw [wrap_fits (by omega) (by omega)]
        exact (Tree.out_ite_false rfl).2 rfl))
    (fun x i hi => .of_eq (bU1 x i) ((Tree.out_ite_false (decide_eq_false (by omega))).2 rfl))
noncomputable def c68 : Cfg := c67.addLoop 63 8 LU1
theorem c68_good : GoodCfg c68 := c67_good.addLoop (by unfold OneLoop; kernel_rfl) lU1
def TU2 (x : List Int × Int) : St := ⟨puts (J 48) [(4, .ptr 0 0), (5, .int .i64 x.2), (6, .view (.int .i64) x.1)], [(0, .cells [.lit .i64 0, .lit .i64 1099511627776])], 1⟩
def sU2 : List Sh := sets (Js 48) [(4, .keep), (5, .int), (6, .keep)]
def xU2 : List Sh := sets (Js 48) [(5, .int)]
def eU2 (σ : St) : St := outE 1 2 [] [] rU1 xU2 σ
def EU2 (n : Int) : Ex × St := (.exit 0, ⟨puts (J 48) [(5, .int .i64 n)], [], 1⟩)
def minL (l : List Int) : Int := minI 4 l.length
def cutU (l : List Int) : List Int := (l.take (minL l).toNat).drop (0 : Int).toNat
def resU (l : List Int) : List Int := (l.take (l.length : Int).toNat).drop (minL l).toNat
def inU (l : List Int) (n : Int) : AU1 := (cutU l, n, l, minL l)
def endU (l : List Int) (n : Int) : AU1 := foldI nxtU1 (((cutU l).length : Int) - 0).toNat (inU l n) 0
theorem bU2 (l : List Int) (n : Int) : roundN c68 60 63 (loopAt c68.P 63 5) (norm2 1 [] [0] sU2) eU2 (TU2 (l, n)) =
    .ite (decide ((l.length : Int) > 0)) (.asrt (0 ≤ (0 : Int) ∧ (0 : Int) ≤ minL l ∧ minL l ≤ minL l ∧ minL l ≤ l.length) (.asrt (1 = 1 ∧ TU1 (inU l n, 0) = TU1 (inU l n, 0)) (.asrt (0 ≤ (0 : Int) ∧ ((cutU l).length : Int) ≤ maxI64 ∧ okI nxtU1 brkU1 okU1 (((cutU l).length : Int) - 0).toNat (inU l n) 0)
      (optT () (brkI nxtU1 brkU1 (((cutU l).length : Int) - 0).toNat (inU l n) 0) (fun _ => .ret RU1)
        (.asrt (0 ≤ (endU l n).2.2.2 ∧ (endU l n).2.2.2 ≤ ((endU l n).2.2.1.length : Int) ∧ ((endU l n).2.2.1.length : Int) ≤ ((endU l n).2.2.1.length : Int))
          (.ret (.normal, TU2 (((endU l n).2.2.1.take ((endU l n).2.2.1.length : Int).toNat).drop (endU l n).2.2.2.toNat, (endU l n).2.1)))))))) (.ret (EU2 n)) := by kernel_rfl
theorem foldU1 {xs : List Int} {r : List Int × Int} (k : Nat) : ∀ (acc i : Int), 0 ≤ i → i + k = xs.length → 0 ≤ acc → acc + k * 1099511627776 ≤ 1152921504606846976 →
    okI nxtU1 brkU1 okU1 k (xs, acc, r) i ∧ (brkI nxtU1 brkU1 k (xs, acc, r) i).isSome = (xs.drop i.toNat).any outU ∧ ((xs.drop i.toNat).any outU = false → foldI nxtU1 k (xs, acc, r) i = (xs, acc + (xs.drop i.toNat).sum, r)) := by
  induction k with
  | zero =>
    intro acc i h0 h1 h2 h3
    rw [drop_end (by omega)]
    exact ⟨trivial, rfl, fun _ => by simp [foldI]⟩
  | succ k ih =>
    intro acc i h0 h1 h2 h3
    have hd := drop_rd (r := .int .i64) (xs := xs) h0 (by omega)
    have hok : okU1 (xs, acc, r) i := ⟨by show -1152921504606846976 ≤ acc; omega, by show acc ≤ 1152921504606846976; omega⟩
    rw [hd, List.any_cons]
    cases ho : outU (rd (.int .i64) xs i) with
    | true =>
      have e : brkU1 (xs, acc, r) i = some () := by unfold brkU1; simp only; rw [ho]; rfl
      refine ⟨⟨hok, fun hn => by rw [e] at hn; cases hn⟩, ?_, fun h => by simp at h⟩
      unfold brkI
      rw [e]
      rfl
    | false =>
      have e : brkU1 (xs, acc, r) i = none := by unfold brkU1; simp only; rw [ho]; rfl
      have ho' := ho
      unfold outU at ho'
      simp only [Bool.or_eq_false_iff, decide_eq_false_iff_not] at ho'
      obtain ⟨k1, k2, k3⟩ := ih (acc + rd (.int .i64) xs i) (i + 1) (by omega) (by omega) (by omega) (by omega)
      refine ⟨⟨hok, fun _ => k1⟩, ?_, fun h => ?_⟩
      · unfold brkI
        rw [e]
        exact k2
      · rw [Bool.false_or] at h
        unfold foldI
        refine (k3 h).trans ?_
        rw [List.sum_cons, Int.add_assoc]
def okU2 (l : List Int) (n : Int) : Prop := l.length ≤ 1000 ∧ 0 ≤ n ∧ n + l.length * 1099511627776 ≤ 1152921504606846976
def LxU2 (x : List Int × Int) : Tree (Ex × St) := .asrt (okU2 x.1 x.2) (.ite (x.1.any outU) (.ret RU1) (.ret (EU2 (x.2 + x.1.sum))))
def gU2 (σ : St) : Option (List Int × Int) :=
  match nth σ.tmps 5, nth σ.tmps 6 with
  | .int .i64 n, .view (.int .i64) l => some (l, n)
  | _, _ => none
def LU2 : LoopCon := entry 1 (norm2 1 [] [0] sU2) TU2 gU2 LxU2
theorem cut_res {l : List Int} (h : l.length ≤ 1000) : cutU l = l.take (minL l).toNat ∧ (l.take (l.length : Int).toNat).drop (minL l).toNat = l.drop (minL l).toNat := by
  unfold cutU
  rw [show (0 : Int).toNat = 0 from rfl, List.drop_zero, show (l.length : Int).toNat = l.length by omega, List.take_length]
  exact ⟨rfl, rfl⟩
theorem sumU {l : List Int} (h : l.any outU = false) : 0 ≤ l.sum ∧ l.sum ≤ l.length * 1099511627776 := by
  induction l with
  | nil => simp
  | cons x l ih =>
    rw [List.any_cons, Bool.or_eq_false_iff] at h
    have h1 := ih h.2
    have h2 := h.1
    unfold outU at h2
    simp only [Bool.or_eq_false_iff, decide_eq_false_iff_not] at h2
    rw [List.sum_cons, List.length_cons]
    omega
theorem lU2 (hs : SubOf c68.P 63 (.loop (loopAt c68.P 63 5))) : SoundLoop c68 (loopAt c68.P 63 5) LU2 := by
  refine loop_rule3 (C := c68) (g := 63) (l := 5) c68_good 60 1 _ _ (Weak.norm2 1 [] [0] sU2) (weak_outE 1 2 [] [] rU1 xU2) hs TU2 LxU2 (fun x => x.1.length) (fun x q h => ?_) entry_out
  obtain ⟨l, n⟩ := x
  obtain ⟨⟨h1, h2, h3⟩, h⟩ := Tree.out_asrt.1 h
  simp only at h1 h2 h3 h
  refine .of_eq (bU2 l n) ?_
  obtain ⟨e1, e2⟩ := cut_res h1
  rcases Nat.eq_zero_or_pos l.length with hz | hz
  · have hl : l = [] := List.eq_nil_of_length_eq_zero hz
    subst hl
    refine Tree.wp_ite.2 ⟨fun hn => by simp at hn, fun _ => ?_⟩
    have h' := (Tree.out_ite_false (c := ([] : List Int).any outU) rfl).1 h
    have h'' : EU2 (n + ([] : List Int).sum) = q := h'
    rw [show n + ([] : List Int).sum = n by simp] at h''
    exact Rnd.out h''
  · have hm : minL l = 4 ∧ 4 ≤ l.length ∨ minL l = l.length ∧ l.length ≤ 4 := by unfold minL minI; split <;> omega
    have hc : (cutU l).length = (minL l).toNat := by rw [e1, List.length_take]; omega
    have hlen : (cutU l).length ≤ l.length := by omega
    have hb1 : n + ((((cutU l).length : Int) - 0).toNat : Int) * 1099511627776 ≤ 1152921504606846976 := by
      generalize (cutU l).length = c at hlen
      generalize l.length = a at hlen h3
      have : (((c : Int) - 0).toNat : Int) = c := by omega
      rw [this]
      omega
    obtain ⟨k1, k2, k3⟩ := foldU1 (xs := cutU l) (r := (l, minL l)) (((cutU l).length : Int) - 0).toNat n 0 (Int.le_refl _) (by omega) h2 hb1
    rw [show (0 : Int).toNat = 0 from rfl, List.drop_zero] at k2 k3
    have hany : l.any outU = ((cutU l).any outU || (l.drop (minL l).toNat).any outU) := by
      rw [e1, ← List.any_append, List.take_append_drop]
    have hsum : l.sum = (cutU l).sum + (l.drop (minL l).toNat).sum := by
      rw [e1, ← List.sum_append, List.take_append_drop]
    refine Tree.wp_ite.2 ⟨fun _ => ⟨⟨by omega, by omega, by omega, by omega⟩, ⟨rfl, rfl⟩, ⟨Int.le_refl _, by unfold maxI64; omega, k1⟩, ?_⟩, fun hn => by have := of_decide_eq_false hn; omega⟩
    cases hb : (cutU l).any outU with
    | true =>
      rw [hb] at k2
      rw [hany, hb, Bool.true_or] at h
      have h' := (Tree.out_ite_true rfl).1 h
      cases hk : brkI nxtU1 brkU1 (((cutU l).length : Int) - 0).toNat (inU l n) 0 with
      | none => rw [show brkI nxtU1 brkU1 (((cutU l).length : Int) - 0).toNat (cutU l, n, l, minL l) 0 = none from hk] at k2; cases k2
      | some b => exact Tree.wp_ite.2 ⟨fun _ => Rnd.ret h', fun hn => by cases hn⟩
    | false =>
      rw [hb] at k2
      have hk : brkI nxtU1 brkU1 (((cutU l).length : Int) - 0).toNat (inU l n) 0 = none := by
        cases hk : brkI nxtU1 brkU1 (((cutU l).length : Int) - 0).toNat (inU l n) 0 with
        | none => rfl
        | some b => rw [show brkI nxtU1 brkU1 (((cutU l).length : Int) - 0).toNat (cutU l, n, l, minL l) 0 = some b from hk] at k2; cases k2
      have hf : endU l n = (cutU l, n + (cutU l).sum, l, minL l) := k3 hb
      rw [hk, hf]
      refine Tree.wp_ite.2 ⟨fun hn => (by cases hn), fun _ => ⟨⟨by simp only; omega, by simp only; omega, Int.le_refl _⟩, ?_⟩⟩
      rw [e2]
      have hs1 := sumU hb
      have hl2 : (l.drop (minL l).toNat).length + (cutU l).length = l.length := by rw [List.length_drop]; omega
      refine Rnd.go (m := fun x : List Int × Int => x.1.length) (x := (l, n)) (l.drop (minL l).toNat, n + (cutU l).sum) (by simp only; omega) ?_
      rw [hany, hb, Bool.false_or, hsum, ← Int.add_assoc] at h
      refine Tree.out_asrt.2 ⟨⟨by simp only; omega, by simp only; omega, ?_⟩, h⟩
      simp only
      generalize (l.drop (minL l).toNat).length = a at hl2 ⊢
      generalize (cutU l).length = c at hl2 hs1
      generalize l.length = d at hl2 h3
      omega
noncomputable def c69 : Cfg := c68.addLoop 63 5 LU2
theorem c69_good : GoodCfg c69 := c68_good.addLoop (by unfold OneLoop; kernel_rfl) lU2

end Go.Fx
