import Derived.Test.YtccfojgceohciaaV11
import Derived.Test.YtccfojgceohciaaPlI
/- The law LiveEver. -/
namespace Go.Fx
open Go Go.Proofs

abbrev AEv := List Fu.Live × Int × Int
def TV1 (x : AEv × Int) : St := ⟨puts (J 77) [(0, .view .live x.1.1), (1, .int .i64 x.1.2.1), (2, .int .i64 x.1.2.2), (8, .int .i64 x.2)], [], 0⟩
def sV1 : List Sh := sets (Js 77) [(0, .keep), (1, .keep), (2, .keep), (8, .int)]
def xV1 : List Sh := sets (Js 77) [(0, .keep), (1, .keep), (2, .keep)]
def rV1 : List Sh := sets (Js 77) [(6, .bool)]
def eV1 (σ : St) : St := outE 0 6 [] [] rV1 xV1 σ
theorem weak_eV1 (σ : St) : Weak 0 σ (eV1 σ) := weak_outE 0 6 [] [] rV1 xV1 σ
def RV1 : Ex × St := (.ret, ⟨puts (J 77) [(6, .bool true)], [], 0⟩)
def EV1 (x : AEv) : Ex × St := (.exit 0, ⟨puts (J 77) [(0, .view .live x.1), (1, .int .i64 x.2.1), (2, .int .i64 x.2.2)], [], 0⟩)
theorem bV1 (x : AEv) (i : Int) : roundN c91 60 10 (loopAt c91.P 10 5) (norm2 0 [] [] sV1) eV1 (TV1 (x, i)) =
    .ite (decide (i < x.1.length)) (.asrt (0 ≤ i ∧ i < x.1.length) (.ite (decide ((rd .live x.1 i).N > 274877906944)) (.ret RV1) (.ret (.normal, TV1 (x, IntKind.i64.wrap (i + 1)))))) (.ret (EV1 x)) := by kernel_rfl
def gV1 (σ : St) : Option (AEv × Int) :=
  match nth σ.tmps 0, nth σ.tmps 1, nth σ.tmps 2, nth σ.tmps 8 with
  | .view .live l, .int .i64 a, .int .i64 n, .int .i64 i => some ((l, a, n), i)
  | _, _, _, _ => none
def nxtV1 (x : AEv) (_ : Int) : AEv := x
def brkV1 (x : AEv) (i : Int) : Option Unit := bif decide ((rd .live x.1 i).N > 274877906944) then some () else none
def okV1 (_ : AEv) (_ : Int) : Prop := True
def LV1 : LoopCon := boundB 0 (norm2 0 [] [] sV1) TV1 gV1 (fun x => x.1.length) okV1 nxtV1 brkV1 () (fun _ => RV1) EV1
theorem lV1 (hs : SubOf c91.P 10 (.loop (loopAt c91.P 10 5))) : SoundLoop c91 (loopAt c91.P 10 5) LV1 :=
  bound_loop (C := c91) (g := 10) (l := 5) c91_good 60 0 _ _ (Weak.norm2 0 [] [] sV1) weak_eV1 hs TV1 gV1 (fun x => x.1.length) okV1 nxtV1 brkV1 () (fun _ => RV1) EV1
    (fun _ => by intro h; cases h) (fun _ => by intro h; cases h) (fun _ _ => rfl)
    (fun x i h0 hi hm _ => .of_eq (bV1 x i) (by
      unfold maxI64 at hm
      rw [wrap_fits (n := i + 1) (by omega) (by omega)]
      refine (Tree.out_ite_true (decide_eq_true hi)).2 ⟨⟨h0, hi⟩, ?_⟩
      unfold brkV1
      cases h : decide ((rd .live x.1 i).N > 274877906944) with
      | true => exact (Tree.out_ite_true rfl).2 rfl
      | false => exact (Tree.out_ite_false rfl).2 rfl))
    (fun x i hi => .of_eq (bV1 x i) ((Tree.out_ite_false (decide_eq_false (by omega))).2 rfl))
noncomputable def c92 : Cfg := c91.addLoop 10 5 LV1
theorem c92_good : GoodCfg c92 := c91_good.addLoop (by unfold OneLoop; kernel_rfl) lV1

def TV2 (x : AEv × Int) : St := ⟨puts (J 77) [(0, .view .live x.1.1), (1, .int .i64 x.1.2.1), (2, .int .i64 x.1.2.2), (9, .int .i64 x.2)], [], 0⟩
def sV2 : List Sh := sets (Js 77) [(0, .keep), (1, .keep), (2, .keep), (9, .int)]
def eV2 : List Sh := sets (Js 77) [(6, .keep)]
def EV2 : Ex × St := (.exit 2, ⟨J 77, [], 0⟩)
def RV2 : Ex × St := (.ret, ⟨puts (J 77) [(6, .blit false)], [], 0⟩)
def tV2 (x : AEv) (i : Int) : Int := IntKind.i64.wrap (x.2.1 + i)
theorem bV2 (x : AEv) (i : Int) : roundN c92 60 10 (loopAt c92.P 10 10) (norm2 0 [] [] sV2) (norm2 0 [] [] eV2) (TV2 (x, i)) =
    .ite (decide (i < x.2.2)) (.asrt (okSt (x.1, tV2 x i)) (.asrt (missedL x.1 (tV2 x i) = false → smallL (stepL x.1 (tV2 x i))) (.ite (missedL x.1 (tV2 x i) || !mayL (stepL x.1 (tV2 x i)) (IntKind.i64.wrap (tV2 x i + 1))) (.ret RV2)
      (.ret (.normal, TV2 ((stepL x.1 (tV2 x i), x.2.1, x.2.2), IntKind.i64.wrap (i + 1))))))) (.ret EV2) := by kernel_rfl
/-- What holds from time to time. -/
def InvV (x : AEv × Int) : Prop := (0 ≤ x.2 ∧ x.2 ≤ 400 ∧ x.1.2.2 ≤ 400) ∧ (0 ≤ x.1.2.1 ∧ x.1.2.1 ≤ 274877906944) ∧ AllI (274877906944 + x.2) x.1.1 (x.1.2.1 + x.2) ∧ Room x.1.1 (x.1.2.1 + x.2) ∧ testV (x.1.1.map fixOf) = true
def LxV2 (x : AEv × Int) : Tree (Ex × St) := .asrt (InvV x) (.ret EV2)
def gV2 (σ : St) : Option (AEv × Int) :=
  match nth σ.tmps 0, nth σ.tmps 1, nth σ.tmps 2, nth σ.tmps 9 with
  | .view .live l, .int .i64 a, .int .i64 n, .int .i64 i => some ((l, a, n), i)
  | _, _, _, _ => none
def LV2 : LoopCon := entry 0 (norm2 0 [] [] sV2) TV2 gV2 LxV2
theorem jobI_ok {x : Fu.Live} {t b : Int} (h : LiveI b x t) (h0 : 0 ≤ t) (h1 : t ≤ 549755813888) (hb : b ≤ 549755813888) : LiveOK x t := by
  obtain ⟨h2, h3, h4, h5⟩ := h
  have hs := (perOK_iff.1 h2).1
  refine ⟨h2, h3, ⟨h4.1, by omega⟩, ⟨hs, ?_⟩, ?_⟩
  · rcases h5 with h5 | ⟨a1, a2, a3, a4, a5, a6, a7, a8⟩
    · exact .inl ⟨by rw [h5]; rfl, h5⟩
    · exact .inr ⟨a1, ⟨a2.1, by omega⟩, ⟨a3.1, by omega, by omega⟩, a5, a6, a7, a8⟩
  · rcases h5 with h5 | ⟨a1, a2, a3, a4, a5, a6, a7, a8⟩
    · exact .inl (by rw [h5]; rfl)
    · exact .inr ⟨a3.2, a4, a2.2⟩
theorem mayL_of {l : List Fu.Live} {t b : Int} (h : AllI b l t) (h0 : 0 ≤ t) (h1 : t ≤ 549755813888) (hb : b ≤ 549755813888) : mayL l t = true :=
  mayL_iff.2 ⟨h.1, ⟨h0, h1⟩, fun x hx => jobI_ok (h.2 x hx) h0 h1 hb⟩
theorem lV2 (hs : SubOf c92.P 10 (.loop (loopAt c92.P 10 10))) : SoundLoop c92 (loopAt c92.P 10 10) LV2 := by
  refine loop_rule3 (C := c92) (g := 10) (l := 10) c92_good 60 0 _ _ (Weak.norm2 0 [] [] sV2) (Weak.norm2 0 [] [] eV2) hs TV2 LxV2 (fun x => (x.1.2.2 - x.2).toNat) (fun x q h => ?_) entry_out
  obtain ⟨⟨l, a, n⟩, i⟩ := x
  obtain ⟨hI, h⟩ := Tree.out_asrt.1 h
  have h' : EV2 = q := h
  subst h'
  obtain ⟨⟨h0, h1, h2⟩, ⟨h3, h4⟩, hA, hR, hT⟩ := hI
  simp only at h0 h1 h2 h3 h4 hA hR hT
  refine .of_eq (bV2 (l, a, n) i) ?_
  unfold tV2
  simp only
  rw [wrap_fits (n := a + i) (by omega) (by omega), wrap_fits (n := a + i + 1) (by omega) (by omega), wrap_fits (n := i + 1) (by omega) (by omega)]
  obtain ⟨k1, k2, k3⟩ := room_step hA (by omega) (by omega) (by omega) hT hR
  have hA' := step_all hA (by omega) (by omega) (by omega)
  refine Tree.wp_ite.2 ⟨fun hi => ?_, fun hi => rfl⟩
  have hi := of_decide_eq_true hi
  have hm := mayL_of hA' (by omega) (by omega) (by omega)
  refine ⟨okSt_of hA (by omega) (by omega) (by omega), fun _ => ?_, Tree.wp_ite.2 ⟨fun hn => ?_, fun _ => ?_⟩⟩
  · have := hA'.1; unfold smallL; omega
  · rw [k1, hm] at hn; cases hn
  · refine Rnd.go (m := fun x : AEv × Int => (x.1.2.2 - x.2).toNat) (x := ((l, a, n), i)) ((stepL l (a + i), a, n), i + 1) (by simp only; omega) ?_
    refine Tree.out_asrt.2 ⟨⟨⟨by simp only; omega, by simp only; omega, h2⟩, ⟨h3, h4⟩, ?_, ?_, ?_⟩, rfl⟩
    · simp only
      rw [show 274877906944 + (i + 1) = 274877906944 + i + 1 by omega, show a + (i + 1) = a + i + 1 by omega]
      exact hA'
    · simp only
      rw [show a + (i + 1) = a + i + 1 by omega]
      exact k2
    · simp only
      rw [k3]; exact hT
noncomputable def c93 : Cfg := c92.addLoop 10 10 LV2
theorem c93_good : GoodCfg c93 := c92_good.addLoop (by unfold OneLoop; kernel_rfl) lV2
def everT (l : List Fu.Live) (a n : Int) : Tree (AV × List Blk) :=
  .asrt (smallL l) (.asrt ((!mayL l a) = false → okF l) (.asrt ((!mayL l a) = false → (!idleL l) = false → decide (n > 400) = false → decide (a > 274877906944) = false → boundL l) (.asrt ((!mayL l a) = false → (!idleL l) = false → decide (n > 400) = false → decide (a > 274877906944) = false → ((l.map fixOf).length : Int) < 17592186044416)
    (.ite (!mayL l a || (!idleL l || (decide (n > 400) || (decide (a > 274877906944) || !testV (l.map fixOf))))) (.ret (.blit true, []))
      (.asrt (0 = 0 ∧ TV1 ((l, a, n), 0) = TV1 ((l, a, n), 0)) (.asrt (0 ≤ (0 : Int) ∧ (l.length : Int) ≤ maxI64 ∧ okI nxtV1 brkV1 okV1 ((l.length : Int) - 0).toNat (l, a, n) 0)
        (optT () (brkI nxtV1 brkV1 ((l.length : Int) - 0).toNat (l, a, n) 0) (fun _ => .ret (.bool true, []))
          (.asrt (0 = 0 ∧ TV2 (foldI nxtV1 ((l.length : Int) - 0).toNat (l, a, n) 0, 0) = TV2 (foldI nxtV1 ((l.length : Int) - 0).toNat (l, a, n) 0, 0)) (.asrt (InvV (foldI nxtV1 ((l.length : Int) - 0).toNat (l, a, n) 0, 0)) (.ret (.blit true, [])))))))))))
theorem fEver (l : List Fu.Live) (a n : Int) : callC c93 60 10 [.view .live l, .int .i64 a, .int .i64 n] = everT l a n := by kernel_rfl
theorem foldV1 (x : AEv) (k : Nat) : ∀ i : Int, okI nxtV1 brkV1 okV1 k x i ∧ foldI nxtV1 k x i = x ∧ (brkI nxtV1 brkV1 k x i = none → 0 ≤ i → i + k = x.1.length → ∀ y ∈ x.1.drop i.toNat, y.N ≤ 274877906944) := by
  induction k with
  | zero => intro i; exact ⟨trivial, rfl, fun _ h0 h1 y hy => by rw [drop_end (by omega)] at hy; cases hy⟩
  | succ k ih =>
    intro i
    obtain ⟨k1, k2, k3⟩ := ih (i + 1)
    refine ⟨⟨trivial, fun _ => k1⟩, k2, fun hb h0 h1 y hy => ?_⟩
    unfold brkI at hb
    cases hd : decide ((rd .live x.1 i).N > 274877906944) with
    | true => rw [show brkV1 x i = some () by unfold brkV1; rw [hd]; rfl] at hb; cases hb
    | false =>
      rw [show brkV1 x i = none by unfold brkV1; rw [hd]; rfl] at hb
      rw [drop_rd (r := .live) (xs := x.1) h0 (by omega)] at hy
      rcases List.mem_cons.1 hy with rfl | hy
      · have := of_decide_eq_false hd; omega
      · exact k3 hb (by omega) (by omega) y hy
theorem everT_tru {l : List Fu.Live} {a n : Int} (h : smallL l) : Tru (everT l a n) := by
  have hall : ∀ (hm : mayL l a = true), okF l ∧ l.length ≤ 4 := fun hm => by
    obtain ⟨h1, h2, h3⟩ := mayL_all hm
    exact ⟨okF_of h1, h1.1⟩
  refine .asrt h (.asrt (fun hm => (hall (by simpa using hm)).1) (.asrt (fun hm _ _ _ => ?_) (.asrt (fun hm _ _ _ => ?_) (.ite (fun _ => .yes) fun hc => ?_))))
  · have := (hall (by simpa using hm)).2
    show (l.length : Int) * 136 ≤ 140737488355328
    omega
  · have := (hall (by simpa using hm)).2
    rw [List.length_map]; omega
  · simp only [Bool.or_eq_false_iff, Bool.not_eq_false', decide_eq_false_iff_not] at hc
    obtain ⟨h1, h2, h3, h4, h5⟩ := hc
    obtain ⟨k1, k2, k3⟩ := mayL_all h1
    obtain ⟨f1, f2, f3⟩ := foldV1 (l, a, n) ((l.length : Int) - 0).toNat 0
    refine .asrt ⟨rfl, rfl⟩ (.asrt ⟨Int.le_refl _, by have := k1.1; unfold maxI64; omega, f1⟩ ?_)
    rw [f2]
    cases hb : brkI nxtV1 brkV1 ((l.length : Int) - 0).toNat (l, a, n) 0 with
    | some b => exact Tru.ite (fun _ => .of rfl) fun hn => (by cases hn)
    | none =>
      refine Tru.ite (fun hn => by cases hn) fun _ => .asrt ⟨rfl, rfl⟩ (.asrt ?_ .yes)
      have hN := f3 hb (Int.le_refl _) (by simp only; omega)
      have hA : AllI 274877906944 l a := ⟨k1.1, fun x hx => by
        obtain ⟨a1, a2, a3, a4⟩ := k1.2 x hx
        exact ⟨a1, a2, ⟨a3.1, hN x (by simpa using hx)⟩, a4⟩⟩
      exact ⟨⟨Int.le_refl _, by show (0 : Int) ≤ 400; omega, by show n ≤ 400; omega⟩, ⟨k2, by show a ≤ 274877906944; omega⟩, by simpa using hA, by simpa using room_idle hA k2 h5 h2, h5⟩
theorem conEver_valid : ValidCon c93.P 10 (lawCon good3L) := lawCon_of (n := 60) c93_good (by kernel_rfl) fun args ⟨l, a, n, h1, h2, _, _⟩ => by
  subst h1
  exact ⟨_, fEver l a n, everT_tru (smallL_of h2)⟩

end Go.Fx
