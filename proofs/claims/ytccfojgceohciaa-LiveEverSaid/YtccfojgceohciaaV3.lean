import Derived.Test.YtccfojgceohciaaV2
import Derived.Test.YtccfojgceohciaaFx5
import Derived.Test.YtccfojgceohciaaPlF
/- The law LiveWaits. -/
namespace Go.Fx
open Go Go.Proofs

/-! ### the walk -/
abbrev XW := (List Fu.Live × Int) × Int
def TW (x : XW) : St := ⟨puts (J 131) [(0, .view .live x.1.1), (1, .int .i64 x.1.2), (4, .blit false), (6, .int .i64 x.2)], [], 0⟩
def sW : List Sh := sets (Js 131) [(0, .keep), (1, .keep), (4, .keep), (6, .int)]
def eW : List Sh := sets (Js 131) [(0, .keep), (1, .keep), (4, .keep)]
def EW (x : List Fu.Live × Int) : Ex × St := (.exit 0, ⟨puts (J 131) [(0, .view .live x.1), (1, .int .i64 x.2), (4, .blit false)], [], 0⟩)
def RW (x : List Fu.Live × Int) : Ex × St := (.ret, ⟨puts (J 131) [(0, .view .live x.1), (1, .int .i64 x.2), (4, .blit true)], [], 0⟩)
theorem bW (x : List Fu.Live × Int) (i : Int) : roundN c45 60 8 (loopAt c45.P 8 5) (norm2 0 [] [] sW) (norm2 0 [] [] eW) (TW (x, i)) =
    .ite (decide (i < x.1.length)) (.asrt (0 ≤ i ∧ i < x.1.length) (.ite ((rd .live x.1 i).At == x.2) (.ret (RW x)) (.ret (.normal, TW (x, IntKind.i64.wrap (i + 1)))))) (.ret (EW x)) := by kernel_rfl
def gW (σ : St) : Option XW :=
  match nth σ.tmps 0, nth σ.tmps 1, nth σ.tmps 6 with
  | .view .live l, .int .i64 n, .int .i64 i => some ((l, n), i)
  | _, _, _ => none
def brkW (x : List Fu.Live × Int) (i : Int) : Option (List Fu.Live × Int) := bif (rd .live x.1 i).At == x.2 then some x else none
def LW : LoopCon := boundB 0 (norm2 0 [] [] sW) TW gW (fun x => x.1.length) (fun _ _ => True) (fun x _ => x) brkW ([], 0) RW EW
theorem lW (hs : SubOf c45.P 8 (.loop (loopAt c45.P 8 5))) : SoundLoop c45 (loopAt c45.P 8 5) LW :=
  bound_loop (C := c45) (g := 8) (l := 5) c45_good 60 0 _ _ (Weak.norm2 0 [] [] sW) (Weak.norm2 0 [] [] eW) hs TW gW (fun x => x.1.length) (fun _ _ => True) (fun x _ => x) brkW ([], 0) RW EW
    (fun _ => by intro h; cases h) (fun _ => by intro h; cases h) (fun _ _ => rfl)
    (fun x i h0 hi hm _ => .of_eq (bW x i) (by
      unfold maxI64 at hm
      rw [wrap_fits (by omega) (by omega)]
      refine (Tree.out_ite_true (decide_eq_true hi)).2 ⟨⟨h0, hi⟩, ?_⟩
      unfold brkW
      cases h : ((rd .live x.1 i).At == x.2) with
      | true => exact (Tree.out_ite_true rfl).2 rfl
      | false => exact (Tree.out_ite_false rfl).2 rfl))
    (fun x i hi => .of_eq (bW x i) ((Tree.out_ite_false (decide_eq_false (by omega))).2 rfl))
noncomputable def c46 : Cfg := c45.addLoop 8 5 LW
theorem c46_good : GoodCfg c46 := c45_good.addLoop (by unfold OneLoop; kernel_rfl) lW
abbrev XV := (List Fu.Live × List Fu.Live × Int) × Int
def TV (x : XV) : St := ⟨puts (J 131) [(0, .view .live x.1.1), (1, .int .i64 x.1.2.2), (4, .blit false), (7, .view .live x.1.2.1), (9, .int .i64 x.2)], [], 0⟩
def sV : List Sh := sets (Js 131) [(0, .keep), (1, .keep), (4, .keep), (7, .keep), (9, .int)]
def eV : List Sh := sets (Js 131) []
def EV : Ex × St := (.exit 2, ⟨puts (J 131) [], [], 0⟩)
def RV : Ex × St := (.ret, ⟨puts (J 131) [], [], 0⟩)
def eqLive (y x : Fu.Live) : Bool :=
  (y.S.C == x.S.C && (y.S.T == x.S.T && (y.S.Max == x.S.Max && (y.S.M == x.S.M && (y.S.K == x.S.K && y.S.E == x.S.E)))) && (y.J.On == x.J.On && (y.J.J == x.J.J && (y.J.Rel == x.J.Rel && (y.J.Due == x.J.Due && (y.J.Mand == x.J.Mand && (y.J.C == x.J.C && (y.J.D == x.J.D && y.J.Ran == x.J.Ran)))))) && (y.P == x.P && (y.At == x.At && y.N == x.N))))
theorem eqLive_self (x : Fu.Live) : eqLive x x = true := by simp [eqLive]
def lateL (x : Fu.Live) (n : Int) : Bool := x.J.On && decide (x.J.Due ≤ n)
theorem bV (x : List Fu.Live × List Fu.Live × Int) (i : Int) : roundN c46 60 8 (loopAt c46.P 8 13) (norm2 0 [] [] sV) (norm2 0 [] [] eV) (TV (x, i)) =
    .ite (decide (i < x.1.length)) (.asrt (0 ≤ i ∧ i < x.1.length) (.asrt ((rd .live x.1 i).J.On = true → 0 ≤ i ∧ i < x.1.length) (.asrt (0 ≤ i ∧ i < x.2.1.length) (.asrt (0 ≤ i ∧ i < x.1.length)
      (.asrt (((rd .live x.2.1 i).At != (rd .live x.1 i).At) = false → 0 ≤ i ∧ i < x.2.1.length) (.asrt (((rd .live x.2.1 i).At != (rd .live x.1 i).At) = false → 0 ≤ i ∧ i < x.1.length)
      (.asrt (((rd .live x.2.1 i).At != (rd .live x.1 i).At) = false → ((rd .live x.2.1 i).N != (rd .live x.1 i).N) = false → (!lateL (rd .live x.1 i) (IntKind.i64.wrap (x.2.2 + 1))) = true → 0 ≤ i ∧ i < x.2.1.length)
      (.asrt (((rd .live x.2.1 i).At != (rd .live x.1 i).At) = false → ((rd .live x.2.1 i).N != (rd .live x.1 i).N) = false → (!lateL (rd .live x.1 i) (IntKind.i64.wrap (x.2.2 + 1))) = true → 0 ≤ i ∧ i < x.1.length)
      (.asrt (((rd .live x.2.1 i).At != (rd .live x.1 i).At) = false → ((rd .live x.2.1 i).N != (rd .live x.1 i).N) = false → (!lateL (rd .live x.1 i) (IntKind.i64.wrap (x.2.2 + 1))) = true → (!eqLive (rd .live x.2.1 i) (rd .live x.1 i)) = false → lateL (rd .live x.1 i) (IntKind.i64.wrap (x.2.2 + 1)) = true → 0 ≤ i ∧ i < x.2.1.length)
      (.asrt (((rd .live x.2.1 i).At != (rd .live x.1 i).At) = false → ((rd .live x.2.1 i).N != (rd .live x.1 i).N) = false → (!lateL (rd .live x.1 i) (IntKind.i64.wrap (x.2.2 + 1))) = false → lateL (rd .live x.1 i) (IntKind.i64.wrap (x.2.2 + 1)) = true → 0 ≤ i ∧ i < x.2.1.length)
      (.ite ((rd .live x.2.1 i).At != (rd .live x.1 i).At || ((rd .live x.2.1 i).N != (rd .live x.1 i).N || bif !lateL (rd .live x.1 i) (IntKind.i64.wrap (x.2.2 + 1)) then !eqLive (rd .live x.2.1 i) (rd .live x.1 i) || lateL (rd .live x.1 i) (IntKind.i64.wrap (x.2.2 + 1)) && (rd .live x.2.1 i).J.On else lateL (rd .live x.1 i) (IntKind.i64.wrap (x.2.2 + 1)) && (rd .live x.2.1 i).J.On))
        (.ret RV) (.ret (.normal, TV (x, IntKind.i64.wrap (i + 1))))))))))))))) (.ret EV) := by kernel_rfl
def gV (σ : St) : Option XV :=
  match nth σ.tmps 0, nth σ.tmps 7, nth σ.tmps 1, nth σ.tmps 9 with
  | .view .live l, .view .live k, .int .i64 n, .int .i64 i => some ((l, k, n), i)
  | _, _, _, _ => none
/-- One that waits: all stays, but for its job's end. -/
def staysL (x y : Fu.Live) (n : Int) : Prop := y.At = x.At ∧ y.N = x.N ∧ (lateL x n = false → y = x) ∧ (lateL x n = true → y.J.On = false)
def okV (x : List Fu.Live × List Fu.Live × Int) (i : Int) : Prop := i < x.2.1.length ∧ nowOK x.2.2 ∧ staysL (rd .live x.1 i) (rd .live x.2.1 i) (x.2.2 + 1)
def LV : LoopCon := boundF 0 (norm2 0 [] [] sV) TV gV (fun x => x.1.length) okV (fun x _ => x) (fun _ => EV)
theorem lV (hs : SubOf c46.P 8 (.loop (loopAt c46.P 8 13))) : SoundLoop c46 (loopAt c46.P 8 13) LV :=
  bound_fold (C := c46) (g := 8) (l := 13) c46_good 60 0 _ _ (Weak.norm2 0 [] [] sV) (Weak.norm2 0 [] [] eV) hs TV gV (fun x => x.1.length) okV (fun x _ => x) (fun _ => EV)
    (fun _ => by intro h; cases h) (fun _ _ => rfl)
    (fun x i h0 hi hm hok => .of_eq (bV x i) (by
      unfold maxI64 at hm
      obtain ⟨h1, ⟨h2, h3⟩, h4, h5, h6, h7⟩ := hok
      have a : 0 ≤ i ∧ i < (x.1.length : Int) := ⟨h0, hi⟩
      have b : 0 ≤ i ∧ i < (x.2.1.length : Int) := ⟨h0, h1⟩
      rw [wrap_fits (n := i + 1) (by omega) (by omega), wrap_fits (n := x.2.2 + 1) (by omega) (by omega)]
      refine (Tree.out_ite_true (decide_eq_true hi)).2 ⟨a, fun _ => a, b, a, fun _ => b, fun _ => a, fun _ _ _ => b, fun _ _ _ => a, fun _ _ _ _ _ => b, fun _ _ _ _ => b, ?_⟩
      refine (Tree.out_ite_false ?_).2 rfl
      rw [h4, h5]
      cases hl : lateL (rd .live x.1 i) (x.2.2 + 1) with
      | true => simp [h7 hl]
      | false => rw [h6 hl]; simp [eqLive_self]))
    (fun x i hi => .of_eq (bV x i) ((Tree.out_ite_false (decide_eq_false (by omega))).2 rfl))
noncomputable def c47 : Cfg := c46.addLoop 8 13 LV
theorem c47_good : GoodCfg c47 := c46_good.addLoop (by unfold OneLoop; kernel_rfl) lV

def wPart (x : List Fu.Live × Int) : Tree (AV × List Blk) :=
  .asrt (okSt x) (.asrt (missedL x.1 x.2 = false → ((((stepL x.1 x.2).length : Int)) != (x.1.length : Int)) = false → okF (stepL x.1 x.2)) (.ite (missedL x.1 x.2 || ((((stepL x.1 x.2).length : Int)) != (x.1.length : Int) || !idleL (stepL x.1 x.2))) (.ret (.blit false, []))
    (.asrt (0 = 0 ∧ TV ((x.1, stepL x.1 x.2, x.2), 0) = TV ((x.1, stepL x.1 x.2, x.2), 0)) (.asrt (0 ≤ (0 : Int) ∧ (x.1.length : Int) ≤ maxI64 ∧ okI (fun x _ => x) (fun _ _ => (none : Option Unit)) okV ((x.1.length : Int) - 0).toNat (x.1, stepL x.1 x.2, x.2) 0) (.ret (.blit true, []))))))
def waitsT (l : List Fu.Live) (now : Int) : Tree (AV × List Blk) :=
  .asrt (smallL l) (.asrt ((!mayL l now) = false → okF l) (.ite (!mayL l now || !idleL l) (.ret (.blit true, []))
    (.asrt (0 = 0 ∧ TW ((l, now), 0) = TW ((l, now), 0)) (.asrt (0 ≤ (0 : Int) ∧ (l.length : Int) ≤ maxI64 ∧ okI (fun x _ => x) brkW (fun _ _ => True) ((l.length : Int) - 0).toNat (l, now) 0)
      (optT ([], 0) (brkI (fun x _ => x) brkW ((l.length : Int) - 0).toNat (l, now) 0) (fun _ => .ret (.blit true, []))
        (wPart (foldI (fun x _ => x) ((l.length : Int) - 0).toNat (l, now) 0)))))))
theorem fWaits (l : List Fu.Live) (now : Int) : callC c47 60 8 [.view .live l, .int .i64 now] = waitsT l now := by kernel_rfl

/-! ### the law -/
theorem foldI_id {X : Type} : ∀ (n : Nat) (x : X) (i : Int), foldI (fun x _ => x) n x i = x
  | 0, _, _ => rfl
  | n + 1, x, i => foldI_id n x (i + 1)
theorem okI_id {X β : Type} {brk : X → Int → Option β} {ok : X → Int → Prop} {x : X} : ∀ (n : Nat) (i : Int), (∀ j, i ≤ j → j < i + n → ok x j) → okI (fun x _ => x) brk ok n x i
  | 0, _, _ => trivial
  | n + 1, i, h => ⟨h i (Int.le_refl _) (by omega), fun _ => okI_id n (i + 1) fun j h1 h2 => h j (by omega) (by omega)⟩
theorem brkI_none {X β : Type} {brk : X → Int → Option β} {x : X} : ∀ (n : Nat) (i : Int), brkI (fun x _ => x) brk n x i = none → ∀ j, i ≤ j → j < i + n → brk x j = none
  | 0, _, _, j, h1, h2 => by omega
  | n + 1, i, h, j, h1, h2 => by
    unfold brkI at h
    cases hb : brk x i with
    | some b => rw [hb] at h; cases h
    | none =>
      rw [hb] at h
      rcases Int.lt_or_eq_of_le h1 with h3 | rfl
      · exact brkI_none n (i + 1) h j (by omega) (by omega)
      · exact hb
theorem waits_all {l : List Fu.Live} {now : Int} (hA : ∀ x ∈ l, now < x.At) (hi : idleL l = true) : beginAll l now = l ∧ runFirst l = l := by
  constructor
  · unfold beginAll
    refine (List.map_congr_left fun x hx => ?_).trans (List.map_id l)
    unfold beginL
    have := hA x hx
    rw [decide_eq_false (by omega)]
    rfl
  · unfold runFirst
    unfold idleL at hi
    rw [hi]
    rfl
theorem stays_end (x : Fu.Live) (n : Int) : staysL x (endL n x) n := by
  refine ⟨rfl, rfl, fun h => ?_, fun h => ?_⟩
  · unfold endL atJ
    rw [show overJ x.J n = false from h]
    rfl
  · show (endL n x).J.On = false
    unfold endL atJ
    rw [show overJ x.J n = true from h]
    rfl
theorem rd_map {f : Fu.Live → Fu.Live} {l : List Fu.Live} {i : Int} (h0 : 0 ≤ i) (h1 : i < l.length) : rd .live (l.map f) i = f (rd .live l i) := by
  have hlt : i.toNat < l.length := by omega
  simp [rd, hlt]
theorem wPart_tru {l : List Fu.Live} {now : Int} (hm : mayL l now = true) (hA : ∀ x ∈ l, now < x.At) (hi : idleL l = true) : Tru (wPart (l, now)) := by
  obtain ⟨h1, h2, h3⟩ := mayL_all hm
  obtain ⟨h4, h5⟩ := waits_all hA hi
  have hs : okSt (l, now) := okSt_of h1 h2 (by omega) (by omega)
  have e : stepL l now = l.map (endL (now + 1)) := by unfold stepL; rw [h4, h5]
  have em : missedL l now = false := by
    unfold missedL
    rw [h4, h5]
    refine List.any_eq_false.2 fun x hx h => ?_
    unfold missL at h
    rw [idle_iff.1 hi x hx, Bool.and_false] at h
    cases h
  have hA' := step_all h1 h2 (by omega) (by omega)
  have el : (stepL l now).length = l.length := by rw [e, List.length_map]
  have ei : idleL (stepL l now) = true := by
    rw [idle_iff, e]
    intro y hy
    obtain ⟨x, hx, rfl⟩ := List.mem_map.1 hy
    have := idle_iff.1 hi x hx
    unfold endL atJ
    simp only
    cases overJ x.J (now + 1) with
    | true => rfl
    | false => exact this
  have hlen := h1.1
  refine .asrt hs (.asrt (fun _ _ => okF_of hA') (.ite (fun h => ?_) fun _ => .asrt ⟨rfl, rfl⟩ (.asrt ⟨Int.le_refl _, by simp only; unfold maxI64; omega, okI_id _ _ fun j k1 k2 => ?_⟩ .yes)))
  · simp only [em, ei, el] at h
    simp at h
  · simp only at k2
    have hj : j < (l.length : Int) := by omega
    refine ⟨by simp only; rw [el]; omega, ⟨by simp only; omega, by simp only; omega⟩, ?_⟩
    simp only
    rw [e, rd_map k1 hj]
    exact stays_end _ _
theorem waitsT_tru {l : List Fu.Live} {now : Int} (h : smallL l) : Tru (waitsT l now) := by
  refine .asrt h (.asrt (fun hm => ?_) (.ite (fun _ => .yes) fun hm => ?_))
  · exact okF_of (mayL_all (by simpa using hm)).1
  · rw [Bool.or_eq_false_iff] at hm
    have hmay : mayL l now = true := by simpa using hm.1
    have hi : idleL l = true := by simpa using hm.2
    have hlen := (mayL_all hmay).1.1
    refine .asrt ⟨rfl, rfl⟩ (.asrt ⟨Int.le_refl _, by unfold maxI64; omega, okI_id _ _ fun _ _ _ => trivial⟩ ?_)
    cases hb : brkI (fun x _ => x) brkW ((l.length : Int) - 0).toNat (l, now) 0 with
    | some b => exact Rez.itet rfl Tru.yes
    | none =>
      refine Rez.itee rfl ?_
      rw [foldI_id]
      refine wPart_tru hmay (fun x hx => ?_) hi
      obtain ⟨i, k0, k1, rfl⟩ := mem_rd hx
      have := brkI_none _ _ hb i k0 (by omega)
      have h5 := ((mayL_all hmay).1.2 _ hx).2.1
      unfold brkW at this
      cases hc : ((rd .live l i).At == now) with
      | true => simp only [hc] at this; cases this
      | false => simp at hc; omega
theorem conWaits_valid : ValidCon c47.P 8 (lawCon good2L) := lawCon_of (n := 60) c47_good (by kernel_rfl) fun args ⟨l, now, h1, h2, _⟩ => by
  subst h1
  exact ⟨_, fWaits l now, waitsT_tru (smallL_of h2)⟩

end Go.Fx
