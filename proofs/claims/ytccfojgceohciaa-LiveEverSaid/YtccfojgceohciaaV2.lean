import Derived.Test.YtccfojgceohciaaO1
/- The law LiveOn. -/
namespace Go.Fx
open Go Go.Proofs

/-! ### steps come to where nobody must -/
def stepK (l : List Fu.Live) (t : Int) : List Fu.Live := stepL l t
def okOn (l : List Fu.Live) (t : Int) : Prop := okF l ∧ okSt (l, t) ∧ idleL l = false ∧ missedL l t = false ∧ t ≤ 1099511627776
theorem lookR_le : ∀ (k : Nat) (l : List Fu.Live) (t : Int), t ≤ (lookR k l t).1 ∧ (lookR k l t).1 ≤ t + k
  | 0, _, _ => by simp [lookR]
  | k + 1, l, t => by
    unfold lookR
    have h := lookR_le k (stepL l t) (t + 1)
    cases idleL l with
    | true => simp only [cond_true]; omega
    | false =>
      cases missedL l t with
      | true => simp only [cond_false, cond_true]; omega
      | false => simp only [cond_false]; omega
theorem look_on : ∀ (k : Nat) (b : Int) (l : List Fu.Live) (t n : Int), AllI b l t → 0 ≤ t → t + k ≤ 1099511627000 → b + k ≤ 1099511627776 → lookR k l t = (n, true) →
    t ≤ n ∧ n ≤ t + k ∧ okI stepK (fun _ _ => (none : Option Unit)) okOn (n - t).toNat l t ∧ idleL (foldI stepK (n - t).toNat l t) = true ∧ okF (foldI stepK (n - t).toNat l t)
  | 0, _, _, _, _, _, _, _, _, h => by simp [lookR] at h
  | k + 1, b, l, t, n, hA, h0, h1, hb, h => by
    unfold lookR at h
    cases hi : idleL l with
    | true =>
      rw [hi] at h
      simp only [cond_true, Prod.mk.injEq, and_true] at h
      subst h
      rw [show (t - t).toNat = 0 by omega]
      exact ⟨Int.le_refl _, by omega, trivial, hi, okF_of hA⟩
    | false =>
      cases hm : missedL l t with
      | true => rw [hi, hm] at h; simp at h
      | false =>
        rw [hi, hm] at h
        simp only [cond_false] at h
        have hA' := step_all hA h0 (by omega) (by omega)
        obtain ⟨k1, k2, k3, k4, k5⟩ := look_on k (b + 1) (stepL l t) (t + 1) n hA' (by omega) (by omega) (by omega) h
        rw [show (n - t).toNat = (n - (t + 1)).toNat + 1 by omega]
        exact ⟨by omega, by omega, ⟨⟨okF_of hA, okSt_of hA h0 (by omega) (by omega), hi, hm, by omega⟩, fun _ => k3⟩, k4, k5⟩

/-! ### the walk -/
abbrev XO := Int × List Fu.Live × Int
def TO (x : XO) : St := ⟨puts (J 65) [(0, .view .live x.2.1), (4, .blit false), (6, .int .i64 x.1), (8, .int .i64 x.2.2)], [], 0⟩
def sO : List Sh := sets (Js 65) [(0, .keep), (4, .keep), (6, .keep), (8, .int)]
def eO : List Sh := sets (Js 65) [(0, .keep)]
def EO (l : List Fu.Live) : Ex × St := (.exit 0, ⟨puts (J 65) [(0, .view .live l)], [], 0⟩)
def RO (l : List Fu.Live) : Ex × St := (.ret, ⟨puts (J 65) [(0, .view .live l)], [], 0⟩)
theorem bO (n t : Int) (l : List Fu.Live) : roundN c44 60 6 (loopAt c44.P 6 8) (norm2 0 [] [] sO) (norm2 0 [] [] eO) (TO (n, l, t)) =
    .ite (decide (t < n)) (.asrt (okF l) (.asrt (idleL l = false → okF l) (.asrt (idleL l = false → decide (firstL l < 0) = false → okF l) (.ite (idleL l || (decide (firstL l < 0) || decide (firstL l ≥ l.length))) (.ret (RO l))
      (.asrt (okSt (l, t)) (.ite (missedL l t) (.ret (RO l)) (.ret (.normal, TO (n, stepL l t, IntKind.i64.wrap (t + 1)))))))))) (.ret (EO l)) := by kernel_rfl
def gO (σ : St) : Option XO :=
  match nth σ.tmps 0, nth σ.tmps 6, nth σ.tmps 8 with
  | .view .live l, .int .i64 n, .int .i64 t => some (n, l, t)
  | _, _, _ => none
def LO : LoopCon := countF 0 (norm2 0 [] [] sO) TO gO okOn stepK EO
theorem idle_first {l : List Fu.Live} (h : idleL l = false) : decide (firstL l < 0) = false ∧ decide (firstL l ≥ l.length) = false := by
  unfold idleL at h
  rcases firstL_range l with h1 | h1
  · rw [h1] at h; cases h
  · simp; omega
theorem lO (hs : SubOf c44.P 6 (.loop (loopAt c44.P 6 8))) : SoundLoop c44 (loopAt c44.P 6 8) LO :=
  count_fold (C := c44) (g := 6) (l := 8) c44_good 60 0 _ _ (Weak.norm2 0 [] [] sO) (Weak.norm2 0 [] [] eO) hs TO gO okOn stepK EO (fun _ => by intro h; cases h)
    (fun n l t h0 ht hm hok => .of_eq (bO n t l) (by
      obtain ⟨k1, k2, k3, k4, k5⟩ := hok
      obtain ⟨k6, k7⟩ := idle_first k3
      rw [wrap_fits (by omega) (by omega)]
      refine (Tree.out_ite_true (decide_eq_true ht)).2 ⟨k1, fun _ => k1, fun _ _ => k1, ?_⟩
      rw [k3, k6, k7]
      refine (Tree.out_ite_false rfl).2 ⟨k2, (Tree.out_ite_false k4).2 rfl⟩))
    (fun n l t ht => .of_eq (bO n t l) ((Tree.out_ite_false (decide_eq_false (by omega))).2 rfl))
noncomputable def c45 : Cfg := c44.addLoop 6 8 LO
theorem c45_good : GoodCfg c45 := c44_good.addLoop (by unfold OneLoop; kernel_rfl) lO
def lvOnT (l : List Fu.Live) (now : Int) : Tree (AV × List Blk) :=
  .asrt (smallL l) (.ite (!mayL l now) (.ret (.blit true, [])) (.asrt (smallL l) (.ite (!(lookL l now).2 || decide (IntKind.i64.wrap ((lookL l now).1 - now) > 1500)) (.ret (.blit true, []))
    (.asrt (0 = 0 ∧ TO ((lookL l now).1, l, now) = TO ((lookL l now).1, l, now)) (.asrt (0 ≤ now ∧ (lookL l now).1 ≤ maxI64 ∧ okI stepK (fun _ _ => (none : Option Unit)) okOn ((lookL l now).1 - now).toNat l now)
      (.asrt (okF (foldI stepK ((lookL l now).1 - now).toNat l now)) (.ret (.bool (idleL (foldI stepK ((lookL l now).1 - now).toNat l now)), []))))))))
theorem fLvOn (l : List Fu.Live) (now : Int) : callC c45 60 6 [.view .live l, .int .i64 now] = lvOnT l now := by kernel_rfl
theorem lvOnT_tru {l : List Fu.Live} {now : Int} (h : smallL l) : Tru (lvOnT l now) := by
  refine .asrt h (.ite (fun _ => .yes) fun hm => .asrt h (.ite (fun _ => .yes) fun hl => ?_))
  have hm : mayL l now = true := by simpa using hm
  obtain ⟨h1, h2, h3⟩ := mayL_all hm
  have e : lookL l now = lookR 2000 l now := by unfold lookL; rw [hm]; rfl
  have hl2 : (lookL l now).2 = true := by
    rw [Bool.or_eq_false_iff] at hl
    simpa using hl.1
  have e2 : lookR 2000 l now = ((lookL l now).1, true) := by rw [← hl2, ← e]
  obtain ⟨k1, k2, k3, k4, k5⟩ := look_on 2000 _ l now _ h1 h2 (by omega) (by omega) e2
  exact .asrt ⟨rfl, rfl⟩ (.asrt ⟨h2, by unfold maxI64; omega, k3⟩ (.asrt k5 (.of k4)))
theorem smallL_of {l : List Fu.Live} (h : (l.length : Int) * 128 ≤ 140737488351232) : smallL l := by unfold smallL; omega
/-- Arguments: tasks, and a time. -/
def good2L (args : List AV) : Prop := ∃ (l : List Fu.Live) (now : Int), args = [.view .live l, .int .i64 now] ∧ (l.length : Int) * 128 ≤ 140737488351232 ∧ wf64 now
theorem conLvOn_valid : ValidCon c45.P 6 (lawCon good2L) := lawCon_of (n := 60) c45_good (by kernel_rfl) fun args ⟨l, now, h1, h2, _⟩ => by
  subst h1
  exact ⟨_, fLvOn l now, lvOnT_tru (smallL_of h2)⟩

end Go.Fx
