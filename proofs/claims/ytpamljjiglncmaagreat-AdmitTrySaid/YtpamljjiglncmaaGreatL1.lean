import Derived.Test.YtpamljjiglncmaaGreatP0
/- The law AdmitTry. -/
namespace Go.Fx
open Go Go.Proofs

abbrev XTy := Fu.Serv × Fu.World
def hTy (x : XTy) : Heap := [(0, .cells (encS x.1)), (1, .cells (encW x.2))]
def TTy (x : XTy × Int) : St := ⟨puts (J 149) [(1, .ptr 0 0), (5, .ptr 1 0), (9, .int .i64 x.2)], hTy x.1, 3⟩
def sTy : List Sh := sets (Js 149) [(1, .keep), (5, .keep), (9, .int)]
def eTy : List Sh := sets (Js 149) [(1, .keep), (5, .keep), (2, .keep)]
def RTy' (x : XTy) : Ex × St := (.ret, ⟨puts (J 149) [(1, .ptr 0 0), (5, .ptr 1 0), (2, .blit false)], hTy x, 3⟩)
def ETy (x : XTy) : Ex × St := (.exit 0, ⟨puts (J 149) [(1, .ptr 0 0), (5, .ptr 1 0)], hTy x, 3⟩)
theorem bTy (x : XTy) (i : Int) : roundN c212 60 3 (loopAt c212.P 3 10) (norm2 3 [] [0, 1] sTy) (norm2 3 [] [0, 1] eTy) (TTy (x, i)) =
    .ite (decide (i < x.1.W.T.length)) (.asrt (decide (i ≥ (x.2.T.length : Int)) = false → 0 ≤ i ∧ i < x.2.T.length) (.asrt (decide (i ≥ (x.2.T.length : Int)) = false → 0 ≤ i ∧ i < x.1.W.T.length) (.asrt (decide (i ≥ (x.2.T.length : Int)) = false → (!eqJobB (rd .task x.2.T i).J (rd .task x.1.W.T i).J) = false → 0 ≤ i ∧ i < x.2.T.length) (.asrt (decide (i ≥ (x.2.T.length : Int)) = false → (!eqJobB (rd .task x.2.T i).J (rd .task x.1.W.T i).J) = false → 0 ≤ i ∧ i < x.1.W.T.length) (.asrt (decide (i ≥ (x.2.T.length : Int)) = false → (!eqJobB (rd .task x.2.T i).J (rd .task x.1.W.T i).J) = false → ((rd .task x.2.T i).At != (rd .task x.1.W.T i).At) = false → 0 ≤ i ∧ i < x.2.T.length) (.asrt (decide (i ≥ (x.2.T.length : Int)) = false → (!eqJobB (rd .task x.2.T i).J (rd .task x.1.W.T i).J) = false → ((rd .task x.2.T i).At != (rd .task x.1.W.T i).At) = false → 0 ≤ i ∧ i < x.1.W.T.length) (.asrt (decide (i ≥ (x.2.T.length : Int)) = false → (!eqJobB (rd .task x.2.T i).J (rd .task x.1.W.T i).J) = false → ((rd .task x.2.T i).At != (rd .task x.1.W.T i).At) = false → (!eqRingB (rd .task x.2.T i).H (rd .task x.1.W.T i).H) = false → 0 ≤ i ∧ i < x.2.T.length) (.asrt (decide (i ≥ (x.2.T.length : Int)) = false → (!eqJobB (rd .task x.2.T i).J (rd .task x.1.W.T i).J) = false → ((rd .task x.2.T i).At != (rd .task x.1.W.T i).At) = false → (!eqRingB (rd .task x.2.T i).H (rd .task x.1.W.T i).H) = false → 0 ≤ i ∧ i < x.1.W.T.length) (.ite (decide (i ≥ (x.2.T.length : Int)) || ((!eqJobB (rd .task x.2.T i).J (rd .task x.1.W.T i).J) || (((rd .task x.2.T i).At != (rd .task x.1.W.T i).At) || ((!eqRingB (rd .task x.2.T i).H (rd .task x.1.W.T i).H) || (rd .task x.2.T i).P != (rd .task x.1.W.T i).P)))) (.ret (RTy' x)) (.ret (.normal, TTy (x, IntKind.i64.wrap (i + 1))))))))))))) (.ret (ETy x)) := by kernel_rfl
def gTy (σ : St) : Option (XTy × Int) :=
  match nth σ.tmps 9, σ.heap with
  | .int .i64 i, [(_, .cells [.int .i64 a, .view .task t, .view .ape p, .int .i64 cu, .bool o, .int .i64 si, .int .i64 b, .int .i64 n, .view .aim l, .int .i64 y, .int .i64 z]), (_, .cells [.int .i64 a2, .view .task t2, .view .ape p2, .int .i64 c2])] => some ((⟨⟨a, t, p, cu⟩, ⟨o, si, b, n, l⟩, y, z⟩, ⟨a2, t2, p2, c2⟩), i)
  | .lit .i64 i, [(_, .cells [.int .i64 a, .view .task t, .view .ape p, .int .i64 cu, .bool o, .int .i64 si, .int .i64 b, .int .i64 n, .view .aim l, .int .i64 y, .int .i64 z]), (_, .cells [.int .i64 a2, .view .task t2, .view .ape p2, .int .i64 c2])] => some ((⟨⟨a, t, p, cu⟩, ⟨o, si, b, n, l⟩, y, z⟩, ⟨a2, t2, p2, c2⟩), i)
  | _, _ => none
def okTy (x : XTy × Int) : Prop := 0 ≤ x.2 ∧ keepT x.1.1.W.T x.1.2.T ∧ x.1.1.W.T.length ≤ 4
def LxTy (x : XTy × Int) : Tree (Ex × St) := .asrt (okTy x) (.ret (ETy x.1))
def LTy : LoopCon := entry 3 (norm2 3 [] [0, 1] sTy) TTy gTy LxTy
theorem lTy (hs : SubOf c212.P 3 (.loop (loopAt c212.P 3 10))) : SoundLoop c212 (loopAt c212.P 3 10) LTy := by
  refine loop_rule3 (C := c212) (g := 3) (l := 10) c212_good 60 3 _ _ (Weak.norm2 3 [] [0, 1] sTy) (Weak.norm2 3 [] [0, 1] eTy) hs TTy LxTy (fun x => (x.1.1.W.T.length - x.2).toNat) (fun x q h => ?_) entry_out
  obtain ⟨x, i⟩ := x
  obtain ⟨⟨h0, h1, h2⟩, h⟩ := Tree.out_asrt.1 h
  simp only at h0 h1 h2
  refine .of_eq (bTy x i) (Tree.wp_ite.2 ⟨fun hi => ?_, fun hi => Rnd.out h⟩)
  have hi : i < (x.1.W.T.length : Int) := of_decide_eq_true hi
  have hl := h1.1
  have i2 : 0 ≤ i ∧ i < (x.2.T.length : Int) := by omega
  have i1 : 0 ≤ i ∧ i < (x.1.W.T.length : Int) := by omega
  obtain ⟨k1, k2, k3, k4⟩ := h1.2 i h0 hi
  refine ⟨fun _ => i2, fun _ => i1, fun _ _ => i2, fun _ _ => i1, fun _ _ _ => i2, fun _ _ _ => i1, fun _ _ _ _ => i2, fun _ _ _ _ => i1, Tree.wp_ite.2 ⟨fun hb => ?_, fun _ => ?_⟩⟩
  · rw [decide_eq_false (show ¬ i ≥ (x.2.T.length : Int) by omega), k1, k2, k3, k4, eqJobB_eq, eqRingB_eq] at hb
    simp at hb
  · rw [wrap_fits (n := i + 1) (by omega) (by omega)]
    exact Rnd.go (m := fun x : XTy × Int => (x.1.1.W.T.length - x.2).toNat) (x := (x, i)) (x, i + 1) (by simp only; omega) (Tree.out_asrt.2 ⟨⟨by simp only; omega, h1, h2⟩, h⟩)
noncomputable def c213 : Cfg := c212.addLoop 3 10 LTy
theorem c213_good : GoodCfg c213 := c212_good.addLoop (by unfold OneLoop; kernel_rfl) lTy
def good1S (args : List AV) : Prop := ∃ s : Fu.Serv, args = [.agg (encS s)] ∧ smallS s
def badTy (s : Fu.Serv) : Bool := !((tryV s).2 == (moveV s).2) || bif (tryV s).2 then !decide ((tryV s).1 = (moveV s).1.W) || (tryV s).2 && !safeW (tryV s).1 else (tryV s).2 && !safeW (tryV s).1
def tyT (s : Fu.Serv) : Tree (AV × List Blk) := .asrt (smallS s) (.asrt ((!nearE s) = false → smallS s) (.ite (!nearE s || !mayE s) (.ret (.blit true, [])) (.asrt (smallS s) (.asrt (smallS s) (.asrt ((!((tryV s).2 == (moveV s).2)) = false → (tryV s).2 = true → smallW (tryV s).1)
  (.asrt ((!((tryV s).2 == (moveV s).2)) = false → (tryV s).2 = true → (!decide ((tryV s).1 = (moveV s).1.W)) = false → (tryV s).2 = true → smallW (tryV s).1) (.asrt ((!((tryV s).2 == (moveV s).2)) = false → (tryV s).2 = false → (tryV s).2 = true → smallW (tryV s).1)
    (.ite (badTy s) (.ret (.blit false, [])) (.asrt (3 = 3 ∧ TTy ((s, (tryV s).1), 0) = TTy ((s, (tryV s).1), 0)) (.asrt (okTy ((s, (tryV s).1), 0)) (.ret (.bool (((tryV s).1.A.length : Int) == s.W.A.length && (tryV s).1.Now == s.W.Now), []))))))))))))
theorem fLawTy (s : Fu.Serv) : callC c213 60 3 [.agg (encS s)] = tyT s := by kernel_rfl
theorem tyT_tru {s : Fu.Serv} (h : smallS s) : Tru (tyT s) := by
  refine .asrt h (.asrt (fun _ => h) (.ite (fun _ => .yes) fun hb => ?_))
  rw [Bool.or_eq_false_iff, Bool.not_eq_false', Bool.not_eq_false'] at hb
  have hm := hb.2
  obtain ⟨k1, k2, k3, k4, k5⟩ := try_keep hm
  have hw : (tryV s).2 = true → smallW (tryV s).1 := fun ht => mayW_smallE (safe_may (try_safe ht).1)
  have hT := (mayW_iff.1 (safeE_may hm)).2.1
  refine .asrt h (.asrt h (.asrt (fun _ ht => hw ht) (.asrt (fun _ ht _ _ => hw ht) (.asrt (fun _ _ ht => hw ht) (.ite (fun hb => ?_) fun _ => .asrt ⟨rfl, rfl⟩ (.asrt ⟨Int.le_refl _, k1, hT⟩ ?_))))))
  · unfold badTy moveV at hb
    cases ht : (tryV s).2 with
    | false => rw [ht] at hb; cases hb
    | true =>
      rw [ht, (try_safe ht).1] at hb
      simp at hb
  · exact .of (by rw [k3, k4, beq_self_eq_true, beq_self_eq_true]; rfl)
theorem conTy_valid : ValidCon c213.P 3 (lawCon good1S) := lawCon_of (n := 60) c213_good (by kernel_rfl) fun args ⟨s, h1, h2⟩ => by
  subst h1
  exact ⟨_, fLawTy s, tyT_tru h2⟩
end Go.Fx
