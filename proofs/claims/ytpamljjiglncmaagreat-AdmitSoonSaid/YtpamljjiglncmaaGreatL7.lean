import Derived.Test.YtpamljjiglncmaaGreatP3
import Derived.Test.YtpamljjiglncmaaGreatFxFr
namespace Go.Fx
open Go Go.Proofs
def tickF (w : Fu.World) (d : List Int) : AV := .tup [.agg (encW (tickW w d)), .agg [.int .i64 w.Now, .int .i64 (whoW (startW w d)).1, .int .i64 (whoW (startW w d)).2, .int .i64 (midW w d).2, .view (.int .i64) (beginW w d).2, .view (.int .i64) (tickM w d), .view (.int .i64) (pickW (startW w d)).2], .blit true]
def conTickF : Con := flatCon dTk tickY fun x => tickF x.1 x.2
set_option maxRecDepth 100000 in
theorem conTickF_valid : ValidCon c212.P 23 conTickF := resCon_frozen conTickY_valid fun _ => ⟨_, rfl, .refl _⟩
noncomputable def c213 : Cfg := c212.addQuiet 23 conTickF
theorem c213_good : GoodCfg c213 := c212_good.addQuiet conTickF_valid flatCon_quiet
abbrev XSn := Fu.Serv × Fu.Spec × List Int
def hSn (x : XSn) : Heap := [(0, .cells (encS x.1)), (1, .cells (encSpec x.2.1))]
def TSn (x : XSn × Int) : St := ⟨puts (J 159) [(2, .view (.int .i64) x.1.2.2), (3, .ptr 0 0), (4, .ptr 1 0), (9, .int .i64 x.2)], hSn x.1, 2⟩
def sSn : List Sh := sets (Js 159) [(2, .view (.int .i64)), (3, .keep), (4, .keep), (9, .int)]
def eSn : List Sh := sets (Js 159) [(2, .view (.int .i64)), (3, .keep), (4, .keep), (6, .keep)]
def RSn (x : XSn × Int) : Ex × St := (.ret, ⟨puts (J 159) [(2, .view (.int .i64) x.1.2.2), (3, .ptr 0 0), (4, .ptr 1 0), (6, .blit true)], hSn x.1, 2⟩)
def ESn (x : XSn) : Ex × St := (.exit 0, ⟨puts (J 159) [(2, .view (.int .i64) x.2.2), (3, .ptr 0 0), (4, .ptr 1 0)], hSn x, 2⟩)
def pSn (x : XSn) (i : Int) : Bool := decide ((rd .task x.1.W.T i).N > 274877906944)
theorem bSn (x : XSn) (i : Int) : roundN c213 60 9 (loopAt c213.P 9 6) (norm2 2 [] [0, 1] sSn) (norm2 2 [] [0, 1] eSn) (TSn (x, i)) =
    .ite (decide (i < x.1.W.T.length)) (.asrt (0 ≤ i ∧ i < x.1.W.T.length) (.ite (pSn x i) (.ret (RSn (x, i))) (.ret (.normal, TSn (x, IntKind.i64.wrap (i + 1)))))) (.ret (ESn x)) := by kernel_rfl
def gSn (σ : St) : Option (XSn × Int) :=
  match nth σ.tmps 2, nth σ.tmps 9, σ.heap with
  | .view (.int .i64) d, .int .i64 i, [(_, .cells [.int .i64 a, .view .task t, .view .ape p, .int .i64 cu, .bool o1, .int .i64 si, .int .i64 b, .int .i64 n, .view .aim l, .int .i64 y, .int .i64 z]), (_, .cells [.int .i64 c1, .int .i64 c2, .int .i64 c3, .int .i64 c4, .int .i64 c5, .int .i64 c6])] => some ((⟨⟨a, t, p, cu⟩, ⟨o1, si, b, n, l⟩, y, z⟩, ⟨c1, c2, c3, c4, c5, c6⟩, d), i)
  | _, _, _ => none
def LSn : LoopCon := searchF 2 (norm2 2 [] [0, 1] sSn) TSn gSn (fun x => x.1.W.T.length) (fun _ => True) pSn RSn ESn
theorem lSn (hs : SubOf c213.P 9 (.loop (loopAt c213.P 9 6))) : SoundLoop c213 (loopAt c213.P 9 6) LSn :=
  search_loop (C := c213) (g := 9) (l := 6) c213_good 60 2 _ _ (Weak.norm2 2 [] [0, 1] sSn) (Weak.norm2 2 [] [0, 1] eSn) hs TSn gSn (fun x => x.1.W.T.length) (fun _ => True) pSn RSn ESn (fun _ => by intro h; cases h) (fun _ => by intro h; cases h)
    (fun x i h0 hi hl _ => .of_eq (bSn x i) (by
      rw [wrap_fits (n := i + 1) (by omega) (by omega)]
      refine (Tree.out_ite_true (decide_eq_true hi)).2 ⟨⟨h0, hi⟩, ?_⟩
      cases h : pSn x i with
      | true => exact (Tree.out_ite_true rfl).2 rfl
      | false => exact (Tree.out_ite_false rfl).2 rfl))
    (fun x i hi => .of_eq (bSn x i) ((Tree.out_ite_false (decide_eq_false (by omega))).2 rfl))
noncomputable def c214 : Cfg := c213.addLoop 9 6 LSn
theorem c214_good : GoodCfg c214 := c213_good.addLoop (by unfold OneLoop; kernel_rfl) lSn
abbrev XSo := Fu.Serv × List Int × Int × Int
def TSo7 (x : XSo × Int) : St := ⟨puts (J 159) [(2, .view (.int .i64) x.1.2.1), (3, .ptr 0 0), (10, .int .i64 x.1.2.2.1), (12, .int .i64 x.1.2.2.2), (13, .int .i64 x.2)], [(0, .cells (encS x.1.1))], 2⟩
def sSo7 : List Sh := sets (Js 159) [(2, .view (.int .i64)), (3, .keep), (10, .int), (12, .int), (13, .int)]
def fSo7 (σ : St) : St := norm2 2 [] [0] sSo7 (freeze 2 σ)
theorem weak_fSo7 (σ : St) : Weak 2 σ (fSo7 σ) := (Weak.freeze 2 2 σ).trans (Weak.norm2 2 [] [0] sSo7 _)
def eSo7 (σ : St) : St := norm2 2 [] [] (sets (Js 159) [(6, .keep)]) σ
def RSo7 (b : Bool) : Ex × St := (.ret, ⟨puts (J 159) [(6, .bool b)], [], 2⟩)
def RSo8 : Ex × St := (.ret, ⟨puts (J 159) [(6, .blit false)], [], 2⟩)
def ESo7 : Ex × St := (.exit 2, ⟨J 159, [], 2⟩)
def lastX7 (x : XSo) : Int := IntKind.i64.wrap (((moveV x.1).1.W.T.length : Int) - 1)
def endSo (x : XSo) : Bool := decide (x.1.W.Now ≤ x.2.2.2) && (decide (lastX7 x ≥ 0) && ((rd .task (moveV x.1).1.W.T (lastX7 x)).ID == x.2.2.1 && safeW (moveV x.1).1.W))
def tkS (x : XSo) : Fu.Serv := { x.1 with W := tickW x.1.W x.2.1 }
theorem bSo7 (x : XSo) (k : Int) : roundN c214 60 9 (loopAt c214.P 9 17) fSo7 eSo7 (TSo7 (x, k)) =
    .ite (decide (k < 1200)) (.asrt (smallS x.1) (.ite (moveV x.1).2 (.asrt (decide (x.1.W.Now ≤ x.2.2.2) = true → decide (lastX7 x ≥ 0) = true → 0 ≤ lastX7 x ∧ lastX7 x < (moveV x.1).1.W.T.length)
      (.asrt (decide (x.1.W.Now ≤ x.2.2.2) = true → decide (lastX7 x ≥ 0) = true → ((rd .task (moveV x.1).1.W.T (lastX7 x)).ID == x.2.2.1) = true → smallW (moveV x.1).1.W) (.ret (RSo7 (endSo x)))))
      (.asrt (tickY (x.1.W, x.2.1)) (.ite (decide (((tickM x.1.W x.2.1).length : Int) > 0)) (.ret RSo8) (.ite (decide ((x.2.1.length : Int) > 0)) (.asrt (1 ≤ (x.2.1.length : Int) ∧ (x.2.1.length : Int) = x.2.1.length ∧ (x.2.1.length : Int) ≤ x.2.1.length) (.asrt (0 ≤ (0 : Int) ∧ (0 : Int) < x.2.1.length)
        (.asrt ([rd (.int .i64) x.2.1 0] ≠ [] ∧ ((x.2.1.take (x.2.1.length : Int).toNat).drop 1 ++ [rd (.int .i64) x.2.1 0]).length * 8 ≤ 140737488355328) (.ret (.normal, TSo7 ((tkS x, (x.2.1.take (x.2.1.length : Int).toNat).drop 1 ++ [rd (.int .i64) x.2.1 0], x.2.2), IntKind.i64.wrap (k + 1)))))))
        (.ret (.normal, TSo7 ((tkS x, x.2), IntKind.i64.wrap (k + 1))))))))) (.ret ESo7) := by kernel_rfl
def gSo7 (σ : St) : Option (XSo × Int) :=
  match nth σ.tmps 2, nth σ.tmps 10, nth σ.tmps 12, nth σ.tmps 13, σ.heap with
  | .view (.int .i64) d, .int .i64 i, .int .i64 b0, .int .i64 k, [(_, .cells [.int .i64 a, .view .task t, .view .ape p, .int .i64 cu, .bool o1, .int .i64 si, .int .i64 b, .int .i64 n, .view .aim l, .int .i64 y, .int .i64 z])] => some ((⟨⟨a, t, p, cu⟩, ⟨o1, si, b, n, l⟩, y, z⟩, d, i, b0), k)
  | _, _, _, _, _ => none
def okSo7 (x : XSo × Int) : Prop := Waits x.1.1 x.1.2.2.1 x.1.2.2.2 x.2 ∧ x.1.2.1.length ≤ 100
def LxSo7 (x : XSo × Int) : Tree (Ex × St) := .asrt (okSo7 x) (.ret (RSo7 true))
def LSo7 : LoopCon := entry 2 fSo7 TSo7 gSo7 LxSo7
theorem lSo7 (hs : SubOf c214.P 9 (.loop (loopAt c214.P 9 17))) : SoundLoop c214 (loopAt c214.P 9 17) LSo7 := by
  refine loop_rule3 (C := c214) (g := 9) (l := 17) c214_good 60 2 fSo7 eSo7 weak_fSo7 (fun σ => Weak.norm2 2 [] [] _ σ) hs TSo7 LxSo7 (fun x => (1200 - x.2).toNat) (fun x q h => ?_) entry_out
  obtain ⟨⟨s, d, id, byT⟩, k⟩ := x
  obtain ⟨⟨h1, h2⟩, h⟩ := Tree.out_asrt.1 h
  have h1 : Waits s id byT k := h1
  have h2 : d.length ≤ 100 := h2
  have ht := h1.time
  have hp := h1.pos
  have hm := h1.inn.may
  refine .of_eq (bSo7 (s, d, id, byT) k) (Tree.wp_ite.2 ⟨fun _ => ⟨mayE_small hm, Tree.wp_ite.2 ⟨fun hmv => ?_, fun hmv => ?_⟩⟩, fun hi => ?_⟩)
  · have hmv : (moveV s).2 = true := hmv
    have htr : (tryV s).2 = true := by
      unfold moveV at hmv
      cases hb : (tryV s).2 with
      | true => rfl
      | false => rw [hb] at hmv; cases hmv
    have ew : (moveV s).1.W = (tryV s).1 := by unfold moveV; rw [htr]; rfl
    obtain ⟨l1, l2⟩ := h1.inn.last
    have hT := (mayW_iff.1 (safeE_may hm)).2.1
    have el : lastX7 (s, d, id, byT) = (s.W.T.length : Int) := by
      show IntKind.i64.wrap (((moveV s).1.W.T.length : Int) - 1) = _
      rw [ew, l1, wrap_fits (by omega) (by omega)]
      omega
    have hsafe := (try_safe htr).1
    have hend : endSo (s, d, id, byT) = true := by
      unfold endSo
      rw [el]
      show (decide (s.W.Now ≤ byT) && (decide ((s.W.T.length : Int) ≥ 0) && ((rd .task (moveV s).1.W.T s.W.T.length).ID == id && safeW (moveV s).1.W))) = true
      rw [ew, hsafe, l2, h1.new, decide_eq_true ht.1, decide_eq_true (show (s.W.T.length : Int) ≥ 0 by omega), beq_self_eq_true]
      rfl
    refine ⟨fun _ _ => ?_, fun _ _ _ => ?_, ?_⟩
    · rw [el]
      show 0 ≤ (s.W.T.length : Int) ∧ (s.W.T.length : Int) < ((moveV s).1.W.T.length : Int)
      rw [ew, l1]
      omega
    · show smallW (moveV s).1.W
      rw [ew]
      exact mayW_smallE (safe_may hsafe)
    · rw [hend]
      exact Rnd.ret h
  · have hmv : (moveV s).2 = false := hmv
    have hidle : idleL (s.W.T.map liveK) = false := by
      cases hi : idleL (s.W.T.map liveK) with
      | false => rfl
      | true =>
        have := h1.inn.idle h1.spec hi
        unfold moveV at hmv
        rw [this] at hmv
        cases hmv
    have ha := h1.ahead
    have hsf := safe_tick ha (mayE_safe hm).1 d
    have hn := h1.next hidle d
    have hnow := ha.now
    refine ⟨⟨(mayE_small hm).1, ?_⟩, Tree.wp_ite.2 ⟨fun hb => ?_, fun _ => ?_⟩⟩
    · show (!mayW s.W || s.W.Now == 274877906944) = false
      rw [safeE_may hm, show (s.W.Now == 274877906944) = false from beq_eq_false_iff_ne.2 (by omega)]
      rfl
    · have hb : decide (((tickM s.W d).length : Int) > 0) = true := hb
      rw [hsf.2] at hb
      cases hb
    · rw [wrap_fits (n := k + 1) (by omega) (by omega)]
      refine Tree.wp_ite.2 ⟨fun hd => ?_, fun hd => ?_⟩
      · have hd : (d.length : Int) > 0 := of_decide_eq_true hd
        refine ⟨⟨by show (1 : Int) ≤ d.length; omega, rfl, Int.le_refl _⟩, ⟨Int.le_refl _, by show (0 : Int) < d.length; omega⟩, ⟨by simp, ?_⟩, ?_⟩
        · simp
          omega
        · refine Rnd.go (m := fun x : XSo × Int => (1200 - x.2).toNat) (x := ((s, d, id, byT), k)) ((tkS (s, d, id, byT), (d.take (d.length : Int).toNat).drop 1 ++ [rd (.int .i64) d 0], id, byT), k + 1) (by simp only; omega) (Tree.out_asrt.2 ⟨⟨hn, ?_⟩, h⟩)
          simp
          omega
      · exact Rnd.go (m := fun x : XSo × Int => (1200 - x.2).toNat) (x := ((s, d, id, byT), k)) ((tkS (s, d, id, byT), d, id, byT), k + 1) (by simp only; omega) (Tree.out_asrt.2 ⟨⟨hn, h2⟩, h⟩)
  · have := of_decide_eq_false hi
    omega
noncomputable def c215 : Cfg := c214.addLoop 9 17 LSo7
theorem c215_good : GoodCfg c215 := c214_good.addLoop (by unfold OneLoop; kernel_rfl) lSo7
def good3S (args : List AV) : Prop := ∃ (s : Fu.Serv) (p : Fu.Spec) (d : List Int), args = [.agg (encS s), .agg (encSpec p), .view (.int .i64) d] ∧ smallS s ∧ (d.length : Int) < 17592186044416
def soT (s : Fu.Serv) (p : Fu.Spec) (d : List Int) : Tree (AV × List Blk) := .asrt (smallS s) (.asrt ((!nearE s) = false → decide ((d.length : Int) > 100) = false → smallS s) (.ite (!nearE s || (decide ((d.length : Int) > 100) || (!mayE s || decide (s.W.Now > 137438953472)))) (.ret (.blit true, []))
  (.asrt (2 = 2 ∧ TSn ((s, p, d), 0) = TSn ((s, p, d), 0)) (.asrt ((0 ≤ (0 : Int) ∧ (s.W.T.length : Int) < 17592186044416) ∧ True) (.ite (firstP (pSn (s, p, d)) ((s.W.T.length : Int) - 0).toNat 0).isSome (.ret (.blit true, [])) (.asrt (smallS s) (.ite ((joinR s p).2 != 0) (.ret (.blit true, []))
    (.ite (decide ((joinR s p).1.1.R.By < (joinR s p).1.1.W.Now) || decide ((joinR s p).1.1.R.By > IntKind.i64.wrap ((joinR s p).1.1.W.Now + 1152))) (.ret (.blit false, [])) (.asrt (2 = 2 ∧ TSo7 (((joinR s p).1.1, d, (joinR s p).1.2, (joinR s p).1.1.R.By), 0) = TSo7 (((joinR s p).1.1, d, (joinR s p).1.2, (joinR s p).1.1.R.By), 0))
      (.asrt (okSo7 (((joinR s p).1.1, d, (joinR s p).1.2, (joinR s p).1.1.R.By), 0)) (.ret (.bool true, []))))))))))))
theorem fLawSo (s : Fu.Serv) (p : Fu.Spec) (d : List Int) : callC c215 60 9 [.agg (encS s), .agg (encSpec p), .view (.int .i64) d] = soT s p d := by kernel_rfl
theorem soT_tru {s : Fu.Serv} {p : Fu.Spec} {d : List Int} (hs : smallS s) : Tru (soT s p d) := by
  have hls := smallS_len hs
  refine .asrt hs (.asrt (fun _ _ => hs) (.ite (fun _ => .yes) fun hb => .asrt ⟨rfl, rfl⟩ (.asrt ⟨⟨Int.le_refl _, hls.1⟩, trivial⟩ (.ite (fun _ => .yes) fun hf => .asrt hs (.ite (fun _ => .yes) fun hj => ?_)))))
  simp only [Bool.or_eq_false_iff, Bool.not_eq_false', decide_eq_false_iff_not] at hb
  obtain ⟨_, hd, hm, hn⟩ := hb
  have hz : (joinR s p).2 = 0 := bne_eq_false_iff_eq.1 hj
  have hlow : lowN 0 s.W := by
    refine ⟨by omega, fun t ht => ?_⟩
    obtain ⟨i, ⟨i0, i1⟩, e⟩ := memRd (r := .task) ht
    cases hp : firstP (pSn (s, p, d)) ((s.W.T.length : Int) - 0).toNat 0 with
    | some j => rw [hp] at hf; cases hf
    | none =>
      have := firstP_none hp i i0 (by omega)
      unfold pSn at this
      have := of_decide_eq_false this
      rw [e] at this
      omega
  obtain ⟨hw, eW, eB⟩ := join_waits hm hlow hz
  have hr := byV_range (mayE_safe hm).1
  have hnow := (mayW_iff.1 (safeE_may hm)).1
  refine .ite (fun hc => ?_) fun _ => .asrt ⟨rfl, rfl⟩ (.asrt ⟨hw, by simp only; omega⟩ (.of rfl))
  rw [eW, eB, wrap_fits (n := s.W.Now + 1152) (by omega) (by omega), decide_eq_false (show ¬ byV s < s.W.Now by omega), decide_eq_false (show ¬ byV s > s.W.Now + 1152 by omega)] at hc
  cases hc
theorem conSo_valid : ValidCon c215.P 9 (lawCon good3S) := lawCon_of (n := 60) c215_good (by kernel_rfl) fun args ⟨s, p, d, h1, h2, _⟩ => by
  subst h1
  exact ⟨_, fLawSo s p d, soT_tru h2⟩
end Go.Fx
