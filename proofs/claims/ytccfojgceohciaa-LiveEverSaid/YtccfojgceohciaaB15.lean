import Derived.Test.YtccfojgceohciaaB14
import Derived.Test.YtccfojgceohciaaC2
/- Contracts: the document's answer for live: what one time comes to, looking on, the same. -/
namespace Go.Fx
open Go Go.Proofs

/-! ### fuseeref12.Step -/
def TD (n : Nat) (x : (List Fu.Live × Int × Bool) × Int) : St := ⟨puts (J 71) [(1, .int .i64 x.1.2.1), (6, .own 0), (10, .bool x.1.2.2), (11, .int .i64 x.2)], [(0, .rows .live 39 x.1.1)], n⟩
def sD : List Sh := sets (Js 71) [(1, .keep), (6, .keep), (10, .bool), (11, .int)]
def eD : List Sh := sets (Js 71) [(6, .keep), (10, .bool)]
def ED (n : Nat) (x : List Fu.Live × Int × Bool) : Ex × St := (.exit 0, ⟨puts (J 71) [(6, .own 0), (10, .bool x.2.2)], [(0, .rows .live 39 x.1)], n⟩)
def rndD (n : Nat) (x : List Fu.Live × Int × Bool) (i : Int) : Tree (Ex × St) :=
    .ite (decide (i < x.1.length)) (.asrt (0 ≤ i ∧ i < x.1.length) (.asrt (0 ≤ i ∧ i < x.1.length) (.asrt (smallC (jobAt x.1 i)) (.asrt (0 ≤ i ∧ i < x.1.length) (.asrt (0 ≤ i ∧ i < x.1.length) (.asrt (0 ≤ i ∧ i < x.1.length) (.asrt (0 ≤ i ∧ i < x.1.length)
      (.ret (.normal, TD n ((upd .live x.1 i (endL (IntKind.i64.wrap (x.2.1 + 1)) (rd .live x.1 i)), x.2.1, (atF (jobAt x.1 i) (IntKind.i64.wrap (x.2.1 + 1)) == 3 && mustJ (jobAt x.1 i)) || x.2.2), IntKind.i64.wrap (i + 1))))))))))) (.ret (ED n x))
theorem bD1 (x : List Fu.Live × Int × Bool) (i : Int) : roundN c57 60 14 (loopAt c57.P 14 8) (norm2 1 [] [0] sD) (norm2 1 [] [0] eD) (TD 1 (x, i)) = rndD 1 x i := by kernel_rfl
theorem bD2 (x : List Fu.Live × Int × Bool) (i : Int) : roundN c57 60 14 (loopAt c57.P 14 8) (norm2 2 [] [0] sD) (norm2 2 [] [0] eD) (TD 2 (x, i)) = rndD 2 x i := by kernel_rfl
def gD (σ : St) : Option ((List Fu.Live × Int × Bool) × Int) :=
  match nth σ.tmps 1, nth σ.tmps 10, nth σ.tmps 11, σ.heap with
  | .int .i64 now, .bool m, .int .i64 i, [(_, .rows .live _ l)] => some ((l, now, m), i)
  | _, _, _, _ => none
def LD (n : Nat) : LoopCon := boundF n (norm2 n [] [0] sD) (TD n) gD (fun x => x.1.length) (okM (r := .live) okE13) (nxtM (r := .live) fM gM) (ED n)
theorem lDn (n : Nat) (b : ∀ x i, roundN c57 60 14 (loopAt c57.P 14 8) (norm2 n [] [0] sD) (norm2 n [] [0] eD) (TD n (x, i)) = rndD n x i) (hs : SubOf c57.P 14 (.loop (loopAt c57.P 14 8))) : SoundLoop c57 (loopAt c57.P 14 8) (LD n) :=
  bound_fold (C := c57) (g := 14) (l := 8) c57_good 60 n _ _ (Weak.norm2 n [] [0] sD) (Weak.norm2 n [] [0] eD) hs (TD n) gD (fun x => x.1.length) (okM (r := .live) okE13) (nxtM (r := .live) fM gM) (ED n)
    (fun _ => by intro h; cases h) (fun x i => by show ((upd .live x.1 i _).length : Int) = _; rw [upd_len (r := .live)])
    (fun x i h0 hi hm hok => .of_eq (b x i) (by
      unfold maxI64 at hm
      have a : 0 ≤ i ∧ i < (x.1.length : Int) := ⟨h0, hi⟩
      have h2 : nowOK x.2.1 := hok.2.1
      have h3 : smallC (jobAt x.1 i) := hok.2.2
      unfold nowOK at h2
      unfold rndD
      rw [wrap_fits (n := i + 1) (by omega) (by omega), wrap_fits (n := x.2.1 + 1) (by omega) (by omega), atF_over, Bool.or_comm]
      exact (Tree.out_ite_true (decide_eq_true hi)).2 ⟨a, a, h3, a, a, a, a, rfl⟩))
    (fun x i hi => .of_eq (b x i) ((Tree.out_ite_false (decide_eq_false (by omega))).2 rfl))
noncomputable def c58 : Cfg := c57.addLoop 14 8 (eitherL 1 (LD 1) (LD 2))
theorem c58_good : GoodCfg c58 := c57_good.addLoop (by unfold OneLoop; kernel_rfl) fun hs => .either 1 (lDn 1 bD1 hs) (lDn 2 bD2 hs)
def rendPart (n : Nat) (L : List Fu.Live) (now : Int) : Tree (AV × List Blk) :=
  .asrt (n = n ∧ TD n ((L, now, false), 0) = TD n ((L, now, false), 0)) (.asrt (0 ≤ (0 : Int) ∧ (L.length : Int) ≤ maxI64 ∧ okI (nxtM (r := .live) fM gM) (fun _ _ => (none : Option Unit)) (okM (r := .live) okE13) ((L.length : Int) - 0).toNat (L, now, false) 0)
    (.ret (.tup [.own 0, .bool (foldI (nxtM (r := .live) fM gM) ((L.length : Int) - 0).toNat (L, now, false) 0).2.2], [.rows .live 39 (foldI (nxtM (r := .live) fM gM) ((L.length : Int) - 0).toNat (L, now, false) 0).1])))
def rstepPart (B : List Fu.Live) (now : Int) : Tree (AV × List Blk) :=
  .asrt (okF B) (.ite (decide (firstL B ≥ 0)) (.asrt (0 ≤ firstL B ∧ firstL B < B.length) (.asrt (0 ≤ firstL B ∧ firstL B < B.length) (.asrt (smallC (jobAt B (firstL B))) (.asrt (0 ≤ firstL B ∧ firstL B < B.length) (.asrt (0 ≤ firstL B ∧ firstL B < B.length)
    (rendPart 2 (upd .live B (firstL B) { (rd .live B (firstL B)) with J := stepJ (jobAt B (firstL B)) }) now)))))) (rendPart 1 B now))
theorem fRLStep (l : List Fu.Live) (now : Int) : callC c58 60 14 [.view .live l, .int .i64 now] = .asrt (okBs (l, now)) (rstepPart (beginAll l now) now) := by kernel_rfl
theorem rendPart_rez (n : Nat) {L : List Fu.Live} {now : Int} (hn : nowOK now) (hl : (L.length : Int) < 17592186044416) (h : ∀ y ∈ L, smallC y.J) : Rez (rendPart n L now) (.tup [.own 0, .bool (L.any (missL (now + 1)))], [.rows .live 39 (L.map (endL (now + 1)))]) := by
  have e : ((L.length : Int) - 0).toNat = L.length := by omega
  obtain ⟨k1, k2⟩ := foldM (r := .live) (f := fM) (g := gM) (okE := okE13) (fun _ _ _ => rfl) (fun _ _ _ h => h) L (now, false) (fun y hy => ⟨hn, h y hy⟩)
  unfold rendPart
  rw [e]
  refine .asrt ⟨rfl, rfl⟩ (.asrt ⟨by omega, by unfold maxI64; omega, k2⟩ (.ret ?_ ?_))
  · rw [k1, foldl_gM]; exact .eq (by simp)
  · rw [k1]; rfl
theorem rstepPart_rez {B : List Fu.Live} {now : Int} (hn : nowOK now) (hl : (B.length : Int) < 17592186044416) (h : ∀ y ∈ B, smallC y.J) :
    Rez (rstepPart B now) (.tup [.own 0, .bool ((runFirst B).any (missL (now + 1)))], [.rows .live 39 ((runFirst B).map (endL (now + 1)))]) := by
  have hs := runFirst_small h
  have hlen := runFirst_len B
  refine .asrt ⟨hl, h⟩ (ite_rez (fun hf => ?_) fun hf => ?_)
  · have h1 : firstL B ≠ -1 := by have := of_decide_eq_true hf; omega
    have h2 := (firstL_range B).resolve_left h1
    have e : runFirst B = upd .live B (firstL B) { (rd .live B (firstL B)) with J := stepJ (jobAt B (firstL B)) } := by
      unfold runFirst
      rw [show (firstL B == -1) = false by simpa using h1]
      rfl
    rw [← e]
    exact .asrt h2 (.asrt h2 (.asrt (h _ (rd_mem h2.1 h2.2)) (.asrt h2 (.asrt h2 (rendPart_rez 2 hn (by omega) hs)))))
  · have h1 : firstL B = -1 := by
      have := of_decide_eq_false hf
      rcases firstL_range B with h1 | h1 <;> omega
    have e : runFirst B = B := by unfold runFirst; rw [h1]; rfl
    rw [e]
    exact rendPart_rez 1 hn hl h
theorem conRLStep_valid : ValidCon c58.P 14 conLStep := resCon_valid c58_good 60 (by kernel_rfl) fun x h => ⟨_, fRLStep x.1 x.2, .asrt h.1 (rstepPart_rez h.2.1 (by
  have := h.1.1
  unfold boundL at this
  have e : (beginAll x.1 x.2).length = x.1.length := List.length_map _
  omega) h.2.2)⟩
theorem conRLStepF_valid : ValidCon c58.P 14 conLStepF := resCon_frozen conRLStep_valid fun _ => ⟨_, rfl, .refl _⟩
noncomputable def c59 : Cfg := c58.addQuiet 14 conLStepF
theorem c59_good : GoodCfg c59 := c58_good.addQuiet conRLStepF_valid flatCon_quiet

/-! ### fuseeref12.Same -/
abbrev XE := (List Fu.Live × List Fu.Live) × Int
def TE (x : XE) : St := ⟨puts (J 26) [(0, .view .live x.1.1), (1, .view .live x.1.2), (4, .blit false), (5, .int .i64 x.2)], [], 0⟩
def sE : List Sh := sets (Js 26) [(0, .keep), (1, .keep), (4, .keep), (5, .int)]
def eE : List Sh := sets (Js 26) [(4, .keep)]
def RE : Ex × St := (.ret, ⟨puts (J 26) [(4, .blit false)], [], 0⟩)
def EE : Ex × St := (.exit 0, ⟨puts (J 26) [(4, .blit false)], [], 0⟩)
def eqLv (y x : Fu.Live) : Bool :=
  (y.S.C == x.S.C && (y.S.T == x.S.T && (y.S.Max == x.S.Max && (y.S.M == x.S.M && (y.S.K == x.S.K && y.S.E == x.S.E)))) && (y.J.On == x.J.On && (y.J.J == x.J.J && (y.J.Rel == x.J.Rel && (y.J.Due == x.J.Due && (y.J.Mand == x.J.Mand && (y.J.C == x.J.C && (y.J.D == x.J.D && y.J.Ran == x.J.Ran)))))) && (y.P == x.P && (y.At == x.At && y.N == x.N))))
theorem bE (x : List Fu.Live × List Fu.Live) (i : Int) : roundN c59 60 17 (loopAt c59.P 17 4) (norm2 0 [] [] sE) (norm2 0 [] [] eE) (TE (x, i)) =
    .ite (decide (i < x.1.length)) (.asrt (0 ≤ i ∧ i < x.1.length) (.asrt (0 ≤ i ∧ i < x.2.length) (.ite (!eqLv (rd .live x.1 i) (rd .live x.2 i)) (.ret RE) (.ret (.normal, TE (x, IntKind.i64.wrap (i + 1))))))) (.ret EE) := by kernel_rfl
def gE (σ : St) : Option XE :=
  match nth σ.tmps 0, nth σ.tmps 1, nth σ.tmps 5 with
  | .view .live a, .view .live b, .int .i64 i => some ((a, b), i)
  | _, _, _ => none
def brkE (x : List Fu.Live × List Fu.Live) (i : Int) : Option Unit := bif !eqLv (rd .live x.1 i) (rd .live x.2 i) then some () else none
def LE : LoopCon := boundB 0 (norm2 0 [] [] sE) TE gE (fun x => x.1.length) (fun x i => i < x.2.length) (fun x _ => x) brkE () (fun _ => RE) (fun _ => EE)
theorem lE (hs : SubOf c59.P 17 (.loop (loopAt c59.P 17 4))) : SoundLoop c59 (loopAt c59.P 17 4) LE :=
  bound_loop (C := c59) (g := 17) (l := 4) c59_good 60 0 _ _ (Weak.norm2 0 [] [] sE) (Weak.norm2 0 [] [] eE) hs TE gE (fun x => x.1.length) (fun x i => i < x.2.length) (fun x _ => x) brkE () (fun _ => RE) (fun _ => EE)
    (fun _ => by intro h; cases h) (fun _ => by intro h; cases h) (fun _ _ => rfl)
    (fun x i h0 hi hm hok => .of_eq (bE x i) (by
      unfold maxI64 at hm
      rw [wrap_fits (by omega) (by omega)]
      refine (Tree.out_ite_true (decide_eq_true hi)).2 ⟨⟨h0, hi⟩, ⟨h0, hok⟩, ?_⟩
      unfold brkE
      cases h : (!eqLv (rd .live x.1 i) (rd .live x.2 i)) with
      | true => exact (Tree.out_ite_true rfl).2 rfl
      | false => exact (Tree.out_ite_false rfl).2 rfl))
    (fun x i hi => .of_eq (bE x i) ((Tree.out_ite_false (decide_eq_false (by omega))).2 rfl))
noncomputable def c60 : Cfg := c59.addLoop 17 4 LE
theorem c60_good : GoodCfg c60 := c59_good.addLoop (by unfold OneLoop; kernel_rfl) lE
def sameT (a b : List Fu.Live) : Tree (AV × List Blk) :=
  .ite ((a.length : Int) != (b.length : Int)) noB (.asrt (0 = 0 ∧ TE ((a, b), 0) = TE ((a, b), 0)) (.asrt (0 ≤ (0 : Int) ∧ (a.length : Int) ≤ maxI64 ∧ okI (fun x _ => x) brkE (fun (x : List Fu.Live × List Fu.Live) (i : Int) => i < x.2.length) ((a.length : Int) - 0).toNat (a, b) 0)
    (optT () (brkI (fun x _ => x) brkE ((a.length : Int) - 0).toNat (a, b) 0) (fun _ => .ret (.blit false, [])) (.ret (.blit true, [])))))
theorem fSame (a b : List Fu.Live) : callC c60 60 17 [.view .live a, .view .live b] = sameT a b := by kernel_rfl
theorem eqLv_self (x : Fu.Live) : eqLv x x = true := by simp [eqLv]
/-- Two that are the same are told so. -/
def conSame1 : Con := flatCon (d2 (dView .live) (dView .live)) (fun x => x.1 = x.2 ∧ smallL x.1) fun _ => .bool true
theorem sameT_rez {a : List Fu.Live} (h : smallL a) : Rez (sameT a a) (.bool true, []) := by
  have h' : (a.length : Int) < 17592186044416 := h
  refine ite_rez (fun hn => by simp at hn) fun _ => .asrt ⟨rfl, rfl⟩ (.asrt ⟨Int.le_refl _, by unfold maxI64; omega, okI_idA _ _ fun j k0 k1 => by show j < (a.length : Int); omega⟩ ?_)
  have : brkI (fun x _ => x) brkE ((a.length : Int) - 0).toNat (a, a) 0 = none := (brkI_idA _ _).2 fun j k0 k1 => by
    unfold brkE
    rw [eqLv_self]
    rfl
  rw [this]
  exact .itee rfl (.ret (.blit rfl) rfl)
theorem conSame_valid : ValidCon c60.P 17 conSame1 := flatCon_valid c60_good 60 (by kernel_rfl) fun x h => ⟨_, fSame x.1 x.2, by rw [← h.1]; exact sameT_rez h.2⟩
noncomputable def c61 : Cfg := c60.addQuiet 17 conSame1
theorem c61_good : GoodCfg c61 := c60_good.addQuiet conSame_valid flatCon_quiet

end Go.Fx
