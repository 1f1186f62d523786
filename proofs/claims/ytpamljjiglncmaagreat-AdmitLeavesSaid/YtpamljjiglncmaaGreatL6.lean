import Derived.Test.YtpamljjiglncmaaGreatP0
/- The law AdmitLeaves. -/
namespace Go.Fx
open Go Go.Proofs

abbrev ALe := (Fu.Serv × Fu.Serv × Int × Int) × Int
def hLe (x : ALe) : Heap := [(0, .cells (encS x.1.1)), (1, .cells (encS x.1.2.1))]
def TLe (x : ALe × Int) : St := ⟨puts (J 163) [(1, .int .i64 x.1.1.2.2.1), (2, .ptr 0 0), (7, .ptr 1 0), (8, .int .i64 x.1.1.2.2.2), (9, .int .i64 x.1.2), (10, .int .i64 x.2)], hLe x.1, 2⟩
def sLe : List Sh := sets (Js 163) [(1, .int), (2, .keep), (7, .keep), (8, .int), (9, .int), (10, .int)]
def eLe : List Sh := sets (Js 163) [(1, .int), (2, .keep), (7, .keep), (8, .int), (9, .int)]
def ELe (x : ALe) : Ex × St := (.exit 0, ⟨puts (J 163) [(1, .int .i64 x.1.2.2.1), (2, .ptr 0 0), (7, .ptr 1 0), (8, .int .i64 x.1.2.2.2), (9, .int .i64 x.2)], hLe x, 2⟩)
def nxtLe (x : ALe) (i : Int) : ALe := (x.1, bif (rd .task x.1.1.W.T i).ID == x.1.2.2.1 then i else x.2)
theorem bLe (x : ALe) (i : Int) : roundN c212 60 6 (loopAt c212.P 6 8) (norm2 2 [] [0, 1] sLe) (norm2 2 [] [0, 1] eLe) (TLe (x, i)) =
    .ite (decide (i < x.1.1.W.T.length)) (.asrt (0 ≤ i ∧ i < x.1.1.W.T.length) (.ret (.normal, TLe (nxtLe x i, IntKind.i64.wrap (i + 1))))) (.ret (ELe x)) := by kernel_rfl
def gLe (σ : St) : Option (ALe × Int) :=
  match nth σ.tmps 1, nth σ.tmps 8, nth σ.tmps 9, nth σ.tmps 10, σ.heap with
  | .int .i64 d, .int .i64 e, .int .i64 k, .int .i64 i, [(_, .cells [.int .i64 a, .view .task t, .view .ape p, .int .i64 cu, .bool o1, .int .i64 si, .int .i64 b, .int .i64 n, .view .aim l, .int .i64 y, .int .i64 z]), (_, .cells [.int .i64 a2, .view .task t2, .view .ape p2, .int .i64 cu2, .bool o2, .int .i64 si2, .int .i64 b2, .int .i64 n2, .view .aim l2, .int .i64 y2, .int .i64 z2])] => some (((⟨⟨a, t, p, cu⟩, ⟨o1, si, b, n, l⟩, y, z⟩, ⟨⟨a2, t2, p2, cu2⟩, ⟨o2, si2, b2, n2, l2⟩, y2, z2⟩, d, e), k), i)
  | _, _, _, _, _ => none
def LLe : LoopCon := boundF 2 (norm2 2 [] [0, 1] sLe) TLe gLe (fun x => x.1.1.W.T.length) (fun _ _ => True) nxtLe ELe
theorem lLe (hs : SubOf c212.P 6 (.loop (loopAt c212.P 6 8))) : SoundLoop c212 (loopAt c212.P 6 8) LLe :=
  bound_fold (C := c212) (g := 6) (l := 8) c212_good 60 2 _ _ (Weak.norm2 2 [] [0, 1] sLe) (Weak.norm2 2 [] [0, 1] eLe) hs TLe gLe (fun x => x.1.1.W.T.length) (fun _ _ => True) nxtLe ELe
    (fun _ => by intro h; cases h) (fun _ _ => rfl)
    (fun x i h0 hi hm _ => .of_eq (bLe x i) (by
      unfold maxI64 at hm
      rw [wrap_fits (n := i + 1) (by omega) (by omega)]
      exact (Tree.out_ite_true (decide_eq_true hi)).2 ⟨⟨h0, hi⟩, rfl⟩))
    (fun x i hi => .of_eq (bLe x i) ((Tree.out_ite_false (decide_eq_false (by omega))).2 rfl))
noncomputable def c213 : Cfg := c212.addLoop 6 8 LLe
theorem c213_good : GoodCfg c213 := c212_good.addLoop (by unfold OneLoop; kernel_rfl) lLe
abbrev XLf := Fu.Serv × Fu.Serv × Int
def hLf (x : XLf) : Heap := [(0, .cells (encS x.1)), (1, .cells (encS x.2.1))]
def TLf (x : XLf × Int) : St := ⟨puts (J 163) [(2, .ptr 0 0), (7, .ptr 1 0), (9, .int .i64 x.1.2.2), (14, .int .i64 x.2)], hLf x.1, 3⟩
def sLf : List Sh := sets (Js 163) [(2, .keep), (7, .keep), (9, .int), (14, .int)]
def eLf : List Sh := sets (Js 163) [(4, .keep)]
def RLf : Ex × St := (.ret, ⟨puts (J 163) [(4, .blit false)], [], 3⟩)
def ELf : Ex × St := (.exit 2, ⟨J 163, [], 3⟩)
def skipAt (k i : Int) : Int := bif decide (i ≥ k) then IntKind.i64.wrap (i + 1) else i
theorem bLf (x : XLf) (i : Int) : roundN c213 60 6 (loopAt c213.P 6 19) (norm2 3 [] [0, 1] sLf) (norm2 3 [] [] eLf) (TLf (x, i)) =
    .ite (decide (i < x.2.1.W.T.length)) (.asrt (0 ≤ i ∧ i < x.2.1.W.T.length) (.asrt (0 ≤ skipAt x.2.2 i ∧ skipAt x.2.2 i < x.1.W.T.length) (.ite (!eqTaskB (rd .task x.2.1.W.T i) (rd .task x.1.W.T (skipAt x.2.2 i))) (.ret RLf) (.ret (.normal, TLf (x, IntKind.i64.wrap (i + 1))))))) (.ret ELf) := by kernel_rfl
def gLf (σ : St) : Option (XLf × Int) :=
  match nth σ.tmps 9, nth σ.tmps 14, σ.heap with
  | .int .i64 k, .int .i64 i, [(_, .cells [.int .i64 a, .view .task t, .view .ape p, .int .i64 cu, .bool o1, .int .i64 si, .int .i64 b, .int .i64 n, .view .aim l, .int .i64 y, .int .i64 z]), (_, .cells [.int .i64 a2, .view .task t2, .view .ape p2, .int .i64 cu2, .bool o2, .int .i64 si2, .int .i64 b2, .int .i64 n2, .view .aim l2, .int .i64 y2, .int .i64 z2])] => some ((⟨⟨a, t, p, cu⟩, ⟨o1, si, b, n, l⟩, y, z⟩, ⟨⟨a2, t2, p2, cu2⟩, ⟨o2, si2, b2, n2, l2⟩, y2, z2⟩, k), i)
  | .int .i64 k, .lit .i64 i, [(_, .cells [.int .i64 a, .view .task t, .view .ape p, .int .i64 cu, .bool o1, .int .i64 si, .int .i64 b, .int .i64 n, .view .aim l, .int .i64 y, .int .i64 z]), (_, .cells [.int .i64 a2, .view .task t2, .view .ape p2, .int .i64 cu2, .bool o2, .int .i64 si2, .int .i64 b2, .int .i64 n2, .view .aim l2, .int .i64 y2, .int .i64 z2])] => some ((⟨⟨a, t, p, cu⟩, ⟨o1, si, b, n, l⟩, y, z⟩, ⟨⟨a2, t2, p2, cu2⟩, ⟨o2, si2, b2, n2, l2⟩, y2, z2⟩, k), i)
  | _, _, _ => none
def okLf (x : XLf × Int) : Prop := 0 ≤ x.2 ∧ x.1.2.1.W.T.length ≤ 1000 ∧ ∀ i : Int, 0 ≤ i → i < x.1.2.1.W.T.length → (0 ≤ skipAt x.1.2.2 i ∧ skipAt x.1.2.2 i < x.1.1.W.T.length) ∧ rd .task x.1.2.1.W.T i = rd .task x.1.1.W.T (skipAt x.1.2.2 i)
def LxLf (x : XLf × Int) : Tree (Ex × St) := .asrt (okLf x) (.ret ELf)
def LLf : LoopCon := entry 3 (norm2 3 [] [0, 1] sLf) TLf gLf LxLf
theorem lLf (hs : SubOf c213.P 6 (.loop (loopAt c213.P 6 19))) : SoundLoop c213 (loopAt c213.P 6 19) LLf := by
  refine loop_rule3 (C := c213) (g := 6) (l := 19) c213_good 60 3 _ _ (Weak.norm2 3 [] [0, 1] sLf) (Weak.norm2 3 [] [] eLf) hs TLf LxLf (fun x => (x.1.2.1.W.T.length - x.2).toNat) (fun x q h => ?_) entry_out
  obtain ⟨x, i⟩ := x
  obtain ⟨⟨h0, h1, h2⟩, h⟩ := Tree.out_asrt.1 h
  simp only at h0 h1 h2
  refine .of_eq (bLf x i) (Tree.wp_ite.2 ⟨fun hi => ?_, fun hi => Rnd.out h⟩)
  have hi : i < (x.2.1.W.T.length : Int) := of_decide_eq_true hi
  obtain ⟨k1, k2⟩ := h2 i h0 hi
  refine ⟨⟨h0, hi⟩, k1, Tree.wp_ite.2 ⟨fun hb => ?_, fun _ => ?_⟩⟩
  · rw [k2, eqTaskB_eq] at hb
    simp at hb
  · rw [wrap_fits (n := i + 1) (by omega) (by omega)]
    exact Rnd.go (m := fun x : XLf × Int => (x.1.2.1.W.T.length - x.2).toNat) (x := (x, i)) (x, i + 1) (by simp only; omega) (Tree.out_asrt.2 ⟨⟨by simp only; omega, h1, h2⟩, h⟩)
noncomputable def c214 : Cfg := c213.addLoop 6 19 LLf
theorem c214_good : GoodCfg c214 := c213_good.addLoop (by unfold OneLoop; kernel_rfl) lLf
def good2S (args : List AV) : Prop := ∃ (s : Fu.Serv) (i : Int), args = [.agg (encS s), .int .i64 i] ∧ smallS s
def FLe (s : Fu.Serv) (id : Int) : ALe := foldI nxtLe ((s.W.T.length : Int) - 0).toNat ((s, (leaveR s id).1, id, (leaveR s id).2), -1) 0
def wLe (F : ALe) : Bool := F.1.1.R.On && (F.1.1.R.New == F.1.2.2.1 && decide (F.1.2.2.1 ≥ 0))
def noLe (F : ALe) : Bool := (F.1.2.2.2 == 0) == wLe F && bif !wLe F then wLe F || F.1.2.2.2 == 2 else !F.1.2.1.R.On && ((F.1.2.1.W.T.length : Int) == F.1.1.W.T.length && (wLe F || F.1.2.2.2 == 2))
def badLe (F : ALe) : Bool := F.1.2.2.2 != 0 || ((leaveR F.1.2.1 F.1.2.2.1).2 != 2 || ((F.1.2.1.W.T.length : Int) != IntKind.i64.wrap ((F.1.1.W.T.length : Int) - 1) || !(F.1.2.1.R.On == F.1.1.R.On)))
def leEnd (F : ALe) : Tree (AV × List Blk) := .ite (decide (F.2 < 0)) (.ret (.bool (noLe F), [])) (.asrt (smallS F.1.2.1) (.ite (badLe F) (.ret (.blit false, [])) (.asrt (3 = 3 ∧ TLf ((F.1.1, F.1.2.1, F.2), 0) = TLf ((F.1.1, F.1.2.1, F.2), 0)) (.asrt (okLf ((F.1.1, F.1.2.1, F.2), 0)) (.ret (.blit true, []))))))
def leT (s : Fu.Serv) (id : Int) : Tree (AV × List Blk) := .asrt (smallS s) (.asrt ((!nearE s) = false → smallS s) (.ite (!nearE s || !mayE s) (.ret (.blit true, [])) (.asrt (smallS s) (.asrt (2 = 2 ∧ TLe (((s, (leaveR s id).1, id, (leaveR s id).2), -1), 0) = TLe (((s, (leaveR s id).1, id, (leaveR s id).2), -1), 0))
  (.asrt (0 ≤ (0 : Int) ∧ (s.W.T.length : Int) ≤ maxI64 ∧ okI nxtLe (fun _ _ => (none : Option Unit)) (fun _ _ => True) ((s.W.T.length : Int) - 0).toNat ((s, (leaveR s id).1, id, (leaveR s id).2), -1) 0) (leEnd (FLe s id)))))))
theorem fLawLe (s : Fu.Serv) (id : Int) : callC c214 60 6 [.agg (encS s), .int .i64 id] = leT s id := by kernel_rfl
theorem okLe_all : ∀ (k : Nat) (x : ALe) (i : Int), okI nxtLe (fun _ _ => (none : Option Unit)) (fun _ _ => True) k x i
  | 0, _, _ => trivial
  | k + 1, x, i => ⟨trivial, fun _ => okLe_all k _ (i + 1)⟩
theorem foldLe_no (s x : Fu.Serv) (id e : Int) : ∀ (k : Nat) (c i : Int), (∀ j, i ≤ j → j < i + k → (rd .task s.W.T j).ID ≠ id) → foldI nxtLe k ((s, x, id, e), c) i = ((s, x, id, e), c)
  | 0, _, _, _ => rfl
  | k + 1, c, i, h => by
    unfold foldI
    have e1 : nxtLe ((s, x, id, e), c) i = ((s, x, id, e), c) := by
      unfold nxtLe
      simp only
      rw [show ((rd .task s.W.T i).ID == id) = false from beq_eq_false_iff_ne.2 (h i (Int.le_refl _) (by omega))]
      rfl
    rw [e1]
    exact foldLe_no s x id e k c (i + 1) fun j h1 h2 => h j (by omega) (by omega)
theorem foldLe_at (s x : Fu.Serv) (id e : Int) (ha : ascT s.W.T = true) {j : Int} (hj : j < s.W.T.length) (hid : (rd .task s.W.T j).ID = id) : ∀ (k : Nat) (c i : Int), 0 ≤ i → i ≤ j → j < i + k → i + k ≤ s.W.T.length → foldI nxtLe k ((s, x, id, e), c) i = ((s, x, id, e), j)
  | 0, _, _, _, _, h2, _ => by omega
  | k + 1, c, i, h0, h1, h2, h3 => by
    unfold foldI
    by_cases hij : i = j
    · have e1 : nxtLe ((s, x, id, e), c) i = ((s, x, id, e), j) := by
        unfold nxtLe
        simp only
        rw [hij, show ((rd .task s.W.T j).ID == id) = true from beq_iff_eq.2 hid]
        rfl
      rw [e1]
      exact foldLe_no s x id e k j (i + 1) fun m m1 m2 hm => by
        have := asc_rd ha (i := j) (j := m) (by omega) (by omega) (by omega)
        omega
    · exact foldLe_at s x id e ha hj hid k _ (i + 1) (by omega) (by omega) (by omega) (by omega)
theorem drop_at {id : Int} : ∀ {T : List Fu.Task} {k : Nat} (hk : k < T.length), ascT T = true → T[k].ID = id → dropAT id T = T.eraseIdx k
  | u :: T, 0, hk, ha, hid => by
    have hid : u.ID = id := hid
    unfold dropAT qIl
    rw [List.filter_cons, show (u.ID == id) = true from beq_iff_eq.2 hid]
    show List.filter _ T = T
    rw [List.filter_eq_self]
    intro v hv
    have := ascT_lt T u ha v hv
    rw [show (v.ID == id) = false from beq_eq_false_iff_ne.2 (by omega)]
    rfl
  | u :: T, k + 1, hk, ha, hid => by
    have hk' : k < T.length := Nat.lt_of_succ_lt_succ hk
    have hid : T[k].ID = id := hid
    have ih := drop_at hk' (ascT_tail ha) hid
    have hlt := ascT_lt T u ha T[k] (List.getElem_mem _)
    unfold dropAT qIl at ih ⊢
    rw [List.filter_cons, show (u.ID == id) = false from beq_eq_false_iff_ne.2 (by omega)]
    show u :: _ = u :: _
    rw [ih]
theorem noLe_yes {s : Fu.Serv} {id : Int} (hm : mayE s = true) (hno : ∀ t ∈ s.W.T, t.ID ≠ id) : noLe ((s, (leaveR s id).1, id, (leaveR s id).2), -1) = true := by
  have hat : atIa s.W.T id = -1 := atIa_none.2 hno
  have hw : wLe ((s, (leaveR s id).1, id, (leaveR s id).2), -1) = freshE s id := by
    unfold wLe freshE
    simp only
    cases hon : s.R.On with
    | false => rfl
    | true =>
      have := ((askE_on hon).1 (mayE_iff.1 hm).2.2).2.2.1
      cases hb : (s.R.New == id) with
      | false => rfl
      | true =>
        have hb := eq_of_beq hb
        simp only [Bool.true_and]
        by_cases hz : id = -1
        · rw [decide_eq_false (show ¬ id ≥ 0 by omega), hz]; rfl
        · rw [decide_eq_true (show id ≥ 0 by omega), show (id != -1) = true from bne_iff_ne.2 hz]
  unfold noLe
  rw [hw]
  cases hf : freshE s id with
  | true =>
    have e1 : leaveR s id = ({ s with R := clearR }, 0) := by
      unfold leaveR leaveE first2
      rw [hm, hat, hf]
      rfl
    rw [e1]
    simp [clearR]
  | false =>
    have e1 : leaveR s id = (s, 2) := by
      unfold leaveR leaveE first2
      rw [hm, hat, hf]
      rfl
    rw [e1]
    rfl
theorem fresh_in {s : Fu.Serv} {id : Int} (hm : mayE s = true) {t : Fu.Task} (ht : t ∈ s.W.T) (hid : t.ID = id) : freshE s id = false := by
  cases hf : freshE s id with
  | false => rfl
  | true =>
    unfold freshE at hf
    rw [Bool.and_eq_true, Bool.and_eq_true] at hf
    obtain ⟨hon, hb, hc⟩ := hf
    have hb := eq_of_beq hb
    obtain ⟨_, _, a3, a4⟩ := (askE_on hon).1 (mayE_iff.1 hm).2.2
    obtain ⟨⟨_, b2⟩, _⟩ := (aims_iff (newP_T hm).2.2 a3).1 a4
    rcases (algn_iff.1 b2).2.2 with ⟨c1, _⟩ | ⟨_, c2, _⟩
    · rw [← hb, c1] at hc; cases hc
    · have := c2 t ht
      omega
theorem leT_tru {s : Fu.Serv} {id : Int} (hs : smallS s) : Tru (leT s id) := by
  have hls := smallS_len hs
  refine .asrt hs (.asrt (fun _ => hs) (.ite (fun _ => .yes) fun hb => .asrt hs (.asrt ⟨rfl, rfl⟩ (.asrt ⟨Int.le_refl _, by unfold maxI64; omega, okLe_all _ _ _⟩ ?_))))
  rw [Bool.or_eq_false_iff, Bool.not_eq_false', Bool.not_eq_false'] at hb
  have hm := hb.2
  have hasc := (newP_T hm).2.2
  have hT := (mayW_iff.1 (safeE_may hm)).2.1
  by_cases hat : atIa s.W.T id = -1
  · have hno := atIa_none.1 hat
    have e : FLe s id = ((s, (leaveR s id).1, id, (leaveR s id).2), -1) := foldLe_no _ _ _ _ _ _ _ fun j h1 h2 => hno _ (rd_mem' (r := .task) h1 (by omega))
    rw [e]
    exact .ite (fun _ => .of (noLe_yes hm hno)) fun h => by cases h
  · obtain ⟨⟨h0, h1⟩, hid⟩ := atIa_some hat
    generalize hk : atIa s.W.T id = k at h0 h1 hid
    have e : FLe s id = ((s, (leaveR s id).1, id, (leaveR s id).2), k) := foldLe_at _ _ _ _ hasc h1 hid _ _ _ (Int.le_refl _) h0 (by omega) (by omega)
    have hmem := rd_mem' (r := .task) h0 h1
    have hf := fresh_in hm hmem hid
    have el : leaveR s id = (dropS s id, 0) := by
      have e1 : leaveE s id = 0 := by
        unfold leaveE first2
        rw [hm, show (atIa s.W.T id == -1) = false from beq_eq_false_iff_ne.2 hat]
        rfl
      unfold leaveR
      rw [e1, hf]
      rfl
    obtain ⟨n, rfl⟩ : ∃ n : Nat, k = n := ⟨k.toNat, by omega⟩
    have hn : n < s.W.T.length := by omega
    have hidn : s.W.T[n].ID = id := by rw [← rd_of (r := .task) hn]; exact hid
    have ed := drop_at hn hasc hidn
    have hlen : (dropAT id s.W.T).length = s.W.T.length - 1 := by rw [ed, List.length_eraseIdx, if_pos hn]
    have hdm := drop_may hm hf
    rw [e, el]
    refine .ite (fun h => ?_) fun _ => .asrt (mayE_small hdm) (.ite (fun hc => ?_) fun _ => .asrt ⟨rfl, rfl⟩ (.asrt ⟨Int.le_refl _, ?_, fun i i0 i1 => ?_⟩ .yes))
    · have := of_decide_eq_true h
      simp only at this
      omega
    · have e2 : (leaveR (dropS s id) id).2 = 2 := by
        have h3 : atIa (dropS s id).W.T id = -1 := atIa_none.2 fun t ht => by
          have ht : t ∈ dropAT id s.W.T := ht
          unfold dropAT qIl at ht
          have := (List.mem_filter.1 ht).2
          intro hh
          rw [hh] at this
          simp at this
        have e1 : leaveE (dropS s id) id = 2 := by
          unfold leaveE first2
          rw [hdm, h3, show freshE (dropS s id) id = false from hf]
          rfl
        unfold leaveR
        rw [e1]
        rfl
      unfold badLe at hc
      simp only at hc
      rw [e2] at hc
      have e3 : (dropS s id).W.T.length = s.W.T.length - 1 := hlen
      rw [e3, wrap_fits (n := (s.W.T.length : Int) - 1) (by omega) (by omega), show ((s.W.T.length - 1 : Nat) : Int) = (s.W.T.length : Int) - 1 by omega] at hc
      have e4 : (dropS s id).R.On = s.R.On := rfl
      rw [e4] at hc
      simp at hc
    · have e3 : (dropS s id).W.T.length = s.W.T.length - 1 := hlen
      simp only
      omega
    · have i1 : i < ((dropAT id s.W.T).length : Int) := i1
      have hs2 : skipAt n i = if i < n then i else i + 1 := by
        unfold skipAt
        by_cases hi : i < n
        · rw [decide_eq_false (show ¬ i ≥ (n : Int) by omega), if_pos hi]; rfl
        · rw [decide_eq_true (show i ≥ (n : Int) by omega), if_neg hi]
          exact wrap_fits (by omega) (by omega)
      refine ⟨?_, ?_⟩
      · simp only
        rw [hs2]
        split <;> omega
      · show rd .task (dropAT id s.W.T) i = rd .task s.W.T (skipAt n i)
        obtain ⟨m, rfl⟩ : ∃ m : Nat, i = m := ⟨i.toNat, by omega⟩
        rw [hs2, rd_of (r := .task) (xs := dropAT id s.W.T) (by omega)]
        simp only [ed]
        rw [List.getElem_eraseIdx]
        by_cases hi : m < n
        · rw [if_pos (show (m : Int) < n by omega), rd_of (r := .task) (xs := s.W.T) (by omega)]
          simp [hi]
        · rw [if_neg (show ¬ (m : Int) < n by omega), show ((m : Int) + 1) = ((m + 1 : Nat) : Int) by omega, rd_of (r := .task) (xs := s.W.T) (by omega)]
          simp [hi]
theorem conLv20_valid : ValidCon c214.P 6 (lawCon good2S) := lawCon_of (n := 60) c214_good (by kernel_rfl) fun args ⟨s, i, h1, h2⟩ => by
  subst h1
  exact ⟨_, fLawLe s i, leT_tru h2⟩
end Go.Fx
