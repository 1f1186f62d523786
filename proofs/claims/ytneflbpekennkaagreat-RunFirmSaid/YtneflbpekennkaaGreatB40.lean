import Derived.Test.YtneflbpekennkaaGreatB39
/- Contracts: who of some is looked for. -/
namespace Go.Fx
open Go Go.Proofs

abbrev AIx := List Int × Int
def TIx (x : AIx × Int) : St := ⟨puts (J 19) [(0, .view (.int .i64) x.1.1), (1, .int .i64 x.1.2), (7, .int .i64 x.1.1.length), (8, .int .i64 x.2)], [], 0⟩
def sIx : List Sh := sets (Js 19) [(0, .keep), (1, .int), (7, .int), (8, .int)]
def eIx : List Sh := sets (Js 19) [(4, .int)]
def RIx (x : AIx × Int) : Ex × St := (.ret, ⟨puts (J 19) [(4, .int .i64 x.2)], [], 0⟩)
def EIx (_ : AIx) : Ex × St := (.exit 0, ⟨J 19, [], 0⟩)
theorem bIx (x : AIx) (i : Int) : roundN c118 60 61 (loopAt c118.P 61 2) (norm2 0 [] [] sIx) (norm2 0 [] [] eIx) (TIx (x, i)) =
    .ite (decide (i < x.1.length)) (.asrt (0 ≤ i ∧ i < x.1.length) (.ite (x.2 == rd (.int .i64) x.1 i) (.ret (RIx (x, i))) (.ret (.normal, TIx (x, IntKind.i64.wrap (i + 1)))))) (.ret (EIx x)) := by kernel_rfl
def gIx (σ : St) : Option (AIx × Int) :=
  match nth σ.tmps 0, nth σ.tmps 1, nth σ.tmps 8 with
  | .view (.int .i64) l, .int .i64 v, .int .i64 i => some ((l, v), i)
  | _, _, _ => none
def pIx (x : AIx) (i : Int) : Bool := x.2 == rd (.int .i64) x.1 i
def LIx : LoopCon := searchF 0 (norm2 0 [] [] sIx) TIx gIx (fun x => x.1.length) (fun _ => True) pIx RIx EIx
theorem lIx (hs : SubOf c118.P 61 (.loop (loopAt c118.P 61 2))) : SoundLoop c118 (loopAt c118.P 61 2) LIx :=
  search_loop (C := c118) (g := 61) (l := 2) c118_good 60 0 _ _ (Weak.norm2 0 [] [] sIx) (Weak.norm2 0 [] [] eIx) hs TIx gIx (fun x => x.1.length) (fun _ => True) pIx RIx EIx (fun _ => by intro h; cases h) (fun _ => by intro h; cases h)
    (fun x i h0 hi hl _ => .of_eq (bIx x i) (by
      rw [wrap_fits (n := i + 1) (by omega) (by omega)]
      refine (Tree.out_ite_true (decide_eq_true hi)).2 ⟨⟨h0, hi⟩, ?_⟩
      unfold pIx
      cases h : (x.2 == rd (.int .i64) x.1 i) with
      | true => exact (Tree.out_ite_true rfl).2 rfl
      | false => exact (Tree.out_ite_false rfl).2 rfl))
    (fun x i hi => .of_eq (bIx x i) ((Tree.out_ite_false (decide_eq_false (by omega))).2 rfl))
noncomputable def c119 : Cfg := c118.addLoop 61 2 LIx
theorem c119_good : GoodCfg c119 := c118_good.addLoop (by unfold OneLoop; kernel_rfl) lIx
/-- Is a number among some? -/
def hasI (l : List Int) (v : Int) : Bool := l.any fun x => x == v
def coT (l : List Int) (v : Int) : Tree (AV × List Blk) := .asrt (0 = 0 ∧ TIx ((l, v), 0) = TIx ((l, v), 0)) (.asrt ((0 ≤ (0 : Int) ∧ (l.length : Int) < 17592186044416) ∧ True) (.ite (firstP (pIx (l, v)) ((l.length : Int) - 0).toNat 0).isSome (.ret (.bool (decide ((firstP (pIx (l, v)) ((l.length : Int) - 0).toNat 0).getD 0 ≥ 0)), [])) (.ret (.blit false, []))))
theorem fHasI (l : List Int) (v : Int) : callC c119 60 32 [.view (.int .i64) l, .int .i64 v] = coT l v := by kernel_rfl
theorem rdI_mem {l : List Int} {i : Int} (h0 : 0 ≤ i) (h1 : i < l.length) : rd (.int .i64) l i ∈ l := by
  have hlt : i.toNat < l.length := by omega
  have : rd (.int .i64) l i = l[i.toNat] := by simp [rd, hlt]
  rw [this]
  exact List.getElem_mem _
theorem memI_rd {l : List Int} {x : Int} (h : x ∈ l) : ∃ i : Int, 0 ≤ i ∧ i < l.length ∧ rd (.int .i64) l i = x := by
  obtain ⟨n, hn, e⟩ := List.getElem_of_mem h
  exact ⟨n, by omega, by omega, by simp [rd, hn, e]⟩
def conHasI : Con := flatCon (d2 (dView (.int .i64)) dInt) (fun x => (x.1.length : Int) < 17592186044416) fun x => .bool (hasI x.1 x.2)
theorem conHasI_valid : ValidCon c119.P 32 conHasI := flatCon_valid c119_good 60 (by kernel_rfl) fun x h => ⟨_, fHasI x.1 x.2, by
  refine .asrt ⟨rfl, rfl⟩ (.asrt ⟨⟨Int.le_refl _, h⟩, trivial⟩ ?_)
  unfold hasI
  cases hf : firstP (pIx (x.1, x.2)) ((x.1.length : Int) - 0).toNat 0 with
  | none =>
    refine .itee rfl (.ret (.blit ?_) rfl)
    have h1 := firstP_none hf
    symm
    rw [List.any_eq_false]
    intro y hy
    obtain ⟨i, h2, h3, h4⟩ := memI_rd hy
    have := h1 i h2 (by omega)
    unfold pIx at this
    simp only [h4] at this
    simpa using fun e => by rw [e] at this; simp at this
  | some j =>
    refine .itet rfl (retB ?_)
    obtain ⟨⟨h1, h2⟩, h3, _⟩ := firstP_some hf
    simp only [Option.getD_some]
    rw [decide_eq_true (by omega)]
    symm
    rw [List.any_eq_true]
    refine ⟨_, rdI_mem (l := x.1) (i := j) h1 (by omega), ?_⟩
    unfold pIx at h3
    simp only [beq_iff_eq] at h3 ⊢
    exact h3.symm⟩
noncomputable def c120 : Cfg := c119.addQuiet 32 conHasI
theorem c120_good : GoodCfg c120 := c119_good.addQuiet conHasI_valid flatCon_quiet
abbrev AAt := List Fu.Ape × Int
def TAt (x : AAt × Int) : St := ⟨puts (J 19) [(0, .view .ape x.1.1), (1, .fn (.func 86) [] [.ptr 0 0]), (7, .int .i64 x.1.1.length), (8, .int .i64 x.2)], [(0, .cells [.int .i64 x.1.2])], 1⟩
def sAt : List Sh := sets (Js 19) [(0, .keep), (1, .keep), (7, .int), (8, .int)]
def RAt (x : AAt × Int) : Ex × St := (.ret, ⟨puts (J 19) [(4, .int .i64 x.2)], [(0, .cells [.int .i64 x.1.2])], 1⟩)
def EAt (x : AAt) : Ex × St := (.exit 0, ⟨J 19, [(0, .cells [.int .i64 x.2])], 1⟩)
def eAt : List Sh := sets (Js 19) [(4, .int)]
theorem bAt (x : AAt) (i : Int) : roundN c120 60 60 (loopAt c120.P 60 2) (norm2 1 [] [0] sAt) (norm2 1 [] [0] eAt) (TAt (x, i)) =
    .ite (decide (i < x.1.length)) (.asrt (0 ≤ i ∧ i < x.1.length) (.ite ((rd .ape x.1 i).ID == x.2) (.ret (RAt (x, i))) (.ret (.normal, TAt (x, IntKind.i64.wrap (i + 1)))))) (.ret (EAt x)) := by kernel_rfl
def gAt (σ : St) : Option (AAt × Int) :=
  match nth σ.tmps 0, nth σ.tmps 8, σ.heap with
  | .view .ape l, .int .i64 i, [(_, .cells [.int .i64 v])] => some ((l, v), i)
  | _, _, _ => none
def pAt (x : AAt) (i : Int) : Bool := (rd .ape x.1 i).ID == x.2
def LAt : LoopCon := searchF 1 (norm2 1 [] [0] sAt) TAt gAt (fun x => x.1.length) (fun _ => True) pAt RAt EAt
theorem lAt (hs : SubOf c120.P 60 (.loop (loopAt c120.P 60 2))) : SoundLoop c120 (loopAt c120.P 60 2) LAt :=
  search_loop (C := c120) (g := 60) (l := 2) c120_good 60 1 _ _ (Weak.norm2 1 [] [0] sAt) (Weak.norm2 1 [] [0] eAt) hs TAt gAt (fun x => x.1.length) (fun _ => True) pAt RAt EAt (fun _ => by intro h; cases h) (fun _ => by intro h; cases h)
    (fun x i h0 hi hl _ => .of_eq (bAt x i) (by
      rw [wrap_fits (n := i + 1) (by omega) (by omega)]
      refine (Tree.out_ite_true (decide_eq_true hi)).2 ⟨⟨h0, hi⟩, ?_⟩
      unfold pAt
      cases h : ((rd .ape x.1 i).ID == x.2) with
      | true => exact (Tree.out_ite_true rfl).2 rfl
      | false => exact (Tree.out_ite_false rfl).2 rfl))
    (fun x i hi => .of_eq (bAt x i) ((Tree.out_ite_false (decide_eq_false (by omega))).2 rfl))
def LAp : LoopCon := orL (fnIs 1 86) LAt LPx
theorem lAp (hs : SubOf c120.P 60 (.loop (loopAt c120.P 60 2))) : SoundLoop c120 (loopAt c120.P 60 2) LAp :=
  orL_sound (lAt hs) (c120_good.loops 60 2 LPx (by kernel_rfl) _ hs (by kernel_rfl))
noncomputable def c121 : Cfg := c120.addLoop 60 2 LAp
theorem c121_good : GoodCfg c121 := c120_good.addLoop (by unfold OneLoop; kernel_rfl) lAp
/-- Where a job that came once is; -1, if it is nowhere. -/
def atA (A : List Fu.Ape) (id : Int) : Int := (firstP (pAt (A, id)) A.length 0).getD (-1)
def atT (A : List Fu.Ape) (id : Int) : Tree (AV × List Blk) := .asrt (1 = 1 ∧ TAt ((A, id), 0) = TAt ((A, id), 0)) (.asrt ((0 ≤ (0 : Int) ∧ (A.length : Int) < 17592186044416) ∧ True) (.ite (firstP (pAt (A, id)) ((A.length : Int) - 0).toNat 0).isSome (.ret (.int .i64 ((firstP (pAt (A, id)) ((A.length : Int) - 0).toNat 0).getD 0), [])) (.ret (.lit .i64 (-1), []))))
theorem fAtA (A : List Fu.Ape) (id : Int) : callC c121 60 64 [.view .ape A, .int .i64 id] = atT A id := by kernel_rfl
def conAtA : Con := flatCon (d2 (dView .ape) dInt) (fun x => (x.1.length : Int) < 17592186044416) fun x => .int .i64 (atA x.1 x.2)
theorem conAtA_valid : ValidCon c121.P 64 conAtA := flatCon_valid c121_good 60 (by kernel_rfl) fun x h => ⟨_, fAtA x.1 x.2, by
  refine .asrt ⟨rfl, rfl⟩ (.asrt ⟨⟨Int.le_refl _, h⟩, trivial⟩ ?_)
  unfold atA
  rw [show ((x.1.length : Int) - 0).toNat = x.1.length by omega]
  cases hf : firstP (pAt (x.1, x.2)) x.1.length 0 with
  | none => exact .itee rfl (.ret (.lit rfl) rfl)
  | some j => exact .itet rfl (.ret (.eq rfl) rfl)⟩
noncomputable def c122 : Cfg := c121.addQuiet 64 conAtA
theorem c122_good : GoodCfg c122 := c121_good.addQuiet conAtA_valid flatCon_quiet
/-- Tasks, a world, and who runs. -/
abbrev AOf := Fu.World × Int × Int
def hOf (x : AOf) : Heap := [(0, .cells (encW x.1)), (1, .cells [.int .i64 x.2.1, .int .i64 x.2.2])]
def TOf (x : AOf × Int) : St := ⟨puts (J 19) [(0, .view .task x.1.1.T), (1, .fn (.func 63) [] [.ptr 1 0]), (7, .int .i64 x.1.1.T.length), (8, .int .i64 x.2)], hOf x.1, 2⟩
def sOf : List Sh := sets (Js 19) [(0, .keep), (1, .keep), (7, .int), (8, .int)]
def ROf (x : AOf × Int) : Ex × St := (.ret, ⟨puts (J 19) [(4, .int .i64 x.2)], hOf x.1, 2⟩)
def EOf (x : AOf) : Ex × St := (.exit 0, ⟨J 19, hOf x, 2⟩)
def eOf : List Sh := sets (Js 19) [(4, .int)]
theorem bOf (x : AOf) (i : Int) : roundN c122 60 62 (loopAt c122.P 62 2) (norm2 2 [] [0, 1] sOf) (norm2 2 [] [0, 1] eOf) (TOf (x, i)) =
    .ite (decide (i < x.1.T.length)) (.asrt (0 ≤ i ∧ i < x.1.T.length) (.ite ((rd .task x.1.T i).ID == x.2.2) (.ret (ROf (x, i))) (.ret (.normal, TOf (x, IntKind.i64.wrap (i + 1)))))) (.ret (EOf x)) := by kernel_rfl
def gOf (σ : St) : Option (AOf × Int) :=
  match nth σ.tmps 8, σ.heap with
  | .int .i64 i, [(_, .cells [.int .i64 a, .view .task t, .view .ape q, .int .i64 c]), (_, .cells [.int .i64 b, .int .i64 d])] => some ((⟨a, t, q, c⟩, b, d), i)
  | _, _ => none
def pOf (x : AOf) (i : Int) : Bool := (rd .task x.1.T i).ID == x.2.2
def LOf : LoopCon := searchF 2 (norm2 2 [] [0, 1] sOf) TOf gOf (fun x => x.1.T.length) (fun _ => True) pOf ROf EOf
theorem lOf (hs : SubOf c122.P 62 (.loop (loopAt c122.P 62 2))) : SoundLoop c122 (loopAt c122.P 62 2) LOf :=
  search_loop (C := c122) (g := 62) (l := 2) c122_good 60 2 _ _ (Weak.norm2 2 [] [0, 1] sOf) (Weak.norm2 2 [] [0, 1] eOf) hs TOf gOf (fun x => x.1.T.length) (fun _ => True) pOf ROf EOf (fun _ => by intro h; cases h) (fun _ => by intro h; cases h)
    (fun x i h0 hi hl _ => .of_eq (bOf x i) (by
      rw [wrap_fits (n := i + 1) (by omega) (by omega)]
      refine (Tree.out_ite_true (decide_eq_true hi)).2 ⟨⟨h0, hi⟩, ?_⟩
      unfold pOf
      cases h : ((rd .task x.1.T i).ID == x.2.2) with
      | true => exact (Tree.out_ite_true rfl).2 rfl
      | false => exact (Tree.out_ite_false rfl).2 rfl))
    (fun x i hi => .of_eq (bOf x i) ((Tree.out_ite_false (decide_eq_false (by omega))).2 rfl))
noncomputable def c123 : Cfg := c122.addLoop 62 2 LOf
theorem c123_good : GoodCfg c123 := c122_good.addLoop (by unfold OneLoop; kernel_rfl) lOf
/-- A contract: what comes of arguments that are read, on some ways. -/
def treeCon {α : Type} (D : Ds α) (tr : α → Tree (AV × List Blk)) : Con := fun args => match D.dec args with | some a => tr a | none => .fail
theorem treeCon_quiet {α : Type} {D : Ds α} {tr : α → Tree (AV × List Blk)} (h : ∀ a r, (tr a).Leaf r → r.2 = []) : noBlks (treeCon D tr) := by
  intro args r hr
  unfold treeCon at hr
  split at hr
  · exact h _ _ hr
  · exact hr.elim
theorem treeCon_valid {C : Cfg} (G : GoodCfg C) {g : Nat} (n : Nat) {α : Type} {D : Ds α} {tr : α → Tree (AV × List Blk)} (he : entersB C.P g = true) (h : ∀ a r, (tr a).Out r → ∃ t, callC C n g (D.enc a) = t ∧ Rez t r) : ValidCon C.P g (treeCon D tr) := by
  refine con_of (n := n) G he fun args r hr => ?_
  unfold treeCon at hr
  split at hr
  · rename_i a ha
    obtain ⟨t, h3, v, h4, h5⟩ := h a r hr
    exact ⟨_, v, D.ok _ _ ha, h4, .of_eq h3 h5⟩
  · exact hr.elim
def decPair : AV → Option (Int × Int)
  | .agg [a, b] => match a.i, b.i with
    | some a, some b => some (a, b)
    | _, _ => none
  | _ => none
def encPair (p : Int × Int) : AV := .agg [.int .i64 p.1, .int .i64 p.2]
/-- Who runs. -/
def dPair : Dc (Int × Int) := ⟨decPair, encPair, fun v w h => by
  unfold decPair at h
  split at h
  · split at h
    · rename_i h1 h2; cases h; exact .agg (.cons (.i h1) (.cons (.i h2) .nil))
    · cases h
  · cases h⟩
theorem AsArg.iface {t : TypeId} {a b : AV} (h : AsArg a b) : AsArg (.iface t a) (.iface t b) := ⟨fun hr => by
  cases hr with
  | iface _ h1 _ => exact .iface _ (h.reps h1) .nil⟩
/-- Where a task is; -1, if it is nowhere. -/
def idxT (T : List Fu.Task) (id : Int) : Int := (firstP (fun i => (rd .task T i).ID == id) T.length 0).getD (-1)
def ofR (w : Fu.World) (c : Int × Int) : Tree (AV × List Blk) := .asrt (smallW w) (.ite (c.1 == 1 || c.1 == 3) (.ret (.iface 118 (.int .i64 (idxT w.T c.2)), [])) (.ite (c.1 == 2) (.ret (.iface 69 (.int .i64 (atA w.A c.2)), [])) (.ret (.niliface, []))))
def ofT (w : Fu.World) (c : Int × Int) : Tree (AV × List Blk) :=
  .ite (c.1 == 1 || c.1 == 3) (.asrt (2 = 2 ∧ TOf ((w, c), 0) = TOf ((w, c), 0)) (.asrt ((0 ≤ (0 : Int) ∧ (w.T.length : Int) < 17592186044416) ∧ True) (.ite (firstP (pOf (w, c)) ((w.T.length : Int) - 0).toNat 0).isSome (.ret (.iface 118 (.int .i64 ((firstP (pOf (w, c)) ((w.T.length : Int) - 0).toNat 0).getD 0)), [])) (.ret (.iface 118 (.lit .i64 (-1)), [])))))
    (.ite (c.1 == 2) (.asrt ((w.A.length : Int) < 17592186044416) (.ret (.iface 69 (.int .i64 (atA w.A c.2)), []))) (.ret (.niliface, [])))
theorem fOfR (w : Fu.World) (c : Int × Int) : callC c123 60 33 [.agg (encW w), encPair c] = ofT w c := by kernel_rfl
def conOfR : Con := treeCon (d2 dWorld dPair) fun x => ofR x.1 x.2
theorem conOfR_valid : ValidCon c123.P 33 conOfR := treeCon_valid c123_good 60 (by kernel_rfl) fun x r h => ⟨_, fOfR x.1 x.2, by
  obtain ⟨⟨h1, h2⟩, h⟩ := h
  unfold ofT
  by_cases hb : (x.2.1 == 1 || x.2.1 == 3) = true
  · replace h := (Tree.out_ite_true hb).1 h
    cases h
    refine .itet hb (.asrt ⟨rfl, rfl⟩ (.asrt ⟨⟨Int.le_refl _, by omega⟩, trivial⟩ ?_))
    have e : idxT x.1.T x.2.2 = (firstP (pOf (x.1, x.2)) ((x.1.T.length : Int) - 0).toNat 0).getD (-1) := by
      rw [show ((x.1.T.length : Int) - 0).toNat = x.1.T.length by omega]; rfl
    rw [e]
    cases hf : firstP (pOf (x.1, x.2)) ((x.1.T.length : Int) - 0).toNat 0 with
    | none => exact .itee rfl (.ret (.iface (.lit rfl)) rfl)
    | some j => exact .itet rfl (.ret (.refl _) rfl)
  · have hb : (x.2.1 == 1 || x.2.1 == 3) = false := by simpa using hb
    replace h := (Tree.out_ite_false hb).1 h
    refine .itee hb ?_
    by_cases hc : (x.2.1 == 2) = true
    · replace h := (Tree.out_ite_true hc).1 h
      cases h
      exact .itet hc (.asrt (by omega) (.ret (.refl _) rfl))
    · have hc : (x.2.1 == 2) = false := by simpa using hc
      replace h := (Tree.out_ite_false hc).1 h
      cases h
      exact .itee hc (.ret (.refl _) rfl)⟩
noncomputable def c124 : Cfg := c123.addCon 33 conOfR
theorem c124_good : GoodCfg c124 := c123_good.addCon conOfR_valid (by kernel_rfl)
end Go.Fx
