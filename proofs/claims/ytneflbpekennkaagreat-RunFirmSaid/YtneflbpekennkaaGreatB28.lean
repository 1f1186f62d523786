import Derived.Test.YtneflbpekennkaaGreatB27
/- Contracts: jobs that came once; which worlds may be. -/
namespace Go.Fx
open Go Go.Proofs

def dApe : Dc Fu.Ape := dRow .ape
def apeOK (a : Fu.Ape) : Bool := (decide (0 ≤ a.ID) && decide (a.ID ≤ 549755813888)) && ((decide (1 ≤ a.Due) && decide (a.Due ≤ 1099511627776)) && ((decide (1 ≤ a.C) && decide (a.C ≤ 40)) && ((decide (1 ≤ a.V) && decide (a.V ≤ 1000)) && (decide (0 ≤ a.Ran) && decide (a.Ran < a.C)))))
theorem apeOK_iff {a : Fu.Ape} : apeOK a = true ↔ (0 ≤ a.ID ∧ a.ID ≤ 549755813888) ∧ (1 ≤ a.Due ∧ a.Due ≤ 1099511627776) ∧ (1 ≤ a.C ∧ a.C ≤ 40) ∧ (1 ≤ a.V ∧ a.V ≤ 1000) ∧ (0 ≤ a.Ran ∧ a.Ran < a.C) := by
  simp only [apeOK, Bool.and_eq_true, decide_eq_true_eq]
theorem fDoverMay (a : Fu.Ape) : callC c66 60 49 [.agg (encApe a)] =
  .ite (decide (a.ID ≥ 0) && decide (a.ID ≤ 549755813888)) (.ite (decide (a.Due ≥ 1) && decide (a.Due ≤ 1099511627776)) (.ite (decide (a.C ≥ 1) && decide (a.C ≤ 40)) (.ite (decide (a.V ≥ 1) && decide (a.V ≤ 1000))
    (.ret (.bool (decide (a.Ran ≥ 0) && decide (a.Ran ≤ IntKind.i64.wrap (a.C - 1))), [])) noB) noB) noB) noB := by kernel_rfl
def conDMay : Con := plainCon (d1 dApe) fun a => .bool (apeOK a)
theorem conDMay_valid : ValidCon c66.P 49 conDMay := plainCon_valid c66_good 60 (by kernel_rfl) fun a => ⟨_, fDoverMay a, by
  refine ite_rez (fun h1 => ite_rez (fun h2 => ite_rez (fun h3 => ite_rez (fun h4 => retB ?_) fun h4 => noB_rez ?_) fun h3 => noB_rez ?_) fun h2 => noB_rez ?_) fun h1 => noB_rez ?_
  · simp only [Bool.and_eq_true, decide_eq_true_eq] at h1 h2 h3 h4
    rw [wrap_fits (by omega) (by omega), Bool.eq_iff_iff, apeOK_iff]
    simp only [Bool.and_eq_true, decide_eq_true_eq]
    omega
  all_goals
    rw [← Bool.not_eq_true, apeOK_iff]
    simp only [Bool.and_eq_false_iff, decide_eq_false_iff_not] at *
    omega⟩
noncomputable def c67 : Cfg := c66.addQuiet 49 conDMay
theorem c67_good : GoodCfg c67 := c66_good.addQuiet conDMay_valid plainCon_quiet

/-! ### maps by numbers -/
def mkeys {α : Type} (es : List (Int × α)) : List Int := es.map (·.1)
theorem mput_keys {α : Type} (k : Int) (v : α) : ∀ es : List (Int × α), mkeys (mput es k v) = if k ∈ mkeys es then mkeys es else mkeys es ++ [k]
  | [] => by simp [mput, mkeys]
  | (j, x) :: es => by
    unfold mput
    by_cases h : j = k
    · subst h; simp [mkeys]
    · have ih := mput_keys k v es
      have h' : ¬ k = j := fun e => h e.symm
      rw [if_neg h]
      simp only [mkeys, List.map_cons, List.mem_cons, h', false_or] at *
      rw [ih]
      split <;> simp [*]
theorem mput_len {α : Type} (k : Int) (v : α) (es : List (Int × α)) : (mput es k v).length = if k ∈ mkeys es then es.length else es.length + 1 := by
  have h : ∀ es : List (Int × α), (mkeys es).length = es.length := fun es => by simp [mkeys]
  rw [← h (mput es k v), mput_keys]
  split
  · exact h es
  · rw [List.length_append, h es]; rfl
def mputA (es : List (Int × Fu.Ape)) (a : Fu.Ape) : List (Int × Fu.Ape) := mput es a.ID a
theorem foldA_len : ∀ (A : List Fu.Ape) (es : List (Int × Fu.Ape)), (A.foldl mputA es).length ≤ es.length + A.length ∧ ((A.foldl mputA es).length = es.length + A.length ↔ (A.map (·.ID)).Nodup ∧ ∀ a ∈ A, a.ID ∉ mkeys es)
  | [], es => by simp
  | a :: A, es => by
    obtain ⟨h1, h2⟩ := foldA_len A (mputA es a)
    have h3 := mput_len a.ID a es
    have h4 := mput_keys a.ID a es
    rw [List.foldl_cons]
    unfold mputA at h1 h2
    rw [h3] at h1 h2
    rw [h4] at h2
    simp only [List.length_cons, List.map_cons, List.nodup_cons, List.mem_cons, List.mem_map]
    by_cases hk : a.ID ∈ mkeys es
    · rw [if_pos hk] at h1 h2
      refine ⟨by unfold mputA; omega, ⟨fun h => by unfold mputA at h; omega, fun ⟨_, h⟩ => absurd hk (h a (.inl rfl))⟩⟩
    · rw [if_neg hk] at h1 h2
      rw [if_neg hk] at h2
      refine ⟨by unfold mputA; omega, ?_⟩
      unfold mputA
      rw [show es.length + (A.length + 1) = es.length + 1 + A.length by omega, h2]
      constructor
      · rintro ⟨h5, h6⟩
        refine ⟨⟨?_, h5⟩, ?_⟩
        · rintro ⟨b, hb, e⟩
          have := h6 b hb
          simp [e] at this
        · rintro b (rfl | hb)
          · exact hk
          · have := h6 b hb
            simp at this
            exact this.1
      · rintro ⟨⟨h5, h6⟩, h7⟩
        refine ⟨h6, fun b hb => ?_⟩
        simp only [List.mem_append, List.mem_singleton, not_or]
        exact ⟨h7 b (.inr hb), fun e => h5 ⟨b, hb, e⟩⟩

/-! ### dover.May -/
abbrev ADm := List Fu.Ape × Int × List (Int × Fu.Ape)
def TDm (x : ADm × Int) : St := ⟨puts (J 37) [(0, .view .ape x.1.1), (1, .int .i64 x.1.2.1), (5, .map 0), (9, .view .ape x.1.1), (10, .int .i64 x.1.1.length), (11, .int .i64 x.2)], [(0, .imap .ape x.1.2.2)], 1⟩
def sDm : List Sh := sets (Js 37) [(0, .keep), (1, .keep), (5, .keep), (9, .keep), (10, .int), (11, .int)]
def xDm : List Sh := sets (Js 37) [(0, .keep), (1, .keep), (5, .keep)]
def rDm : List Sh := sets (Js 37) [(4, .keep)]
def eDm (σ : St) : St := outE 1 4 [] [0] rDm xDm σ
def RDm : Ex × St := (.ret, (⟨puts (J 37) [(4, .blit false)], [], 1⟩ : St))
def EDm (x : ADm) : Ex × St := (.exit 0, ⟨puts (J 37) [(0, .view .ape x.1), (1, .int .i64 x.2.1), (5, .map 0)], [(0, .imap .ape x.2.2)], 1⟩)
theorem bDm (x : ADm) (i : Int) : roundN c67 60 21 (loopAt c67.P 21 3) (norm2 1 [] [0] sDm) eDm (TDm (x, i)) =
    .ite (decide (i < x.1.length)) (.asrt (0 ≤ i ∧ i < x.1.length) (.ite (!apeOK (rd .ape x.1 i)) (.ret RDm) (.ret (.normal, TDm ((x.1, x.2.1, mputA x.2.2 (rd .ape x.1 i)), IntKind.i64.wrap (i + 1)))))) (.ret (EDm x)) := by kernel_rfl
def gDm (σ : St) : Option (ADm × Int) :=
  match nth σ.tmps 0, nth σ.tmps 1, nth σ.tmps 11, σ.heap with
  | .view .ape A, .int .i64 n, .int .i64 i, [(_, .imap .ape es)] => some ((A, n, es), i)
  | _, _, _, _ => none
def nxtDm (x : ADm) (i : Int) : ADm := (x.1, x.2.1, mputA x.2.2 (rd .ape x.1 i))
def brkDm (x : ADm) (i : Int) : Option Unit := bif !apeOK (rd .ape x.1 i) then some () else none
def okDm (_ : ADm) (_ : Int) : Prop := True
def LDm : LoopCon := boundB 1 (norm2 1 [] [0] sDm) TDm gDm (fun x => x.1.length) okDm nxtDm brkDm () (fun _ => RDm) EDm
theorem lDm (hs : SubOf c67.P 21 (.loop (loopAt c67.P 21 3))) : SoundLoop c67 (loopAt c67.P 21 3) LDm :=
  bound_loop (C := c67) (g := 21) (l := 3) c67_good 60 1 _ _ (Weak.norm2 1 [] [0] sDm) (weak_outE 1 4 [] [0] rDm xDm) hs TDm gDm (fun x => x.1.length) okDm nxtDm brkDm () (fun _ => RDm) EDm
    (fun _ => by intro h; cases h) (fun _ => by intro h; cases h) (fun _ _ => rfl)
    (fun x i h0 hi hm _ => .of_eq (bDm x i) (by
      unfold maxI64 at hm
      rw [wrap_fits (n := i + 1) (by omega) (by omega)]
      refine (Tree.out_ite_true (decide_eq_true hi)).2 ⟨⟨h0, hi⟩, ?_⟩
      unfold brkDm
      cases h : (!apeOK (rd .ape x.1 i)) with
      | true => exact (Tree.out_ite_true rfl).2 rfl
      | false => exact (Tree.out_ite_false rfl).2 rfl))
    (fun x i hi => .of_eq (bDm x i) ((Tree.out_ite_false (decide_eq_false (by omega))).2 rfl))
noncomputable def c68 : Cfg := c67.addLoop 21 3 LDm
theorem c68_good : GoodCfg c68 := c67_good.addLoop (by unfold OneLoop; kernel_rfl) lDm
def mayA (A : List Fu.Ape) (now : Int) : Bool := A.all apeOK && (decide ((A.map (·.ID)).Nodup) && (decide ((A.length : Int) ≤ 4) && (decide (0 ≤ now) && decide (now ≤ 549755813888))))
def dmEnd (x : ADm) : Tree (AV × List Blk) := .ite ((x.2.2.length : Int) == x.1.length) (.ite (decide ((x.1.length : Int) ≤ 4)) (.ret (.bool (decide (x.2.1 ≥ 0) && decide (x.2.1 ≤ 549755813888)), [])) noB) noB
def dmT (A : List Fu.Ape) (now : Int) : Tree (AV × List Blk) :=
  .asrt (1 = 1 ∧ TDm ((A, now, []), 0) = TDm ((A, now, []), 0)) (.asrt (0 ≤ (0 : Int) ∧ (A.length : Int) ≤ maxI64 ∧ okI nxtDm brkDm okDm ((A.length : Int) - 0).toNat (A, now, []) 0)
    (optT () (brkI nxtDm brkDm ((A.length : Int) - 0).toNat (A, now, []) 0) (fun _ => noB) (dmEnd (foldI nxtDm ((A.length : Int) - 0).toNat (A, now, []) 0))))
theorem fDm (A : List Fu.Ape) (now : Int) : callC c68 60 21 [.view .ape A, .int .i64 now] = dmT A now := by kernel_rfl
theorem foldDm {A : List Fu.Ape} {now : Int} (k : Nat) : ∀ (es : List (Int × Fu.Ape)) (i : Int), 0 ≤ i → i + k = A.length →
    okI nxtDm brkDm okDm k (A, now, es) i ∧ (brkI nxtDm brkDm k (A, now, es) i).isSome = !((A.drop i.toNat).all apeOK) ∧ foldI nxtDm k (A, now, es) i = (A, now, (A.drop i.toNat).foldl mputA es) := by
  induction k with
  | zero => intro es i h0 h1; rw [drop_end (by omega)]; exact ⟨trivial, rfl, rfl⟩
  | succ k ih =>
    intro es i h0 h1
    have hd := drop_rd (r := .ape) (xs := A) h0 (by omega)
    obtain ⟨k1, k2, k3⟩ := ih (mputA es (rd .ape A i)) (i + 1) (by omega) (by omega)
    rw [hd, List.all_cons]
    refine ⟨⟨trivial, fun _ => k1⟩, ?_, k3⟩
    unfold brkI
    cases ho : apeOK (rd .ape A i) with
    | false => rw [show brkDm (A, now, es) i = some () by unfold brkDm; simp only; rw [ho]; rfl]; rfl
    | true => rw [show brkDm (A, now, es) i = none by unfold brkDm; simp only; rw [ho]; rfl]; exact k2
theorem dmT_rez {A : List Fu.Ape} {now : Int} (hl : (A.length : Int) < 17592186044416) : Rez (dmT A now) (.bool (mayA A now), []) := by
  obtain ⟨k1, k2, k3⟩ := foldDm (A := A) (now := now) ((A.length : Int) - 0).toNat [] 0 (Int.le_refl _) (by omega)
  rw [show (0 : Int).toNat = 0 from rfl, List.drop_zero] at k2 k3
  refine .asrt ⟨rfl, rfl⟩ (.asrt ⟨Int.le_refl _, by unfold maxI64; omega, k1⟩ ?_)
  unfold mayA
  cases ha : A.all apeOK with
  | false =>
    rw [ha] at k2
    cases hb : brkI nxtDm brkDm ((A.length : Int) - 0).toNat (A, now, []) 0 with
    | none => rw [hb] at k2; cases k2
    | some b => exact .itet rfl (noB_rez rfl)
  | true =>
    rw [ha] at k2
    cases hb : brkI nxtDm brkDm ((A.length : Int) - 0).toNat (A, now, []) 0 with
    | some b => rw [hb] at k2; cases k2
    | none =>
      refine .itee rfl ?_
      rw [k3]
      unfold dmEnd
      simp only
      obtain ⟨f1, f2⟩ := foldA_len A []
      have e : (((A.foldl mputA []).length : Int) == (A.length : Int)) = decide ((A.map (·.ID)).Nodup) := by
        rw [Bool.eq_iff_iff, beq_iff_eq, decide_eq_true_eq]
        constructor
        · intro h; exact (f2.1 (by simp; omega)).1
        · intro h
          have := f2.2 ⟨h, fun a _ => by simp [mkeys]⟩
          simp at this; omega
      rw [e]
      cases decide ((A.map (·.ID)).Nodup) <;> cases decide ((A.length : Int) ≤ 4)
      · exact .itee rfl (noB_rez rfl)
      · exact .itee rfl (noB_rez rfl)
      · exact .itet rfl (.itee rfl (noB_rez rfl))
      · exact .itet rfl (.itet rfl (retB rfl))
def conDm : Con := flatCon (d2 (dView .ape) dInt) (fun x => (x.1.length : Int) < 17592186044416) fun x => .bool (mayA x.1 x.2)
theorem conDm_valid : ValidCon c68.P 21 conDm := flatCon_valid c68_good 60 (by kernel_rfl) fun x h => ⟨_, fDm x.1 x.2, dmT_rez h⟩
noncomputable def c69 : Cfg := c68.addQuiet 21 conDm
theorem c69_good : GoodCfg c69 := c68_good.addQuiet conDm_valid flatCon_quiet
end Go.Fx
