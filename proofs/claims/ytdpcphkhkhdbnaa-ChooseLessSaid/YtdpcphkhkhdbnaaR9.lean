import Derived.Test.YtdpcphkhkhdbnaaR8
import Derived.Test.YtdpcphkhkhdbnaaPlT
/- The law ChooseMay. -/
namespace Go.Fx
open Go Go.Proofs

/-- A world, who runs, and who is gone. -/
abbrev AMy := Fu.World × (Int × Int) × List Int
def hMy (x : AMy) : Heap := [(0, .cells (encW x.1)), (1, .rows (.int .i64) 3 x.2.2), (2, .cells [.int .i64 x.2.1.1, .int .i64 x.2.1.2])]
def TM6 (x : AMy × Int) : St := ⟨puts (J 131) [(1, .ptr 0 0), (4, .ptr 2 0), (5, .own 1), (6, .int .i64 x.2)], hMy x.1, 3⟩
def sM6 : List Sh := sets (Js 131) [(1, .keep), (4, .keep), (5, .keep), (6, .int)]
def eM6 : List Sh := sets (Js 131) [(1, .keep), (4, .keep), (5, .keep)]
def EM6 (x : AMy) : Ex × St := (.exit 0, ⟨puts (J 131) [(1, .ptr 0 0), (4, .ptr 2 0), (5, .own 1)], hMy x, 3⟩)
def RM6 (x : AMy) : Ex × St := (.ret, ⟨puts (J 131) [(1, .ptr 0 0), (4, .ptr 2 0), (5, .own 1)], hMy x, 3⟩)
def isB6 (x : AMy) (i : Int) : Bool := decide (laxA (rd .ape x.1.A i) x.1.Now ≥ 0) && decide ((x.2.2.length : Int) < x.1.A.length)
theorem bM6 (x : AMy) (i : Int) : roundN c132 60 9 (loopAt c132.P 9 6) (norm2 3 [] [0, 1, 2] sM6) (norm2 3 [] [0, 1, 2] eM6) (TM6 (x, i)) =
    .ite (decide (i < x.1.A.length) && decide (x.2.1.1 ≥ 3)) (.asrt (0 ≤ i ∧ i < x.1.A.length) (.ite (isB6 x i) (.ret (RM6 x)) (.ret (.normal, TM6 (x, IntKind.i64.wrap (i + 1)))))) (.ret (EM6 x)) := by kernel_rfl
def gM6 (σ : St) : Option (AMy × Int) :=
  match nth σ.tmps 6, σ.heap with
  | .int .i64 i, [(_, .cells [.int .i64 a, .view .task t, .view .ape q, .int .i64 c]), (_, .rows (.int .i64) _ g), (_, .cells [.int .i64 b, .int .i64 d])] => some ((⟨a, t, q, c⟩, (b, d), g), i)
  | _, _ => none
def LxM6 (x : AMy × Int) : Tree (Ex × St) := .asrt ((0 ≤ x.2 ∧ x.2 ≤ x.1.1.A.length ∧ (x.1.1.A.length : Int) < 17592186044416) ∧ (3 ≤ x.1.2.1.1 → x.1.1.A.length ≤ x.1.2.2.length)) (.ret (EM6 x.1))
def LM6 : LoopCon := entry 3 (norm2 3 [] [0, 1, 2] sM6) TM6 gM6 LxM6
theorem lM6 (hs : SubOf c132.P 9 (.loop (loopAt c132.P 9 6))) : SoundLoop c132 (loopAt c132.P 9 6) LM6 := by
  refine loop_rule3 (C := c132) (g := 9) (l := 6) c132_good 60 3 _ _ (Weak.norm2 3 [] [0, 1, 2] sM6) (Weak.norm2 3 [] [0, 1, 2] eM6) hs TM6 LxM6 (fun x => (x.1.1.A.length - x.2).toNat) (fun x q h => ?_) entry_out
  obtain ⟨⟨w, p, g⟩, i⟩ := x
  obtain ⟨⟨⟨h0, h1, h2⟩, h3⟩, h⟩ := Tree.out_asrt.1 h
  simp only at h0 h1 h2 h3 h
  refine .of_eq (bM6 (w, p, g) i) ?_
  simp only
  rw [wrap_fits (n := i + 1) (by omega) (by omega)]
  refine Tree.wp_ite.2 ⟨fun hi => ?_, fun hi => Rnd.out h⟩
  simp only [Bool.and_eq_true, decide_eq_true_eq] at hi
  have hb : isB6 (w, p, g) i = false := by
    unfold isB6
    have := h3 hi.2
    rw [decide_eq_false (p := ((g.length : Int) < (w.A.length : Int))) (by omega)]
    simp
  rw [hb]
  exact ⟨⟨h0, hi.1⟩, Tree.wp_ite.2 ⟨fun hb => (by cases hb), fun _ => Rnd.go (m := fun x : AMy × Int => (x.1.1.A.length - x.2).toNat) (x := ((w, p, g), i)) ((w, p, g), i + 1) (by simp only; omega) (Tree.out_asrt.2 ⟨⟨⟨by simp only; omega, by simp only; omega, h2⟩, h3⟩, h⟩)⟩⟩
noncomputable def c133 : Cfg := c132.addLoop 9 6 LM6
theorem c133_good : GoodCfg c133 := c132_good.addLoop (by unfold OneLoop; kernel_rfl) lM6
def TM12 (x : AMy × Int × Int) : St := ⟨puts (J 131) [(1, .ptr 0 0), (4, .ptr 2 0), (5, .own 1), (7, .int .i64 x.2.1), (8, .int .i64 x.2.2)], hMy x.1, 3⟩
def sM12 : List Sh := sets (Js 131) [(1, .keep), (4, .keep), (5, .keep), (7, .int), (8, .int)]
def eM12 : List Sh := sets (Js 131) [(1, .keep), (4, .keep), (5, .keep), (7, .int)]
def EM12 (x : AMy) (n : Int) : Ex × St := (.exit 2, ⟨puts (J 131) [(1, .ptr 0 0), (4, .ptr 2 0), (5, .own 1), (7, .int .i64 n)], hMy x, 3⟩)
def cntL (n : Int) (t : Fu.Task) : Int := bif t.J.On && decide (leftJ t.J > 0) then IntKind.i64.wrap (n + 1) else n
def RM12 (x : AMy) (n : Int) : Ex × St := (.ret, ⟨puts (J 131) [(1, .ptr 0 0), (4, .ptr 2 0), (5, .own 1), (7, .int .i64 n)], hMy x, 3⟩)
theorem bM12 (x : AMy) (n i : Int) : roundN c133 60 9 (loopAt c133.P 9 12) (norm2 3 [] [0, 1, 2] sM12) (norm2 3 [] [0, 1, 2] eM12) (TM12 (x, n, i)) =
    .ite (decide (i < x.1.T.length)) (.asrt (0 ≤ i ∧ i < x.1.T.length) (.ite (x.2.1.1 == 3 && ((rd .task x.1.T i).J.On && (rd .task x.1.T i).J.Mand)) (.ret (RM12 x (cntL n (rd .task x.1.T i)))) (.ret (.normal, TM12 (x, cntL n (rd .task x.1.T i), IntKind.i64.wrap (i + 1)))))) (.ret (EM12 x n)) := by kernel_rfl
def gM12 (σ : St) : Option (AMy × Int × Int) :=
  match nth σ.tmps 7, nth σ.tmps 8, σ.heap with
  | .int .i64 n, .int .i64 i, [(_, .cells [.int .i64 a, .view .task t, .view .ape q, .int .i64 c]), (_, .rows (.int .i64) _ g), (_, .cells [.int .i64 b, .int .i64 d])] => some ((⟨a, t, q, c⟩, (b, d), g), n, i)
  | _, _, _ => none
def LxM12 (x : AMy × Int × Int) : Tree (Ex × St) := .asrt ((0 ≤ x.2.2 ∧ x.2.2 ≤ x.1.1.T.length ∧ (x.1.1.T.length : Int) < 17592186044416) ∧ (x.1.2.1.1 = 3 → ∀ t ∈ x.1.1.T, (t.J.On && t.J.Mand) = false)) (.ret (EM12 x.1 ((x.1.1.T.drop x.2.2.toNat).foldl cntL x.2.1)))
def LM12 : LoopCon := entry 3 (norm2 3 [] [0, 1, 2] sM12) TM12 gM12 LxM12
theorem lM12 (hs : SubOf c133.P 9 (.loop (loopAt c133.P 9 12))) : SoundLoop c133 (loopAt c133.P 9 12) LM12 := by
  refine loop_rule3 (C := c133) (g := 9) (l := 12) c133_good 60 3 _ _ (Weak.norm2 3 [] [0, 1, 2] sM12) (Weak.norm2 3 [] [0, 1, 2] eM12) hs TM12 LxM12 (fun x => (x.1.1.T.length - x.2.2).toNat) (fun x q h => ?_) entry_out
  obtain ⟨⟨w, p, g⟩, n, i⟩ := x
  obtain ⟨⟨⟨h0, h1, h2⟩, h3⟩, h⟩ := Tree.out_asrt.1 h
  simp only at h0 h1 h2 h3 h
  refine .of_eq (bM12 (w, p, g) n i) ?_
  simp only
  rw [wrap_fits (n := i + 1) (by omega) (by omega)]
  refine Tree.wp_ite.2 ⟨fun hi => ?_, fun hi => ?_⟩
  · have hi := of_decide_eq_true hi
    rw [drop_rd (r := .task) (xs := w.T) h0 hi, List.foldl_cons] at h
    refine ⟨⟨h0, hi⟩, Tree.wp_ite.2 ⟨fun hb => ?_, fun hb => ?_⟩⟩
    · rw [Bool.and_eq_true, beq_iff_eq] at hb
      have := h3 hb.1 _ (rd_inT h0 hi)
      rw [hb.2] at this
      cases this
    · exact Rnd.go (m := fun x : AMy × Int × Int => (x.1.1.T.length - x.2.2).toNat) (x := ((w, p, g), n, i)) ((w, p, g), cntL n (rd .task w.T i), i + 1) (by simp only; omega) (Tree.out_asrt.2 ⟨⟨⟨by simp only; omega, by simp only; omega, h2⟩, h3⟩, h⟩)
  · have hi := of_decide_eq_false hi
    rw [drop_end (xs := w.T) (by omega)] at h
    exact Rnd.out h
noncomputable def c134 : Cfg := c133.addLoop 9 12 LM12
theorem c134_good : GoodCfg c134 := c133_good.addLoop (by unfold OneLoop; kernel_rfl) lM12
def foundY (w : Fu.World) : Fu.Task := (taskF w.T (whoW w).2).getD zeroK
def myT (w : Fu.World) : Tree (AV × List Blk) := .asrt (smallW w) (.ite (!mayW w) (.ret (.blit true, [])) (.asrt (okWho w) (.asrt (3 = 3 ∧ TM6 ((w, whoW w, (pickW w).2), 0) = TM6 ((w, whoW w, (pickW w).2), 0)) (.asrt ((0 ≤ (0 : Int) ∧ (0 : Int) ≤ w.A.length ∧ (w.A.length : Int) < 17592186044416) ∧ (3 ≤ (whoW w).1 → w.A.length ≤ (pickW w).2.length))
  (.asrt (3 = 3 ∧ TM12 ((w, whoW w, (pickW w).2), 0, 0) = TM12 ((w, whoW w, (pickW w).2), 0, 0)) (.asrt ((0 ≤ (0 : Int) ∧ (0 : Int) ≤ w.T.length ∧ (w.T.length : Int) < 17592186044416) ∧ ((whoW w).1 = 3 → ∀ t ∈ w.T, (t.J.On && t.J.Mand) = false))
    (.ite ((whoW w).1 == 0) (.ret (.bool ((w.T.drop (0 : Int).toNat).foldl cntL 0 == 0 && ((pickW w).2.length : Int) == w.A.length), []))
      (.asrt (smallW w) (.ret (.bool ((whoW w).1 != 3 || (taskF w.T (whoW w).2).isSome && ((foundY w).J.On && (!(foundY w).J.Mand && decide (leftJ (foundY w).J > 0)))), []))))))))))
theorem fMy (w : Fu.World) : callC c134 60 9 [.agg (encW w)] = myT w := by kernel_rfl
theorem no_must {w : Fu.World} (hm : mayW w = true) (hn : (mustW w).2 = false) : ∀ t ∈ w.T, (t.J.On && t.J.Mand) = false := by
  rcases must_spec w with ⟨_, h⟩ | ⟨t, _, h, _⟩
  · intro t ht
    have h1 := h t ht
    obtain ⟨_, _, _, _, h5, _⟩ := mayW_iff.1 hm
    obtain ⟨_, _, _, _, k6, _⟩ := mayK_iff.1 (tkOK_iff.1 (h5 t ht)).1
    have hJ : JobOK t.S t.J := of_decide_eq_true k6
    cases ho : t.J.On with
    | false => rfl
    | true =>
      cases hd : t.J.Mand with
      | false => rfl
      | true =>
        exfalso
        have : mustJ t.J = true := by
          refine mustJ_iff.2 ⟨ho, hd, ?_⟩
          rcases hJ.2 with ⟨a1, _⟩ | ⟨_, _, _, _, _, a6, _⟩
          · rw [ho] at a1; cases a1
          · unfold worst
            rw [ho]
            simp only [cond_true]
            omega
        rw [h1] at this
        cases this
  · rw [h] at hn; cases hn
theorem cnt_zero : ∀ {T : List Fu.Task}, (∀ t ∈ T, (t.J.On && decide (leftJ t.J > 0)) = false) → T.foldl cntL 0 = 0
  | [], _ => rfl
  | t :: T, h => by
    rw [List.foldl_cons]
    have : cntL 0 t = 0 := by unfold cntL; rw [h t (by simp)]; rfl
    rw [this]
    exact cnt_zero fun u hu => h u (List.mem_cons_of_mem _ hu)
theorem leftJ_nonneg (j : Fu.Job) : 0 ≤ leftJ j := by
  unfold leftJ maxI
  cases j.On with
  | false => simp
  | true => simp only [cond_true]; split <;> omega
theorem who_gone {w : Fu.World} (hm : mayW w = true) (h : (whoW w).1 = 3 ∨ (whoW w).1 = 0) : (mustW w).2 = false ∧ (pickW w).2.length = w.A.length := by
  have hmu : (mustW w).2 = false := by
    cases hb : (mustW w).2 with
    | false => rfl
    | true => have : (whoW w).1 = 1 := by unfold whoW; rw [hb]; rfl
              omega
  have hon : (onceW w).2 = false := by
    cases hb : (onceW w).2 with
    | false => rfl
    | true => have : (whoW w).1 = 2 := by unfold whoW; rw [hmu, hb]; rfl
              omega
  refine ⟨hmu, ?_⟩
  have hon : ((pickW w).1 != -1) = false := hon
  have hon : (pickW w).1 = -1 := by simpa using hon
  rcases pick_spec (cur := w.Cur) (mayW_iff.1 hm).2.2.2.1 with ⟨_, h2, _⟩ | ⟨a, _, h1, _, _, h2⟩
  · exact h2
  · have h1 : (pickW w).1 = a.ID := h1
    omega
theorem opts_spec (w : Fu.World) : ((mayBand w).2 = false ∧ ∀ t ∈ w.T, isOpt t.J = false) ∨ ∃ t ∈ w.T, mayBand w = (t.ID, true) ∧ isOpt t.J = true := by
  unfold mayBand
  rcases firstO_spec (optsW w.T) with ⟨h1, h2⟩ | ⟨h1, h2⟩
  · left
    rw [h1]
    refine ⟨rfl, fun t ht => ?_⟩
    cases ho : isOpt t.J with
    | false => rfl
    | true =>
      have : optT1 t ∈ optsW w.T := List.mem_map.2 ⟨t, List.mem_filter.2 ⟨ht, ho⟩, rfl⟩
      rw [h2] at this
      cases this
  · right
    have hne : (firstO (optsW w.T) == -1) = false := by simp; omega
    rw [hne]
    have hmem : rd .opt (optsW w.T) (firstO (optsW w.T)) ∈ optsW w.T := by
      have hlt : (firstO (optsW w.T)).toNat < (optsW w.T).length := by omega
      have : rd .opt (optsW w.T) (firstO (optsW w.T)) = (optsW w.T)[(firstO (optsW w.T)).toNat] := by simp [rd, hlt]
      rw [this]
      exact List.getElem_mem _
    obtain ⟨t, ht, e⟩ := List.mem_map.1 hmem
    obtain ⟨ht1, ht2⟩ := List.mem_filter.1 ht
    refine ⟨t, ht1, ?_, ht2⟩
    rw [← e]
    have : (optT1 t).ID = t.ID := by unfold optT1 optR; rw [ht2]; rfl
    simp only [cond_false]
    rw [this]
theorem isOpt_iff {j : Fu.Job} : isOpt j = true ↔ j.On = true ∧ j.Mand = false ∧ leftJ j ≠ 0 := by
  unfold isOpt
  cases j.On <;> cases j.Mand <;> simp
theorem myT_tru {w : Fu.World} (h : smallW w) : Tru (myT w) := by
  have hT := h.1
  have hA := h.2
  refine .asrt h (.ite (fun _ => .yes) fun hm => ?_)
  have hm : mayW w = true := by simpa using hm
  have hok := okWho_may h (mayW_live hm)
  have hle : (whoW w).1 = 1 ∨ (whoW w).1 = 2 ∨ (whoW w).1 = 3 ∨ (whoW w).1 = 0 := by
    unfold whoW
    cases (mustW w).2 <;> cases (onceW w).2 <;> cases (mayBand w).2 <;> simp
  refine .asrt hok (.asrt ⟨rfl, rfl⟩ (.asrt ⟨⟨Int.le_refl _, by omega, by omega⟩, fun h3 => ?_⟩ (.asrt ⟨rfl, rfl⟩ (.asrt ⟨⟨Int.le_refl _, by omega, by omega⟩, fun h3 => no_must hm (who_gone hm (.inl h3)).1⟩ ?_))))
  · have := (who_gone hm (.inl (by omega))).2
    omega
  · refine .ite (fun hb => .of ?_) fun hb => .asrt h (.of ?_)
    · have hb : (whoW w).1 = 0 := by simpa using hb
      obtain ⟨h1, h2⟩ := who_gone hm (.inr hb)
      have hnone : ∀ t ∈ w.T, isOpt t.J = false := by
        rcases opts_spec w with ⟨_, h⟩ | ⟨t, _, h, _⟩
        · exact h
        · exfalso
          have : (whoW w).1 ≠ 0 := by
            unfold whoW
            rw [h1, h]
            cases (onceW w).2 <;> simp
          exact this hb
      have hz : w.T.foldl cntL 0 = 0 := cnt_zero fun t ht => by
        have k1 := no_must hm h1 t ht
        have k2 := hnone t ht
        have k3 := leftJ_nonneg t.J
        cases ho : t.J.On with
        | false => rfl
        | true =>
          rw [ho, Bool.true_and] at k1
          have : leftJ t.J = 0 := by
            rcases Int.lt_or_le 0 (leftJ t.J) with h | h
            · have := isOpt_iff.2 ⟨ho, k1, by omega⟩
              rw [k2] at this; cases this
            · omega
          rw [this]; rfl
      rw [show (0 : Int).toNat = 0 from rfl, List.drop_zero, hz, h2]
      simp
    · rcases hle with h1 | h1 | h1 | h1
      · rw [h1]; rfl
      · rw [h1]; rfl
      · obtain ⟨k1, _⟩ := who_gone hm (.inl h1)
        rcases opts_spec w with ⟨h2, _⟩ | ⟨t, ht, h2, h3⟩
        · exfalso
          unfold whoW at h1
          rw [k1, h2] at h1
          cases ho : (onceW w).2 <;> rw [ho] at h1 <;> simp at h1
        · have e2 : (whoW w).2 = t.ID := by
            unfold whoW at h1 ⊢
            rw [k1] at h1 ⊢
            cases ho : (onceW w).2 with
            | true => rw [ho] at h1; simp at h1
            | false => rw [h2]; rfl
          have hf := taskF_self (mayW_asc hm) ht
          unfold foundY
          rw [e2, hf]
          obtain ⟨o1, o2, o3⟩ := isOpt_iff.1 h3
          have o4 := leftJ_nonneg t.J
          simp only [Option.getD_some, Option.isSome_some, o1, o2]
          rw [decide_eq_true (by omega)]
          simp
      · rw [h1] at hb; cases hb
theorem conMy_valid : ValidCon c134.P 9 (lawCon good1W) := lawCon_of (n := 60) c134_good (by kernel_rfl) fun args ⟨w, h1, h2⟩ => by
  subst h1
  exact ⟨_, fMy w, myT_tru h2⟩
end Go.Fx
