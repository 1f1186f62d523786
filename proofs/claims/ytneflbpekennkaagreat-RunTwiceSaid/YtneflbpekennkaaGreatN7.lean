import Derived.Test.YtneflbpekennkaaGreatB43
import Derived.Test.YtneflbpekennkaaGreatPlZ
/- The law RunTwice. -/
namespace Go.Fx
open Go Go.Proofs

noncomputable def c141 : Cfg := c140.addCon 12 conTick
theorem c141_good : GoodCfg c141 := c140_good.addCon conTick_valid (by kernel_rfl)
/-- The numbers that are used, with others behind them. -/
def cutM (k : Option (Bool × Int)) (d m : List Int) : List Int := ([] ++ (d.take (highOf k (d.length : Int)).toNat).drop (lowOf none).toNat) ++ m
def cutT (k : Option (Bool × Int)) (d m : List Int) (t : Tree (AV × List Blk)) : Tree (AV × List Blk) := .asrt (0 ≤ lowOf none ∧ lowOf none ≤ highOf k (d.length : Int) ∧ highOf k (d.length : Int) ≤ (d.length : Int)) (.asrt (([] ++ (d.take (highOf k (d.length : Int)).toNat).drop (lowOf none).toNat).length * 8 ≤ 140737488355328) (.asrt ((cutM k d m).length * 8 ≤ 140737488355328) t))
def trcW (w : Fu.World) (d : List Int) : Trc := (w.Now, (whoW (startW w d)).1, (whoW (startW w d)).2, (midW w d).2, (beginW w d).2, tickM w d, (pickW (startW w d)).2)
def noTrc : Trc := (0, 0, 0, 0, [], [], [])
def rwT (w : Fu.World) (d m : List Int) : Tree (AV × List Blk) := .asrt (smallW w) (.ite (!mayW w || (decide ((d.length : Int) > 100) || decide ((m.length : Int) > 100))) (.ret (.blit true, [])) (.asrt (smallW w) (.ite (!mayW w || w.Now == 274877906944)
  (.ite false (.ret (.blit true, [])) (cutT (some (true, 0)) d m (.asrt (smallW w) (.ite (!mayW w || w.Now == 274877906944) (.asrt (smallW w) (.asrt (decide (w = w) = true → shortTrc noTrc) (.ret (.bool (decide (w = w) && sameTrc noTrc noTrc), [])))) noB))))
  (.ite (decide (((beginW w d).2.length : Int) > d.length)) (.ret (.blit true, [])) (cutT (some (false, ((beginW w d).2.length : Int))) d m (.asrt (smallW w) (.ite (!mayW w || w.Now == 274877906944) noB
    (.asrt (smallW (tickW w d)) (.asrt (decide (tickW w d = tickW w (cutM (some (false, ((beginW w d).2.length : Int))) d m)) = true → shortTrc (trcW w d)) (.ret (.bool (decide (tickW w d = tickW w (cutM (some (false, ((beginW w d).2.length : Int))) d m)) && sameTrc (trcW w d) (trcW w (cutM (some (false, ((beginW w d).2.length : Int))) d m))), [])))))))))))
theorem fRw (w : Fu.World) (d m : List Int) : callC c141 60 6 [.agg (encW w), .view (.int .i64) d, .view (.int .i64) m] = rwT w d m := by kernel_rfl
/-- Those that begin hang on the numbers that are used alone. -/
theorem begTs_cut {now : Int} (h0 : 0 ≤ now) (h1 : now ≤ 274877906944) : ∀ (l : List Fu.Task) (d e : List Int), (∀ t ∈ l, tkOK now t = true) → (begTs now d l).2.length ≤ d.length → (begTs now d l).2.length ≤ e.length → e.take (begTs now d l).2.length = d.take (begTs now d l).2.length → begTs now e l = begTs now d l
  | [], _, _, _, _, _, _ => rfl
  | t :: l, d, e, h, h2, h3, h4 => by
    have ht := h t (by simp)
    have k1 := (beg_iff ht h0 h1 (lastD_range ht d)).1
    have k2 := (beg_iff ht h0 h1 (lastD_range ht e)).1
    have hl : ∀ u ∈ l, tkOK now u = true := fun u hu => h u (by simp [hu])
    unfold begTs at h2 h3 h4 ⊢
    rw [k1] at h2 h3 h4 ⊢
    rw [k2]
    cases hb : decide (t.At = now) with
    | true =>
      rw [hb] at h2 h3 h4
      simp only [cond_true, List.length_cons] at h2 h3 h4 ⊢
      cases d with
      | nil => simp at h2
      | cons x d =>
        cases e with
        | nil => simp at h3
        | cons y e =>
          rw [List.take_succ_cons, List.take_succ_cons] at h4
          injection h4 with h5 h6
          subst h5
          have ih := begTs_cut h0 h1 l d e hl (by simpa using h2) (by simpa using h3) h6
          have e1 : lastD t (y :: e) = lastD t (y :: d) := rfl
          simp only [List.tail_cons]
          rw [ih, e1]
    | false =>
      rw [hb] at h2 h3 h4
      simp only [cond_false] at h2 h3 h4 ⊢
      rw [begTs_cut h0 h1 l d e hl h2 h3 h4]
theorem tick_same {w : Fu.World} {d e : List Int} (h : beginW w e = beginW w d) : tickW w e = tickW w d ∧ trcW w e = trcW w d := by
  have h1 : startW w e = startW w d := by unfold startW; rw [h]
  have h2 : leftW w e = leftW w d := by unfold leftW; rw [h1, h]
  have h3 : midW w e = midW w d := by unfold midW; rw [h1, h2]
  refine ⟨by unfold tickW; rw [h3], ?_⟩
  unfold trcW tickM
  rw [h1, h3, h]
theorem sameTrc_self (t : Trc) : sameTrc t t = true := by unfold sameTrc; simp
theorem cutT_tru {k : Option (Bool × Int)} {d m : List Int} {t : Tree (AV × List Blk)} (h0 : 0 ≤ highOf k (d.length : Int)) (h1 : highOf k (d.length : Int) ≤ d.length) (hd : d.length ≤ 100) (hm : m.length ≤ 100) (h : Tru t) : Tru (cutT k d m t) := by
  refine .asrt ⟨Int.le_refl _, h0, h1⟩ (.asrt ?_ (.asrt ?_ h))
  · simp
    omega
  · unfold cutM
    simp
    omega
theorem rwT_tru {w : Fu.World} {d m : List Int} (h : smallW w) : Tru (rwT w d m) := by
  refine .asrt h (.ite (fun _ => .yes) fun hb => .asrt h (.ite (fun hc => ?_) fun hc => ?_))
  · simp only [Bool.or_eq_false_iff, decide_eq_false_iff_not] at hb
    refine .ite (fun hx => by cases hx) fun _ => cutT_tru (Int.le_refl _) (by show (0 : Int) ≤ _; omega) (by omega) (by omega) (.asrt h (.ite (fun _ => .asrt h (.asrt (fun _ => ⟨by decide, by decide, by decide⟩) (.of ?_))) fun hx => ?_))
    · rw [sameTrc_self]; simp
    · rw [hc] at hx; cases hx
  · simp only [Bool.or_eq_false_iff, Bool.not_eq_false', decide_eq_false_iff_not] at hb
    obtain ⟨hm, hd, hmm⟩ := hb
    refine .ite (fun _ => .yes) fun hk => ?_
    have hk : ¬ (((beginW w d).2.length : Int) > d.length) := of_decide_eq_false hk
    have hnow : w.Now ≠ 274877906944 := by
      rw [Bool.or_eq_false_iff] at hc
      simpa using hc.2
    have hW := mayW_iff.1 hm
    have hb2 := (begin_T hm d).2
    have hcut : beginW w (cutM (some (false, ((beginW w d).2.length : Int))) d m) = beginW w d := by
      have e1 : ∀ d, beginW w d = ({ w with T := (begTs w.Now d w.T).1 }, (begTs w.Now d w.T).2) := fun d => by unfold beginW; rw [hm]; rfl
      have e2 : cutM (some (false, ((beginW w d).2.length : Int))) d m = d.take (begTs w.Now d w.T).2.length ++ m := by
        unfold cutM
        rw [← hb2]
        simp [highOf, lowOf]
      rw [e2, e1, e1, begTs_cut hW.1.1 hW.1.2 w.T d _ hW.2.2.2.2.1 (by rw [← hb2]; omega)]
      · rw [List.length_append, List.length_take, ← hb2]; omega
      · rw [List.take_append_of_le_length (by rw [List.length_take, ← hb2]; omega), List.take_take, Nat.min_self]
    obtain ⟨t1, t2⟩ := tick_same hcut
    obtain ⟨_, o2, _, _, o5⟩ := okTick_may h hm d
    have hTl : (tickW w d).T.length = (laterW (midW w d).1).T.length := by
      have e : (tickW w d).T = (laterW (midW w d).1).T.map fun t => endK t (laterW (midW w d).1).Now := rfl
      rw [e, List.length_map]
    have hsT : smallW (tickW w d) := ⟨by rw [hTl]; exact o5.1, o5.2⟩
    have hM : (tickM w d).length ≤ (laterW (midW w d).1).T.length := by
      have e : tickM w d = ((laterW (midW w d).1).T.filter (lateM (laterW (midW w d).1).Now)).map (·.ID) := rfl
      rw [e, List.length_map]
      exact List.length_filter_le _ _
    have hB : (beginW w d).2.length ≤ 100 := by omega
    refine cutT_tru (by show (0 : Int) ≤ ((beginW w d).2.length : Int); omega) (by show ((beginW w d).2.length : Int) ≤ _; omega) (by omega) (by omega) (.asrt h (.ite (fun hx => by rw [hc] at hx; cases hx) fun _ => .asrt hsT (.asrt (fun _ => ?_) (.of ?_))))
    · exact ⟨by show ((beginW w d).2.length : Int) ≤ _; omega, by show ((tickM w d).length : Int) ≤ _; have := o5.1; omega, by show (((pickW (startW w d)).2).length : Int) ≤ _; omega⟩
    · rw [t1, t2, sameTrc_self]
      simp
theorem conRw_valid : ValidCon c141.P 6 (lawCon good3V) := lawCon_of (n := 60) c141_good (by kernel_rfl) fun args ⟨w, xs, ys, h1, h2, _⟩ => by
  subst h1
  exact ⟨_, fRw w xs ys, rwT_tru h2⟩
end Go.Fx
