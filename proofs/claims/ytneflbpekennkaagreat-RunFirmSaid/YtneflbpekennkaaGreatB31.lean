import Derived.Test.YtneflbpekennkaaGreatB30
/- Contracts: jobs begin, and end, in a world. -/
namespace Go.Fx
open Go Go.Proofs Go.RowKit

/-! ### rows written anew, one by one, with what goes on -/
section
variable {r : RTy} {π : Type} (f : π → r.carrier → r.carrier) (g : π → r.carrier → π)
def accM : π → List r.carrier → List r.carrier × π
  | a, [] => ([], a)
  | a, y :: l => (f a y :: (accM (g a y) l).1, (accM (g a y) l).2)
def okAcc (okE : π → r.carrier → Prop) : π → List r.carrier → Prop
  | _, [] => True
  | a, y :: l => okE a y ∧ okAcc okE (g a y) l
variable {f g} {okE : π → r.carrier → Prop}
theorem accM_len : ∀ (l : List r.carrier) (a : π), (accM f g a l).1.length = l.length
  | [], _ => rfl
  | y :: l, a => by
    show (accM f g (g a y) l).1.length + 1 = l.length + 1
    rw [accM_len l]
theorem foldAcc : ∀ (l pre : List r.carrier) (a : π), okAcc g okE a l →
    foldI (nxtM f g) l.length (pre ++ l, a) pre.length = (pre ++ (accM f g a l).1, (accM f g a l).2) ∧ okI (nxtM f g) (fun _ _ => (none : Option Unit)) (okM okE) l.length (pre ++ l, a) pre.length
  | [], pre, a, _ => ⟨rfl, trivial⟩
  | y :: l, pre, a, h => by
    have e : nxtM f g (pre ++ y :: l, a) pre.length = ((pre ++ [f a y]) ++ l, g a y) := by
      unfold nxtM
      simp only
      rw [rd_mid, upd_mid]
      simp
    have el : (pre.length : Int) + 1 = ((pre ++ [f a y]).length : Int) := by simp
    obtain ⟨h1, h2⟩ := foldAcc l (pre ++ [f a y]) (g a y) h.2
    refine ⟨?_, ⟨?_, ?_⟩, fun _ => ?_⟩
    · show foldI (nxtM f g) l.length (nxtM f g (pre ++ y :: l, a) pre.length) (pre.length + 1) = _
      rw [e, el, h1]
      simp only [List.append_assoc, List.singleton_append]
      rfl
    · show (pre.length : Int) < ((pre ++ y :: l).length : Int)
      simp
      omega
    · show okE a (rd r (pre ++ y :: l) pre.length)
      rw [rd_mid]
      exact h.1
    · show okI (nxtM f g) _ (okM okE) l.length (nxtM f g (pre ++ y :: l, a) pre.length) (pre.length + 1)
      rw [e, el]
      exact h2
end

/-! ### the nil slice behind other blocks -/
theorem nil_own_at {w w' : World} {S : Nat → Prop} {v v' : AV} {bs : List Blk} {x : Value} {ψ : Env} (r : RTy) (e : TypeId) (hp : ResPost w S Env.none 0 v bs x w' ψ) (hv : ∀ ψ', Mono w' S ψ w' S ψ' → (∃ s, ψ' bs.length = some s ∧ s = ⟨true, none, 0, 0⟩) → Reps w' S ψ' [v'] [x]) :
    ∃ ψ', ResPost w S Env.none 0 v' (bs ++ [.rows r e []]) x w' ψ' := by
  have hψ : ∀ id, bs.length ≤ id → ψ id = none := fun id h => hp.ext.same id (by omega)
  let ψ' : Env := fun id => if id = bs.length then some ⟨true, none, 0, 0⟩ else ψ id
  have h0 : ψ' bs.length = some ⟨true, none, 0, 0⟩ := by simp [ψ']
  have hne : ∀ id, id ≠ bs.length → ψ' id = ψ id := fun id h => by simp [ψ', h]
  have hm : Mono w' S ψ w' S ψ' := by
    refine ⟨fun b s hb => ?_, fun B hB => ?_⟩
    · have : b ≠ bs.length := fun e => by rw [e, hψ _ (Nat.le_refl _)] at hb; cases hb
      exact .inl ((hne b this).trans hb)
    · refine ⟨⟨hB.1, hB.2.1, ?_⟩, rfl⟩
      rintro ⟨id, c, l, h⟩
      by_cases hid : id = bs.length
      · rw [hid, h0] at h; cases h
      · rw [hne id hid] at h; exact hB.2.2 ⟨id, c, l, h⟩
  refine ⟨ψ', ⟨hp.ext.below, fun id hid => ?_, fun id s h1 h2 h3 B hB => ?_, fun id id' s s' B h1 h2 h3 h4 h5 h6 h7 h8 h9 h10 => ?_⟩, hv ψ' hm ⟨_, h0, rfl⟩, fun j blk hj => ?_⟩
  · rw [List.length_append] at hid
    simp only [List.length_cons, List.length_nil] at hid
    rw [hne id (by omega)]
    exact hp.ext.same id (by omega)
  · rw [List.length_append] at h2
    simp only [List.length_cons, List.length_nil] at h2
    by_cases hid : id = bs.length
    · rw [hid, h0] at h3; cases h3; cases hB
    · rw [hne id hid] at h3
      exact hp.ext.new id s h1 (by omega) h3 B hB
  · rw [List.length_append] at h2 h4
    simp only [List.length_cons, List.length_nil] at h2 h4
    by_cases hid : id = bs.length
    · rw [hid, h0] at h5; cases h5; cases h7
    · by_cases hid' : id' = bs.length
      · rw [hid', h0] at h6; cases h6; cases h8
      · rw [hne id hid] at h5
        rw [hne id' hid'] at h6
        exact hp.ext.inj id id' s s' B h1 (by omega) h3 (by omega) h5 h6 h7 h8 h9 h10
  · rcases Nat.lt_or_ge j bs.length with hlt | hge
    · rw [List.getElem?_append_left hlt] at hj
      obtain ⟨B, c, l, k1, k2⟩ := hp.blks j blk hj
      refine ⟨B, c, l, ?_, k2.mono hm fun _ _ => rfl⟩
      rw [hne _ (by omega)]
      exact k1
    · rw [List.getElem?_append_right hge] at hj
      have hj0 : j - bs.length = 0 := by
        rcases Nat.eq_zero_or_pos (j - bs.length) with h | h
        · exact h
        · rw [List.getElem?_eq_none (by simp; omega)] at hj; cases hj
      rw [hj0] at hj
      simp at hj
      subst hj
      refine ⟨none, 0, 0, ?_, rfl, [], ⟨by simp, .inl ⟨rfl, rfl⟩⟩, .nil, by simp⟩
      rw [show 0 + j = bs.length by omega]
      exact h0
/-- A contract that says of the nil slice at the end of what is handed on that it is the call's own. -/
theorem ValidCon.nilTail {P : Program} {g : Nat} {c c' : Con} (V : ValidCon P g c)
    (h : ∀ args r, (c' args).Out r → (∃ v, AsArg v r.1 ∧ (c args).Out (v, r.2)) ∨ (∃ a bs rt e, r = (.tup [a, .own bs.length], bs ++ [.rows rt e []]) ∧ (c args).Out (.tup [a, .nils], bs))) : ValidCon P g c' := by
  refine ⟨V.1, fun args r hr w S vals hS hv => ?_⟩
  rcases h args r hr with ⟨v, h1, h2⟩ | ⟨a, bs, rt, e, rfl, h2⟩
  · refine (V.2 args _ h2 w S vals hS hv).mono ?_
    rintro e w' ⟨x, ψ, rfl, hp⟩
    exact ⟨x, ψ, rfl, ⟨hp.ext, h1.reps hp.val, hp.blks⟩⟩
  · refine (V.2 args _ h2 w S vals hS hv).mono ?_
    rintro e' w' ⟨x, ψ, rfl, hp⟩
    have hval := hp.val
    cases hval with
    | tup hr _ =>
      obtain ⟨v1, us, rfl, hr1, hr2⟩ := hr.uncons
      cases hr2 with
      | nils ad hr3 =>
        cases hr3.nil_inv
        obtain ⟨ψ', hp'⟩ := nil_own_at rt e hp (v' := .tup [a, .own bs.length]) fun ψ' m ⟨s, hs1, hs2⟩ => by
          subst hs2
          exact .tup (Reps.cons (hr1.mono m) (.own ⟨_, hs1, ⟨ad, rfl⟩⟩ .nil)) .nil
        exact ⟨_, ψ', rfl, hp'⟩

/-! ### release.lasts -/
def lastD (t : Fu.Task) (d : List Int) : Int := match d with | [] => t.S.C | x :: _ => bif decide (x < 1) || decide (x > 20) then t.S.C else x
def tailD (d : List Int) : List Int := (d.take (highOf none (d.length : Int)).toNat).drop (lowOf (some (true, 1))).toNat
def cutOK (d : List Int) : Prop := 0 ≤ lowOf (some (true, 1)) ∧ lowOf (some (true, 1)) ≤ highOf none (d.length : Int) ∧ highOf none (d.length : Int) ≤ d.length
theorem fLasts (t : Fu.Task) (d : List Int) : callC c77 60 37 [.agg (encTask t), .view (.int .i64) d] =
  .ite ((d.length : Int) == 0) (.ret (.tup [.int .i64 t.S.C, .nils], [])) (.asrt (0 ≤ (0 : Int) ∧ (0 : Int) < d.length) (.asrt (decide (rd (.int .i64) d 0 < 1) = false → 0 ≤ (0 : Int) ∧ (0 : Int) < d.length)
    (.ite (decide (rd (.int .i64) d 0 < 1) || decide (rd (.int .i64) d 0 > 20)) (.asrt (cutOK d) (.ret (.tup [.int .i64 t.S.C, .view (.int .i64) (tailD d)], [])))
      (.asrt (0 ≤ (0 : Int) ∧ (0 : Int) < d.length) (.asrt (cutOK d) (.ret (.tup [.int .i64 (rd (.int .i64) d 0), .view (.int .i64) (tailD d)], []))))))) := by kernel_rfl
def conLasts : Con := plainCon (d2 dTask (dView (.int .i64))) fun x => .tup [.int .i64 (lastD x.1 x.2), .view (.int .i64) x.2.tail]
theorem conLasts_valid : ValidCon c77.P 37 conLasts := plainCon_valid c77_good 60 (by kernel_rfl) fun x => ⟨_, fLasts x.1 x.2, by
  generalize x.1 = t
  generalize x.2 = d
  cases d with
  | nil => exact .itet rfl (.ret (.tup (.cons (.refl _) (.cons ⟨fun hr => by cases hr with | nils a _ => exact .view0 _ _ rfl _ _ .nil⟩ .nil))) rfl)
  | cons y d =>
    have hlen : ((y :: d).length : Int) = (d.length : Int) + 1 := by simp
    have hc : cutOK (y :: d) := ⟨by show (0 : Int) ≤ 1; omega, by show (1 : Int) ≤ ((y :: d).length : Int); omega, Int.le_refl _⟩
    have ht : tailD (y :: d) = d := by
      unfold tailD
      rw [show (highOf none ((y :: d).length : Int)).toNat = (y :: d).length by show (((y :: d).length : Nat) : Int).toNat = _; omega, List.take_length]
      rfl
    have h0 : 0 ≤ (0 : Int) ∧ (0 : Int) < ((y :: d).length : Int) := by omega
    rw [ht]
    refine .itee (by rw [hlen, beq_eq_false_iff_ne]; omega) (.asrt h0 (.asrt (fun _ => h0) ?_))
    have e : rd (.int .i64) (y :: d) 0 = y := rfl
    rw [e]
    unfold lastD
    cases hb : (decide (y < 1) || decide (y > 20)) with
    | true => exact .itet rfl (.asrt hc (.ret (.tup (.cons (.eq (by simp only [hb]; rfl)) (.cons (.refl _) .nil))) rfl))
    | false => exact .itee rfl (.asrt h0 (.asrt hc (.ret (.tup (.cons (.eq (by simp only [hb]; rfl)) (.cons (.refl _) .nil))) rfl)))⟩
noncomputable def c78 : Cfg := c77.addQuiet 37 conLasts
theorem c78_good : GoodCfg c78 := c77_good.addQuiet conLasts_valid plainCon_quiet

/-! ### release.End -/
abbrev PEn := (Int × List Fu.Ape × Int) × List Int
abbrev AEn := List Fu.Task × PEn
def ownW (w : PEn) : List AV := [.int .i64 w.1.1, .own 20, .own 84, .int .i64 w.1.2.2]
def zeroWA : List AV := [.lit .i64 0, .nils, .nils, .lit .i64 0]
def TEn (x : Int × AEn × Int) : St := ⟨puts (J 46) [(1, .ptr 0 0), (2, .ptr 1 0), (4, .own 85), (12, .own 20), (13, .int .i64 x.1), (14, .int .i64 x.2.2)], [(0, .cells (ownW x.2.1.2)), (1, .cells zeroWA), (20, .rows .task 47 x.2.1.1), (84, .rows .ape 49 x.2.1.2.1.2.1), (85, .rows (.int .i64) 3 x.2.1.2.2)], 86⟩
def sEn : List Sh := sets (Js 46) [(1, .keep), (2, .keep), (4, .keep), (12, .keep), (13, .int), (14, .int)]
def eEn : List Sh := sets (Js 46) [(1, .keep), (2, .keep), (4, .keep)]
def fEn (ss : List Sh) (σ : St) : St := norm2 85 [.tmp 4] [0, 1, 20, 84, 85] ss (ownSlot 4 (.int .i64) 3 σ)
theorem weak_fEn (ss : List Sh) (σ : St) : Weak 85 σ (fEn ss σ) := (Weak.ownSlot 85 4 (.int .i64) 3 σ).trans (Weak.norm2 85 [.tmp 4] [0, 1, 20, 84, 85] ss _)
def EEn (x : AEn) : Ex × St := (.exit 0, ⟨puts (J 46) [(1, .ptr 0 0), (2, .ptr 1 0), (4, .own 85)], [(0, .cells (ownW x.2)), (1, .cells zeroWA), (20, .rows .task 47 x.1), (84, .rows .ape 49 x.2.1.2.1), (85, .rows (.int .i64) 3 x.2.2)], 86⟩)
def lateM (now : Int) (t : Fu.Task) : Bool := atF t.J now == 3 && t.J.Mand
theorem bEn (N : Int) (x : AEn) (i : Int) : roundN c78 90 35 (loopAt c78.P 35 4) (fEn sEn) (fEn eEn) (TEn (N, x, i)) =
    .ite (decide (i < N)) (.asrt (0 ≤ i ∧ i < x.1.length) (.asrt (0 ≤ i ∧ i < x.1.length) (.ite (lateM x.2.1.1 (rd .task x.1 i))
      (.asrt ((x.2.2 ++ [(rd .task x.1 i).ID]).length * 8 ≤ 140737488355328) (.asrt (0 ≤ i ∧ i < x.1.length) (.asrt (0 ≤ i ∧ i < x.1.length) (.ret (.normal, TEn (N, (upd .task x.1 i (endK (rd .task x.1 i) x.2.1.1), (x.2.1, x.2.2 ++ [(rd .task x.1 i).ID])), IntKind.i64.wrap (i + 1)))))))
      (.asrt (0 ≤ i ∧ i < x.1.length) (.asrt (0 ≤ i ∧ i < x.1.length) (.ret (.normal, TEn (N, (upd .task x.1 i (endK (rd .task x.1 i) x.2.1.1), x.2), IntKind.i64.wrap (i + 1))))))))) (.ret (EEn x)) := by kernel_rfl
def gEn (σ : St) : Option (Int × AEn × Int) :=
  match nth σ.tmps 13, nth σ.tmps 14, σ.heap with
  | .int .i64 N, .int .i64 i, [(_, .cells [.int .i64 a, _, _, .int .i64 c]), _, (_, .rows .task _ T), (_, .rows .ape _ A), (_, .rows (.int .i64) _ o)] => some (N, (T, ((a, A, c), o)), i)
  | _, _, _ => none
def fEnd1 (a : PEn) (t : Fu.Task) : Fu.Task := endK t a.1.1
def gEnd1 (a : PEn) (t : Fu.Task) : PEn := (a.1, bif lateM a.1.1 t then a.2 ++ [t.ID] else a.2)
def okEnd1 (a : PEn) (_ : Fu.Task) : Prop := (a.2.length + 1) * 8 ≤ 140737488355328
def LEn : LoopCon := countF 85 (fEn sEn) TEn gEn (okM (r := .task) okEnd1) (nxtM (r := .task) fEnd1 gEnd1) EEn
theorem lEn (hs : SubOf c78.P 35 (.loop (loopAt c78.P 35 4))) : SoundLoop c78 (loopAt c78.P 35 4) LEn :=
  count_fold (C := c78) (g := 35) (l := 4) c78_good 90 85 _ _ (weak_fEn sEn) (weak_fEn eEn) hs TEn gEn (okM (r := .task) okEnd1) (nxtM (r := .task) fEnd1 gEnd1) EEn (fun _ => by intro h; cases h)
    (fun N x i h0 hi hm hok => .of_eq (bEn N x i) (by
      unfold maxI64 at hm
      rw [wrap_fits (n := i + 1) (by omega) (by omega)]
      have a : 0 ≤ i ∧ i < (x.1.length : Int) := ⟨h0, hok.1⟩
      refine (Tree.out_ite_true (decide_eq_true hi)).2 ⟨a, a, ?_⟩
      unfold nxtM fEnd1 gEnd1
      cases h : lateM x.2.1.1 (rd .task x.1 i) with
      | true => exact (Tree.out_ite_true rfl).2 ⟨by rw [List.length_append]; exact hok.2, a, a, rfl⟩
      | false => exact (Tree.out_ite_false rfl).2 ⟨a, a, rfl⟩))
    (fun N x i hi => .of_eq (bEn N x i) ((Tree.out_ite_false (decide_eq_false (by omega))).2 rfl))
noncomputable def c79 : Cfg := c78.addLoop 35 4 LEn
theorem c79_good : GoodCfg c79 := c78_good.addLoop (by unfold OneLoop; kernel_rfl) lEn
def endIn (w : Fu.World) : AEn := (w.T, ((w.Now, w.A, w.Cur), []))
def endOut (w : Fu.World) : AEn := foldI (nxtM (r := .task) fEnd1 gEnd1) ((w.T.length : Int) - 0).toNat (endIn w) 0
def resW (now : Int) (T : List Fu.Task) (A : List Fu.Ape) (c : Int) (o : List Int) : AV × List Blk := (.tup [.agg [.int .i64 now, .own 0, .own 1, .int .i64 c], .own 2], [.rows .task 47 T, .rows .ape 49 A, .rows (.int .i64) 3 o])
def endWT (w : Fu.World) : Tree (AV × List Blk) := .asrt (boundLT w.T) (.asrt (boundLA w.A) (.asrt (85 = 85 ∧ TEn ((w.T.length : Int), endIn w, 0) = TEn ((w.T.length : Int), endIn w, 0)) (.asrt (0 ≤ (0 : Int) ∧ (w.T.length : Int) ≤ maxI64 ∧ okI (nxtM (r := .task) fEnd1 gEnd1) (fun _ _ => (none : Option Unit)) (okM (r := .task) okEnd1) ((w.T.length : Int) - 0).toNat (endIn w) 0)
  (.ret (resW (endOut w).2.1.1 (endOut w).1 (endOut w).2.1.2.1 (endOut w).2.1.2.2 (endOut w).2.2)))))
theorem fRelEnd (w : Fu.World) : callC c79 90 35 [.agg (encW w)] = endWT w := by kernel_rfl
/-- A world behind its jobs' ends, and whose mandatory jobs were missed. -/
def endW (w : Fu.World) : Fu.World := { w with T := w.T.map fun t => endK t w.Now }
def missedW (w : Fu.World) : List Int := (w.T.filter (lateM w.Now)).map (·.ID)
def conEnd : Con := resCon (d1 dWorld) smallW fun w => resW w.Now (endW w).T w.A w.Cur (missedW w)
theorem accEnd (p : Int × List Fu.Ape × Int) : ∀ (l : List Fu.Task) (o : List Int), accM (r := .task) fEnd1 gEnd1 (p, o) l = (l.map fun t => endK t p.1, (p, o ++ (l.filter (lateM p.1)).map (·.ID)))
  | [], o => by simp [accM]
  | t :: l, o => by
    unfold accM
    have e : gEnd1 (p, o) t = (p, bif lateM p.1 t then o ++ [t.ID] else o) := rfl
    rw [e, accEnd p l]
    cases h : lateM p.1 t with
    | true => simp [List.filter_cons, h, fEnd1]
    | false => simp [List.filter_cons, h, fEnd1]
theorem okEnd (p : Int × List Fu.Ape × Int) : ∀ (l : List Fu.Task) (o : List Int), (o.length + l.length) * 8 ≤ 140737488355328 → okAcc (r := .task) gEnd1 okEnd1 (p, o) l
  | [], _, _ => trivial
  | t :: l, o, h => by
    rw [List.length_cons] at h
    refine ⟨by show (o.length + 1) * 8 ≤ 140737488355328; omega, okEnd p l _ ?_⟩
    show ((bif lateM p.1 t then o ++ [t.ID] else o).length + l.length) * 8 ≤ _
    cases lateM p.1 t with
    | true => simp only [cond_true, List.length_append, List.length_cons, List.length_nil]; omega
    | false => simp only [cond_false]; omega
theorem endWT_rez {w : Fu.World} (h : smallW w) : Rez (endWT w) (resW w.Now (endW w).T w.A w.Cur (missedW w)) := by
  obtain ⟨h1, h2⟩ := h
  obtain ⟨k1, k2⟩ := foldAcc (r := .task) (f := fEnd1) (g := gEnd1) (okE := okEnd1) w.T [] ((w.Now, w.A, w.Cur), []) (okEnd _ _ _ (by simp; omega))
  rw [accEnd] at k1
  have e : ((w.T.length : Int) - 0).toNat = w.T.length := by omega
  refine .asrt (by unfold boundLT; omega) (.asrt (by unfold boundLA; omega) (.asrt ⟨rfl, rfl⟩ (.asrt ⟨Int.le_refl _, by unfold maxI64; omega, ?_⟩ ?_)))
  · rw [e]; exact k2
  · unfold endOut
    rw [e]
    have k1' : foldI (nxtM (r := .task) fEnd1 gEnd1) w.T.length (endIn w) 0 = _ := k1
    rw [k1']
    exact .ret (.refl _) rfl
theorem conEnd_valid : ValidCon c79.P 35 conEnd := resCon_valid c79_good 90 (by kernel_rfl) fun w h => ⟨_, fRelEnd w, endWT_rez h⟩
noncomputable def c80 : Cfg := c79.addCon 35 conEnd
theorem c80_good : GoodCfg c80 := c79_good.addCon conEnd_valid (by kernel_rfl)
end Go.Fx
