import Derived.Test.YtdpcphkhkhdbnaaR3
import Derived.Test.YtdpcphkhkhdbnaaPlR
/- The law ReleaseBegins. -/
namespace Go.Fx
open Go Go.Proofs

abbrev ARb := Fu.World × List Int × List Fu.Task × List Int
def hRb (x : ARb) : Heap := [(0, .cells (encW x.1)), (1, .rows .task 39 x.2.2.1), (2, .rows .ape 63 x.1.A), (3, .rows (.int .i64) 3 x.2.2.2), (4, .cells [.int .i64 x.1.Now, .own 1, .own 2, .int .i64 x.1.Cur])]
def TRb (x : ARb × Int × Int) : St := ⟨puts (J 179) [(1, .view (.int .i64) x.1.2.1), (2, .ptr 0 0), (6, .ptr 4 0), (7, .own 3), (8, .int .i64 x.2.1), (9, .int .i64 x.2.2)], hRb x.1, 5⟩
def sRb : List Sh := sets (Js 179) [(1, .keep), (2, .keep), (6, .keep), (7, .keep), (8, .int), (9, .int)]
def rRb : List Sh := sets (Js 179) [(4, .keep)]
def xRb : List Sh := sets (Js 179) [(7, .keep), (8, .int)]
def fRb (σ : St) : St := norm2 5 [] [0, 1, 2, 3, 4] sRb σ
def eRb (σ : St) : St := outE 5 4 [] [3] rRb xRb σ
def RRb (b : Bool) : Ex × St := (.ret, (⟨puts (J 179) [(4, .blit b)], [], 5⟩ : St))
def ERb (x : ARb) (at' : Int) : Ex × St := (.exit 0, ⟨puts (J 179) [(7, .own 3), (8, .int .i64 at')], [(3, .rows (.int .i64) 3 x.2.2.2)], 5⟩)
def oneD (d : List Int) (k : Int) : Bool := decide (k < (d.length : Int)) && (decide (rd (.int .i64) d k ≥ 1) && decide (rd (.int .i64) d k ≤ 20))
def longD (d : List Int) (k c : Int) : Int := bif oneD d k then rd (.int .i64) d k else c
def badRb (now : Int) (t u : Fu.Task) (long : Int) (o : List Int) (k : Int) : Bool := !u.J.On || (u.J.Rel != now || (u.J.J != t.N || (u.At != IntKind.i64.wrap (now + t.Next) || (t.J.On || (u.J.D != long || (decide (k ≥ (o.length : Int)) || rd (.int .i64) o k != t.ID))))))
def okRb (now : Int) (t u : Fu.Task) (long : Int) (o : List Int) (k : Int) : Prop := (!u.J.On) = false → (u.J.Rel != now) = false → (u.J.J != t.N) = false → (u.At != IntKind.i64.wrap (now + t.Next)) = false → t.J.On = false → (u.J.D != long) = false → decide (k ≥ (o.length : Int)) = false → 0 ≤ k ∧ k < (o.length : Int)
theorem bRb (x : ARb) (k i : Int) : roundN c92 60 3 (loopAt c92.P 3 9) fRb eRb (TRb (x, k, i)) =
    .ite (decide (i < x.1.T.length)) (.asrt (0 ≤ i ∧ i < x.1.T.length) (.asrt (0 ≤ i ∧ i < x.2.2.1.length) (.asrt (0 ≤ i ∧ i < x.2.2.1.length) (.ite (decide ((rd .task x.1.T i).N > 274877906944)) (.ret (RRb true))
      (.ite ((rd .task x.1.T i).At != x.1.Now) (.ite (!eqTaskB (rd .task x.2.2.1 i) (rd .task x.1.T i)) (.ret (RRb false)) (.ret (.normal, TRb (x, k, IntKind.i64.wrap (i + 1)))))
        (.asrt (decide (k < (x.2.1.length : Int)) = true → 0 ≤ k ∧ k < (x.2.1.length : Int)) (.asrt (decide (k < (x.2.1.length : Int)) = true → decide (rd (.int .i64) x.2.1 k ≥ 1) = true → 0 ≤ k ∧ k < (x.2.1.length : Int)) (.asrt (oneD x.2.1 k = true → 0 ≤ k ∧ k < (x.2.1.length : Int))
          (.asrt (okRb x.1.Now (rd .task x.1.T i) (rd .task x.2.2.1 i) (longD x.2.1 k (rd .task x.1.T i).S.C) x.2.2.2 k) (.asrt (okRb x.1.Now (rd .task x.1.T i) (rd .task x.2.2.1 i) (longD x.2.1 k (rd .task x.1.T i).S.C) x.2.2.2 k)
            (.ite (badRb x.1.Now (rd .task x.1.T i) (rd .task x.2.2.1 i) (longD x.2.1 k (rd .task x.1.T i).S.C) x.2.2.2 k) (.ret (RRb false)) (.ret (.normal, TRb (x, IntKind.i64.wrap (k + 1), IntKind.i64.wrap (i + 1))))))))))))))) (.ret (ERb x k)) := by kernel_rfl
def gRb (σ : St) : Option (ARb × Int × Int) :=
  match nth σ.tmps 1, nth σ.tmps 8, nth σ.tmps 9, σ.heap with
  | .view (.int .i64) d, .int .i64 k, .int .i64 i, [(_, .cells [.int .i64 a, .view .task t, .view .ape q, .int .i64 c]), (_, .rows .task _ T), _, (_, .rows (.int .i64) _ o), _] => some ((⟨a, t, q, c⟩, d, T, o), k, i)
  | _, _, _, _ => none
/-- What is left of the tasks, and of who began. -/
def InvRb (x : ARb × Int × Int) : Prop := mayW x.1.1 = true ∧ (0 ≤ x.2.2 ∧ x.2.2 ≤ x.1.1.T.length) ∧ x.1.2.2.1.length = x.1.1.T.length ∧ (0 ≤ x.2.1 ∧ x.2.1 ≤ x.1.2.2.2.length ∧ (x.1.2.2.2.length : Int) ≤ 4) ∧ (x.1.2.2.1.drop x.2.2.toNat = (begTs x.1.1.Now (x.1.2.1.drop x.2.1.toNat) (x.1.1.T.drop x.2.2.toNat)).1 ∧ x.1.2.2.2.drop x.2.1.toNat = (begTs x.1.1.Now (x.1.2.1.drop x.2.1.toNat) (x.1.1.T.drop x.2.2.toNat)).2)
theorem rd_memT {T : List Fu.Task} {i : Int} (h0 : 0 ≤ i) (h1 : i < T.length) : rd .task T i ∈ T := by
  have hlt : i.toNat < T.length := by omega
  have : rd .task T i = T[i.toNat] := by simp [rd, hlt]
  rw [this]
  exact List.getElem_mem _
def bigN (l : List Fu.Task) : Bool := l.any fun t => decide (t.N > 274877906944)
def LxRb (x : ARb × Int × Int) : Tree (Ex × St) := .asrt (InvRb x) (.ite (bigN (x.1.1.T.drop x.2.2.toNat)) (.ret (RRb true)) (.ret (ERb x.1 x.1.2.2.2.length)))
def LRb : LoopCon := entry 5 fRb TRb gRb LxRb
theorem lRb (hs : SubOf c92.P 3 (.loop (loopAt c92.P 3 9))) : SoundLoop c92 (loopAt c92.P 3 9) LRb := by
  refine loop_rule3 (C := c92) (g := 3) (l := 9) c92_good 60 5 _ _ (Weak.norm2 5 [] [0, 1, 2, 3, 4] sRb) (weak_outE 5 4 [] [3] rRb xRb) hs TRb LxRb (fun x => (x.1.1.T.length - x.2.2).toNat) (fun x q h => ?_) entry_out
  obtain ⟨⟨w, d, T, o⟩, k, i⟩ := x
  obtain ⟨⟨hm, ⟨h0, h1⟩, hlen, ⟨h2, h3, h9⟩, h4, h5⟩, h⟩ := Tree.out_asrt.1 h
  simp only at hm h0 h1 hlen h2 h3 h4 h5 h9 h
  obtain ⟨m1, m2, _, _, m5, _⟩ := mayW_iff.1 hm
  refine .of_eq (bRb (w, d, T, o) k i) ?_
  simp only
  rw [wrap_fits (n := i + 1) (by omega) (by omega), wrap_fits (n := k + 1) (by omega) (by omega)]
  refine Tree.wp_ite.2 ⟨fun hi => ?_, fun hi => ?_⟩
  · have hi : i < (w.T.length : Int) := of_decide_eq_true hi
    have a1 : 0 ≤ i ∧ i < (T.length : Int) := ⟨h0, by omega⟩
    have hd := drop_rd (r := .task) (xs := w.T) h0 hi
    have hd' := drop_rd (r := .task) (xs := T) h0 a1.2
    have hk := m5 _ (rd_memT h0 hi)
    rw [hd] at h h4 h5
    rw [hd'] at h4
    refine ⟨⟨h0, hi⟩, a1, a1, Tree.wp_ite.2 ⟨fun hN => ?_, fun hN => ?_⟩⟩
    · have : bigN (rd .task w.T i :: w.T.drop (i + 1).toNat) = true := by unfold bigN; rw [List.any_cons, hN]; rfl
      rw [this] at h
      exact Rnd.ret h
    have hN' := of_decide_eq_false hN
    have e : bigN (rd .task w.T i :: w.T.drop (i + 1).toNat) = bigN (w.T.drop (i + 1).toNat) := by unfold bigN; rw [List.any_cons, hN]; rfl
    rw [e] at h
    refine Tree.wp_ite.2 ⟨fun hA => ?_, fun hA => ?_⟩
    · have hA : (rd .task w.T i).At ≠ w.Now := by simpa using hA
      unfold begTs at h4 h5
      rw [begOK_not hA] at h4 h5
      simp only [cond_false, List.cons.injEq] at h4 h5
      have heq : (!eqTaskB (rd .task T i) (rd .task w.T i)) = false := by
        rw [h4.1, eqTaskB_eq]; simp
      rw [heq]
      refine Tree.wp_ite.2 ⟨fun hb => (by cases hb), fun _ => ?_⟩
      exact Rnd.go (m := fun x : ARb × Int × Int => (x.1.1.T.length - x.2.2).toNat) (x := ((w, d, T, o), k, i)) ((w, d, T, o), k, i + 1) (by simp only; omega) (Tree.out_asrt.2 ⟨⟨hm, ⟨by simp only; omega, by simp only; omega⟩, hlen, ⟨h2, h3, h9⟩, h4.2, h5⟩, h⟩)
    · have hA : (rd .task w.T i).At = w.Now := by simpa using hA
      obtain ⟨hb1, hb2⟩ := begOK_now hk m1.1 m1.2 hA (by omega) (d.drop k.toNat)
      unfold begTs at h4 h5
      rw [hb1] at h4 h5
      simp only [cond_true, List.cons.injEq] at h4 h5
      have hko : k < (o.length : Int) := by
        rcases Int.lt_or_le k o.length with hlt | hge
        · exact hlt
        · rw [drop_end (by omega)] at h5; cases h5
      have hdo := drop_rd (r := .int .i64) (xs := o) h2 hko
      have h5' : rd (.int .i64) o k :: o.drop (k + 1).toNat = (rd .task w.T i).ID :: _ := hdo.symm.trans h5
      rw [List.cons.injEq] at h5'
      have hlong : longD d k (rd .task w.T i).S.C = lastD (rd .task w.T i) (d.drop k.toNat) := (lastD_at _ d h2).symm
      have etail : (d.drop k.toNat).tail = d.drop (k + 1).toNat := by rw [List.tail_drop]; congr 1; omega
      have hbad : badRb w.Now (rd .task w.T i) (rd .task T i) (longD d k (rd .task w.T i).S.C) o k = false := by
        unfold badRb
        rw [h4.1, hlong, hb2, h5'.1, decide_eq_false (by omega)]
        simp [begT, begJ, jobOf]
      rw [hbad]
      refine ⟨fun hd => ⟨h2, of_decide_eq_true hd⟩, fun hd _ => ⟨h2, of_decide_eq_true hd⟩, fun hd => ⟨h2, ?_⟩, fun _ _ _ _ _ _ hd => ⟨h2, hko⟩, fun _ _ _ _ _ _ hd => ⟨h2, hko⟩, Tree.wp_ite.2 ⟨fun hb => (by cases hb), fun _ => ?_⟩⟩
      · unfold oneD at hd
        simp only [Bool.and_eq_true, decide_eq_true_eq] at hd
        exact hd.1
      · rw [etail] at h4 h5'
        exact Rnd.go (m := fun x : ARb × Int × Int => (x.1.1.T.length - x.2.2).toNat) (x := ((w, d, T, o), k, i)) ((w, d, T, o), k + 1, i + 1) (by simp only; omega) (Tree.out_asrt.2 ⟨⟨hm, ⟨by simp only; omega, by simp only; omega⟩, hlen, ⟨by simp only; omega, by simp only; omega, h9⟩, h4.2, h5'.2⟩, h⟩)
  · have hi : ¬ i < (w.T.length : Int) := of_decide_eq_false hi
    rw [drop_end (xs := w.T) (by omega)] at h h5
    have h5 : o.drop k.toNat = [] := h5
    have : o.length ≤ k.toNat := by simpa using h5
    have e : (o.length : Int) = k := by omega
    have h' : Tree.Out (.ret (ERb (w, d, T, o) o.length)) q := h
    rw [e] at h'
    exact Rnd.out h'
noncomputable def c93 : Cfg := c92.addLoop 3 9 LRb
theorem c93_good : GoodCfg c93 := c92_good.addLoop (by unfold OneLoop; kernel_rfl) lRb
def rbT (w : Fu.World) (d : List Int) : Tree (AV × List Blk) :=
  .asrt (smallW w) (.ite (!mayW w || decide ((d.length : Int) > 100)) (.ret (.blit true, [])) (.asrt (smallW w) (.ite (((beginW w d).1.T.length : Int) != w.T.length || (w.Now != w.Now || (w.Cur != w.Cur || (w.A.length : Int) != w.A.length))) (.ret (.blit false, []))
    (.asrt (5 = 5 ∧ TRb ((w, d, (beginW w d).1.T, (beginW w d).2), 0, 0) = TRb ((w, d, (beginW w d).1.T, (beginW w d).2), 0, 0)) (.asrt (InvRb ((w, d, (beginW w d).1.T, (beginW w d).2), 0, 0))
      (.ite (bigN (w.T.drop (0 : Int).toNat)) (.ret (.blit true, [])) (.ret (.bool (((beginW w d).2.length : Int) == (beginW w d).2.length), []))))))))
theorem fRb17 (w : Fu.World) (d : List Int) : callC c93 60 3 [.agg (encW w), .view (.int .i64) d] = rbT w d := by kernel_rfl
theorem begTs_ids_le (now : Int) : ∀ (l : List Fu.Task) (d : List Int), (begTs now d l).2.length ≤ l.length
  | [], _ => by simp [begTs]
  | t :: l, d => by
    unfold begTs
    cases begOK t now (lastD t d) with
    | true => simp only [cond_true, List.length_cons]; have := begTs_ids_le now l d.tail; omega
    | false => simp only [cond_false, List.length_cons]; have := begTs_ids_le now l d; omega
theorem rbT_tru {w : Fu.World} {d : List Int} (h : smallW w) : Tru (rbT w d) := by
  refine .asrt h (.ite (fun _ => .yes) fun hc => .asrt h ?_)
  simp only [Bool.or_eq_false_iff, Bool.not_eq_false', decide_eq_false_iff_not] at hc
  obtain ⟨hm, _⟩ := hc
  obtain ⟨_, m2, _⟩ := mayW_iff.1 hm
  have e : beginW w d = ({ w with T := (begTs w.Now d w.T).1 }, (begTs w.Now d w.T).2) := by unfold beginW; rw [hm]; rfl
  rw [e]
  have hl := begTs_len w.Now w.T d
  have hl2 := begTs_ids_le w.Now w.T d
  refine .ite (fun hb => ?_) fun _ => .asrt ⟨rfl, rfl⟩ (.asrt ⟨hm, ⟨Int.le_refl _, by simp⟩, hl, ⟨Int.le_refl _, by simp, by simp only; omega⟩, rfl, rfl⟩ (.ite (fun _ => .yes) fun _ => .of (by simp)))
  rw [hl] at hb
  simp at hb
theorem conRb_valid : ValidCon c93.P 3 (lawCon good2V) := lawCon_of (n := 60) c93_good (by kernel_rfl) fun args ⟨w, d, h1, h2, _⟩ => by
  subst h1
  exact ⟨_, fRb17 w d, rbT_tru h2⟩
end Go.Fx
