import Derived.Test.YtpamljjiglncmaaGreatP0
/- The law AdmitBusy. -/
namespace Go.Fx
open Go Go.Proofs

theorem ready_on {s : Fu.Serv} (h : mayE s = true) (ho : s.R.On = true) : readyE s = 4 := by
  unfold readyE
  rw [h, ho]
  rfl
theorem join_busy {s : Fu.Serv} (h : mayE s = true) (ho : s.R.On = true) (p : Fu.Spec) : (joinR s p).2 = 4 := by
  have e : joinW s = 4 := by unfold joinW first2; rw [ready_on h ho]; rfl
  unfold joinR
  rw [e]
  rfl
theorem rate_busy {s : Fu.Serv} (h : mayE s = true) (ho : s.R.On = true) (i t k : Int) : (rateR s i t k).2 = 4 := by
  have e : rateE s i = 4 := by unfold rateE first2; rw [ready_on h ho]; rfl
  unfold rateR
  rw [e]
  rfl
theorem join_full {s : Fu.Serv} (h : mayE s = true) (ho : s.R.On = false) (hl : s.W.T.length < 4) (p : Fu.Spec) : (s.NextID = 65536 → (joinR s p).2 = 3) ∧ (s.NextID ≠ 65536 → (joinR s p).2 = (targetV (specsJ s p)).2) := by
  have hr : readyE s = 0 := by unfold readyE; rw [h, ho]; rfl
  have hf : fullE s = whenE (s.NextID == 65536) 3 := by unfold fullE; rw [decide_eq_false (show ¬ (s.W.T.length : Int) ≥ 4 by omega)]; rfl
  have e : joinW s = fullE s := by unfold joinW first2; rw [hr]; rfl
  unfold joinR
  rw [e, hf]
  constructor
  · intro h1
    rw [show (s.NextID == 65536) = true from beq_iff_eq.2 h1]
    rfl
  · intro h1
    rw [show (s.NextID == 65536) = false from beq_eq_false_iff_ne.2 h1]
    show (bif (targetV (specsJ s p)).2 != 0 then ((s, -1), (targetV (specsJ s p)).2) else ((putV { s with NextID := s.NextID + 1 } s.NextID (targetV (specsJ s p)).1, s.NextID), 0)).2 = _
    cases hb : ((targetV (specsJ s p)).2 != 0) with
    | true => rfl
    | false => exact (bne_eq_false_iff_eq.1 hb).symm
theorem leave_fresh {s : Fu.Serv} {id : Int} (h : mayE s = true) (hf : freshE s id = true) : leaveR s id = ({ s with R := clearR }, 0) := by
  have e : leaveE s id = 0 := by
    unfold leaveE first2
    rw [h, hf, Bool.not_true, Bool.and_false]
    rfl
  unfold leaveR
  rw [e, hf]
  rfl
def good4S (args : List AV) : Prop := ∃ (s : Fu.Serv) (p q : Fu.Spec) (i : Int), args = [.agg (encS s), .agg (encSpec p), .agg (encSpec q), .int .i64 i] ∧ smallS s
def yBu (s : Fu.Serv) (p : Fu.Spec) : Fu.Serv × Int := leaveR (joinR s p).1.1 (joinR s p).1.2
def zBu (s : Fu.Serv) (p : Fu.Spec) : (Fu.Serv × Int) × Int := joinR (yBu s p).1 p
def lastBu (s : Fu.Serv) (p : Fu.Spec) : Bool := (zBu s p).2 == 0 && ((zBu s p).1.2 == IntKind.i64.wrap ((joinR s p).1.2 + 1) && (zBu s p).1.1.R.By == (joinR s p).1.1.R.By)
def buT (s : Fu.Serv) (p q : Fu.Spec) (i : Int) : Tree (AV × List Blk) := .asrt (smallS s) (.asrt ((!nearE s) = false → smallS s) (.ite (!nearE s || (!mayE s || decide (s.W.Now > 137438953472))) (.ret (.blit true, [])) (.asrt (smallS s) (.ite ((joinR s p).2 != 0) (.ret (.blit true, []))
  (.asrt (smallS (joinR s p).1.1) (.asrt (smallS (joinR s p).1.1) (.asrt (smallS (joinR s p).1.1) (.asrt (smallS (yBu s p).1) (.ite ((joinR (joinR s p).1.1 q).2 != 4 || ((rateR (joinR s p).1.1 i 5 5).2 != 4 || ((yBu s p).2 != 0 || ((yBu s p).1.R.On || ((yBu s p).1.W.T.length : Int) != s.W.T.length)))) (.ret (.blit false, []))
    (.ret (.bool (bif (yBu s p).1.NextID == 65536 then (zBu s p).2 == 3 || lastBu s p else lastBu s p), [])))))))))))
theorem fLawBu (s : Fu.Serv) (p q : Fu.Spec) (i : Int) : callC c212 60 7 [.agg (encS s), .agg (encSpec p), .agg (encSpec q), .int .i64 i] = buT s p q i := by kernel_rfl
theorem buT_tru {s : Fu.Serv} {p q : Fu.Spec} {i : Int} (h : smallS s) : Tru (buT s p q i) := by
  refine .asrt h (.asrt (fun _ => h) (.ite (fun _ => .yes) fun hb => .asrt h (.ite (fun _ => .yes) fun hj => ?_)))
  simp only [Bool.or_eq_false_iff, Bool.not_eq_false'] at hb
  have hm := hb.2.1
  have hz : (joinR s p).2 = 0 := bne_eq_false_iff_eq.1 hj
  obtain ⟨⟨_, hoff⟩, ⟨hl, hn⟩, ht, e⟩ := join_ok hz
  have hx := join_may (p := p) hm
  have hxs := mayE_small hx
  obtain ⟨hT, hA, hasc⟩ := newP_T hm
  obtain ⟨r1, r2, r3⟩ := mayE_safe hm
  have hon : (joinR s p).1.1.R.On = true := by rw [e]; rfl
  have hf : freshE (joinR s p).1.1 (joinR s p).1.2 = true := by
    rw [e]
    unfold freshE
    show (true && (s.NextID == s.NextID && s.NextID != -1)) = true
    rw [beq_self_eq_true, show (s.NextID != -1) = true from bne_iff_ne.2 (by omega)]
    rfl
  have ey : yBu s p = ({ s with R := clearR, NextID := s.NextID + 1 }, 0) := by
    unfold yBu
    rw [leave_fresh hx hf, e]
    rfl
  have hym : mayE (yBu s p).1 = true := by
    unfold yBu
    exact leave_may hx
  refine .asrt hxs (.asrt hxs (.asrt hxs (.asrt (mayE_small hym) (.ite (fun hc => ?_) fun _ => .of ?_))))
  · rw [join_busy hx hon, rate_busy hx hon, ey] at hc
    simp [clearR] at hc
  · have hyf := join_full (s := (yBu s p).1) hym (by rw [ey]; rfl) (by rw [ey]; exact hl) p
    have h3 : (yBu s p).1.NextID = s.NextID + 1 := by rw [ey]
    have key : (yBu s p).1.NextID ≠ 65536 → lastBu s p = true := by
      intro hne
      have h4 : (zBu s p).2 = 0 := by
        unfold zBu
        rw [hyf.2 hne]
        have : specsJ (yBu s p).1 p = specsJ s p := by rw [ey]; rfl
        rw [this]
        exact ht
      obtain ⟨_, _, _, e2⟩ := join_ok (s := (yBu s p).1) (p := p) h4
      have e2 : (zBu s p).1 = (putV { (yBu s p).1 with NextID := (yBu s p).1.NextID + 1 } (yBu s p).1.NextID (targetV (specsJ (yBu s p).1 p)).1, (yBu s p).1.NextID) := e2
      unfold lastBu
      rw [h4, e2, e, h3, wrap_fits (n := s.NextID + 1) (by omega) (by omega)]
      show ((0 : Int) == 0 && (s.NextID + 1 == s.NextID + 1 && byV _ == byV _)) = true
      have e3 : ∀ a b : Fu.Serv, a.W = b.W → byV a = byV b := fun a b h => by unfold byV leftV; rw [h]
      rw [e3 { (yBu s p).1 with NextID := s.NextID + 1 + 1 } { s with NextID := s.NextID + 1 } (by rw [ey])]
      simp
    cases hc : ((yBu s p).1.NextID == 65536) with
    | true =>
      have : (zBu s p).2 = 3 := hyf.1 (eq_of_beq hc)
      rw [this]
      rfl
    | false => exact key (beq_eq_false_iff_ne.1 hc)
theorem conBu_valid : ValidCon c212.P 7 (lawCon good4S) := lawCon_of (n := 60) c212_good (by kernel_rfl) fun args ⟨s, p, q, i, h1, h2⟩ => by
  subst h1
  exact ⟨_, fLawBu s p q i, buT_tru h2⟩
end Go.Fx
