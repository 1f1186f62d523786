import Derived.Test.YtpamljjiglncmaaGreatP0
/- The law AdmitMay. -/
namespace Go.Fx
open Go Go.Proofs

def good5S (args : List AV) : Prop := ∃ (s : Fu.Serv) (p : Fu.Spec) (i j k : Int), args = [.agg (encS s), .agg (encSpec p), .int .i64 i, .int .i64 j, .int .i64 k] ∧ smallS s
theorem leave_no {s : Fu.Serv} {id : Int} (hn : (leaveR s id).2 ≠ 0) : (leaveR s id).1 = s := by
  unfold leaveR at hn ⊢
  cases h1 : (leaveE s id != 0) with
  | true => rfl
  | false =>
    cases h2 : freshE s id with
    | true => rw [h1, h2] at hn; exact absurd rfl hn
    | false => rw [h1, h2] at hn; exact absurd rfl hn
def elseJ (s : Fu.Serv) (p : Fu.Spec) : Bool := (joinR s p).2 != 0 && ((joinR s p).1.2 != -1 || !decide ((joinR s p).1.1 = s))
def badJ (s : Fu.Serv) (p : Fu.Spec) : Bool := bif (joinR s p).2 == 0 then (joinR s p).1.2 != s.NextID || (!(joinR s p).1.1.R.On || (((joinR s p).1.1.W.T.length : Int) != s.W.T.length || elseJ s p)) else elseJ s p
def elseV (s : Fu.Serv) (i : Int) : Bool := (leaveR s i).2 != 0 && !decide ((leaveR s i).1 = s)
def elseR (s : Fu.Serv) (i t h : Int) : Bool := bif (rateR s i t h).2 == 0 then !(rateR s i t h).1.R.On || ((rateR s i t h).1.R.New != -1 || elseV s i) else elseV s i
def badR (s : Fu.Serv) (i t h : Int) : Bool := bif (rateR s i t h).2 != 0 then !decide ((rateR s i t h).1 = s) || elseR s i t h else elseR s i t h
def elseM (s : Fu.Serv) : Bool := !(moveV s).2 && decide ((moveV s).1 = s)
def endM (s : Fu.Serv) : Bool := bif (moveV s).2 then bif !(moveV s).1.R.On then s.R.On || elseM s else elseM s else elseM s
theorem badJ_no (s : Fu.Serv) (p : Fu.Spec) : badJ s p = false := by
  unfold badJ elseJ
  by_cases he : (joinR s p).2 = 0
  · obtain ⟨_, _, _, e⟩ := join_ok he
    rw [he, e]
    show (s.NextID != s.NextID || (false || ((s.W.T.length : Int) != s.W.T.length || (false && _)))) = false
    simp
  · rw [show ((joinR s p).2 == 0) = false from beq_eq_false_iff_ne.2 he, join_no he]
    simp
theorem elseV_no (s : Fu.Serv) (i : Int) : elseV s i = false := by
  unfold elseV
  by_cases he : (leaveR s i).2 = 0
  · rw [he]; rfl
  · rw [leave_no he]; simp
theorem badR_no (s : Fu.Serv) (i t h : Int) : badR s i t h = false := by
  unfold badR elseR
  rw [elseV_no]
  by_cases he : (rateR s i t h).2 = 0
  · obtain ⟨_, _, _, _, e⟩ := rate_ok he
    rw [he, e]
    rfl
  · rw [show ((rateR s i t h).2 == 0) = false from beq_eq_false_iff_ne.2 he, show ((rateR s i t h).2 != 0) = true from bne_iff_ne.2 he, rate_no he]
    simp
theorem endM_yes (s : Fu.Serv) : endM s = true := by
  unfold endM elseM moveV
  cases hb : (tryV s).2 with
  | true =>
    rw [(try_safe hb).2.2]
    rfl
  | false => simp
def myT (s : Fu.Serv) (p : Fu.Spec) (i t h : Int) : Tree (AV × List Blk) := .asrt (smallS s) (.asrt ((!nearE s) = false → smallS s) (.ite (!nearE s || (!mayE s || decide (s.W.Now > 137438953472))) (.ret (.blit true, [])) (.asrt (smallS s) (.asrt (smallS s) (.asrt (smallS s) (.asrt (smallS s) (.asrt (smallS (joinR s p).1.1)
  (.asrt ((!mayE (joinR s p).1.1) = false → smallS (rateR s i t h).1) (.asrt ((!mayE (joinR s p).1.1) = false → (!mayE (rateR s i t h).1) = false → smallS (leaveR s i).1) (.asrt ((!mayE (joinR s p).1.1) = false → (!mayE (rateR s i t h).1) = false → (!mayE (leaveR s i).1) = false → smallS (moveV s).1)
    (.ite (!mayE (joinR s p).1.1 || (!mayE (rateR s i t h).1 || (!mayE (leaveR s i).1 || !mayE (moveV s).1))) (.ret (.blit false, [])) (.asrt (((joinR s p).2 == 0) = true → ((joinR s p).1.2 != s.NextID) = false → (!(joinR s p).1.1.R.On) = false → (((joinR s p).1.1.W.T.length : Int) != s.W.T.length) = false → ((joinR s p).2 != 0) = true → ((joinR s p).1.2 != -1) = false → smallS (joinR s p).1.1) (.asrt (((joinR s p).2 == 0) = false → ((joinR s p).2 != 0) = true → ((joinR s p).1.2 != -1) = false → smallS (joinR s p).1.1) (.ite (badJ s p) (.ret (.blit false, [])) (.asrt (((rateR s i t h).2 != 0) = true → smallS (rateR s i t h).1) (.asrt (((rateR s i t h).2 != 0) = true → (!decide ((rateR s i t h).1 = s)) = false → ((rateR s i t h).2 == 0) = true → (!(rateR s i t h).1.R.On) = false → ((rateR s i t h).1.R.New != -1) = false → ((leaveR s i).2 != 0) = true → smallS (leaveR s i).1) (.asrt (((rateR s i t h).2 != 0) = true → (!decide ((rateR s i t h).1 = s)) = false → ((rateR s i t h).2 == 0) = false → ((leaveR s i).2 != 0) = true → smallS (leaveR s i).1) (.asrt (((rateR s i t h).2 != 0) = false → ((rateR s i t h).2 == 0) = true → (!(rateR s i t h).1.R.On) = false → ((rateR s i t h).1.R.New != -1) = false → ((leaveR s i).2 != 0) = true → smallS (leaveR s i).1) (.asrt (((rateR s i t h).2 != 0) = false → ((rateR s i t h).2 == 0) = false → ((leaveR s i).2 != 0) = true → smallS (leaveR s i).1) (.ite (badR s i t h) (.ret (.blit false, []))
      (.asrt ((moveV s).2 = true → (!(moveV s).1.R.On) = true → s.R.On = false → (!(moveV s).2) = true → smallS (moveV s).1) (.asrt ((moveV s).2 = true → (!(moveV s).1.R.On) = false → (!(moveV s).2) = true → smallS (moveV s).1) (.asrt ((moveV s).2 = false → (!(moveV s).2) = true → smallS (moveV s).1) (.ret (.bool (endM s), [])))))))))))))))))))))))))
theorem fLawMy (s : Fu.Serv) (p : Fu.Spec) (i t h : Int) : callC c212 60 8 [.agg (encS s), .agg (encSpec p), .int .i64 i, .int .i64 t, .int .i64 h] = myT s p i t h := by kernel_rfl
theorem myT_tru {s : Fu.Serv} {p : Fu.Spec} {i t h : Int} (hs : smallS s) : Tru (myT s p i t h) := by
  refine .asrt hs (.asrt (fun _ => hs) (.ite (fun _ => .yes) fun hb => ?_))
  simp only [Bool.or_eq_false_iff, Bool.not_eq_false'] at hb
  have hm := hb.2.1
  have m1 := join_may (p := p) hm
  have m2 := rate_may (id := i) (t := t) (h := h) hm
  have m3 := leave_may (id := i) hm
  have m4 := move_may hm
  have s1 := mayE_small m1
  have s2 := mayE_small m2
  have s3 := mayE_small m3
  have s4 := mayE_small m4
  refine .asrt hs (.asrt hs (.asrt hs (.asrt hs (.asrt s1 (.asrt (fun _ => s2) (.asrt (fun _ _ => s3) (.asrt (fun _ _ _ => s4) (.ite (fun hc => ?_) fun _ => .asrt (fun _ _ _ _ _ _ => s1) (.asrt (fun _ _ _ => s1) (.ite (fun hc => ?_) fun _ => .asrt (fun _ => s2) (.asrt (fun _ _ _ _ _ _ => s3)
    (.asrt (fun _ _ _ _ => s3) (.asrt (fun _ _ _ _ _ => s3) (.asrt (fun _ _ _ => s3) (.ite (fun hc => ?_) fun _ => .asrt (fun _ _ _ _ => s4) (.asrt (fun _ _ _ => s4) (.asrt (fun _ _ => s4) (.of (endM_yes s)))))))))))))))))))
  · rw [m1, m2, m3, m4] at hc; cases hc
  · rw [badJ_no] at hc; cases hc
  · rw [badR_no] at hc; cases hc
theorem conMy_valid : ValidCon c212.P 8 (lawCon good5S) := lawCon_of (n := 60) c212_good (by kernel_rfl) fun args ⟨s, p, i, j, k, h1, h2⟩ => by
  subst h1
  exact ⟨_, fLawMy s p i j k, myT_tru h2⟩
end Go.Fx
