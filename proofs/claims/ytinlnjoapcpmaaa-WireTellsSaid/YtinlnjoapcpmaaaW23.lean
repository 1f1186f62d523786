/- The wire seat's laws: the stage's theorem. -/
import Derived.Test.YtinlnjoapcpmaaaW22
namespace Go.Fx
open Go Go.Proofs

def sumB (o p : Fu.Op) (b : List Int) : Bool := decide (putO o = putO o) && (mayOp o == mayOp o && (decide (getO b = getO b) && (asks b == asks b && (mayOp o == mayOp o && decide (o = p) == decide (o = p)))))
def sumA (a c : Int) (b : List Int) : Bool := decide (answerO a c = answerO a c) && (mayReply a c == mayReply a c && (aE b == aE b && aN b == aN b && isA b == isA b))
theorem f6 (o p : Fu.Op) (b : List Int) (a c : Int) : callC w43 100 6 [opAV o, opAV p, .view (.int .u8) b, .agg [.int .i64 a, .int .i64 c]] =
  .ite (decide ((b.length : Int) > 100) || (decide ((o.D.length : Int) > 100) || decide ((p.D.length : Int) > 100))) (.ret (.blit true, []))
   (.asrt ((o.D.length : Int) < 9223372036854775807) (.asrt ((o.D.length : Int) < 9223372036854775807) (.asrt (bytesOK b ∧ (b.length : Int) < 17592186044416) (.asrt (bytesOK b) (.asrt (bytesOK b)
    (.asrt (((putO o).length : Int) < 9223372036854775807)
    (.asrt (decide (putO o = putO o) = true → (mayOp o == mayOp o) = true → ((getO b).D.length : Int) < 9223372036854775807)
    (.asrt (decide (putO o = putO o) = true → (mayOp o == mayOp o) = true → decide (getO b = getO b) = true → (asks b == asks b) = true → (o.D.length : Int) < 9223372036854775807)
    (.asrt (decide (putO o = putO o) = true → (mayOp o == mayOp o) = true → decide (getO b = getO b) = true → (asks b == asks b) = true → small63 o)
    (.asrt (decide (putO o = putO o) = true → (mayOp o == mayOp o) = true → decide (getO b = getO b) = true → (asks b == asks b) = true → (mayOp o == mayOp o) = true → (o.D.length : Int) < 9223372036854775807)
    (.asrt (decide (putO o = putO o) = true → (mayOp o == mayOp o) = true → decide (getO b = getO b) = true → (asks b == asks b) = true → (mayOp o == mayOp o) = true → (o.D.length : Int) < 9223372036854775807)
    (.asrt (sumB o p b = true → ((answerO a c).length : Int) < 9223372036854775807) (.ret (.bool (sumB o p b && sumA a c b), [])))))))))))))) := by kernel_rfl
def good6 (args : List AV) : Prop := ∃ (o p : Fu.Op) (b : List Int) (a c : Int), args = [opAV o, opAV p, .view (.int .u8) b, .agg [.int .i64 a, .int .i64 c]] ∧ bytesOK b ∧ (o.D.length : Int) < 17592186044416
theorem con6_valid : ValidCon w43.P 6 (lawCon good6) := lawCon_of (n := 100) w43_good (by kernel_rfl) fun args ⟨o, p, b, a, c, h1, h2, h3⟩ => by
  subst h1
  refine ⟨_, f6 o p b a c, .ite (fun _ => .yes) fun hb => ?_⟩
  have hbl : (b.length : Int) < 17592186044416 := by
    simp only [Bool.or_eq_false_iff, decide_eq_false_iff_not] at hb
    omega
  have hD : ((getO b).D.length : Int) < 9223372036854775807 := by
    unfold getO
    split
    · have := cand_D b; omega
    · simp [zeroOp]
  have h4 := putO_small o
  have h5 : ((answerO a c).length : Int) ≤ 7 := by unfold answerO; split <;> simp [answerL]
  refine .asrt (by omega) (.asrt (by omega) (.asrt ⟨h2, hbl⟩ (.asrt h2 (.asrt h2 (.asrt (by omega) (.asrt (fun _ _ => hD) (.asrt (fun _ _ _ _ => by omega) (.asrt (fun _ _ _ _ => by unfold small63; omega) (.asrt (fun _ _ _ _ _ => by omega) (.asrt (fun _ _ _ _ _ => by omega) (.asrt (fun _ => by omega) (.of ?_))))))))))))
  simp [sumB, sumA]

end Go.Fx
