/- Plain laws: tasks as they are looked on. -/
import Derived.Test.YtccfojgceohciaaPlB
namespace Go.Fx
open Go

/-- Is a job of the first band? -/
def mustJ (j : Fu.Job) : Bool := j.On && (j.Mand && decide (worst j > 0))
def LiveOK (x : Fu.Live) (now : Int) : Prop :=
  perOK x.S x.P = true ∧ (now ≤ x.At ∧ x.At ≤ now + 48) ∧ (0 ≤ x.N ∧ x.N ≤ 549755813888) ∧ JobOK x.S x.J ∧ (x.J.On = false ∨ (x.J.Rel < now ∧ x.J.Due = x.At ∧ x.N = x.J.J + 1))
instance (x : Fu.Live) (now : Int) : Decidable (LiveOK x now) := by unfold LiveOK; infer_instance
def mayL1 (x : Fu.Live) (now : Int) : Bool := decide (LiveOK x now)
def mayL (l : List Fu.Live) (now : Int) : Bool := decide (l.length ≤ 4) && ((decide (0 ≤ now) && decide (now ≤ 549755813888)) && l.all fun x => mayL1 x now)
theorem mayL_iff {l : List Fu.Live} {now : Int} : mayL l now = true ↔ l.length ≤ 4 ∧ (0 ≤ now ∧ now ≤ 549755813888) ∧ ∀ x ∈ l, LiveOK x now := by
  simp [mayL, mayL1]
/-- Has a job begin, where its time has come. -/
def beginL (now : Int) (x : Fu.Live) : Fu.Live := bif decide (x.At ≤ now) then { x with J := newJ x.S x.N now (now + x.P) x.S.C, At := now + x.P, N := x.N + 1 } else x
def nowOK (now : Int) : Prop := -4611686018427387904 ≤ now ∧ now ≤ 4611686018427387904
/-- Numbers that are not too far from 0. -/
def Near1 (x : Fu.Live) : Prop := smallC' x.J ∧ (-10000000 ≤ x.P ∧ x.P ≤ 10000000) ∧ (-4398046511104 ≤ x.At ∧ x.At ≤ 4398046511104) ∧ (-4398046511104 ≤ x.N ∧ x.N ≤ 4398046511104)
where smallC' (j : Fu.Job) : Prop := -1000000 ≤ j.C ∧ j.C ≤ 1000000 ∧ -1000000 ≤ j.Ran ∧ j.Ran ≤ 1000000

end Go.Fx
