import Derived.Test.YtgefkgmfbmdooaaGreatC6
namespace Go.Fx
open Go
theorem mayK_iff {t:Fu.Task} {now:Int}:mayK t now = true↔(0≤t.ID∧t.ID≤549755813888)∧(1≤t.P∧t.P≤48)∧ringOK t.H = true∧((0≤now∧now≤549755813888)∧LiveOK (liveK t) now)∧mayJ t.S t.J = true∧t.H.N = minI (overK t) 60:=by
  unfold mayK
  have e:mayL [liveK t] now = true↔(0≤now∧now≤549755813888)∧LiveOK (liveK t) now:=by
    rw [mayL_iff]; simp
  simp only [Bool.and_eq_true,Bool.not_eq_true',Bool.or_eq_false_iff,decide_eq_false_iff_not,Bool.not_eq_false',e,beq_iff_eq]
  constructor
  · rintro ⟨⟨h1,h2,h3,h4,h5⟩,h6,h7,h8⟩
    exact ⟨⟨by omega,by omega⟩,⟨by omega,by omega⟩,h5,h6,h7,h8⟩
  · rintro ⟨⟨h1,h2⟩,⟨h3,h4⟩,h5,h6,h7,h8⟩
    exact ⟨⟨by omega,by omega,by omega,by omega,h5⟩,h6,h7,h8⟩
instance (j:Fu.Job):Decidable (smallC j):=by unfold smallC; infer_instance
end Go.Fx
