/-
  No cell of these rows narrows 'for every input' (looked for: loops, veiled, ifaces, maps, wideKeys, modest, calm, conditions, laid).
  DERIVED. THE GIVEN ROWS OF THIS SEAT. 10 by the template 'for every input the law returns true; each argument reads behind the call as it read before'; 0 by the template 'total and deterministic' (their statements: YtdmlnbfejgdhaaaGreatTotals.lean).
  GIVEN WITH THE SEED: the statements are not yours to turn. If you find one false, say at which input.
  Laid BY PROGRAM, IN A SANDBOX (cutbox-rows.mjs): the forced cells as the released guide's own fill.sh prints them over the translation e54f1f9dc24a131b… (all of the seat's roots in one cut). By AI agents, Wed Nov 11 2026. No macro, syntax, notation, axiom, sorry.
-/
import Derived.Test.YtdmlnbfejgdhaaaGreatChecked
import GoSem.Claim
import GoSem.ClaimJoined
import GoSem.ClaimMapViews
import Derived.JoinedTies
import Derived.KernelRfl
namespace Go.Proofs.YtdmlnbfejgdhaaaGreat
/- THE CELL 'sum', in the pinned program and in every row, IS THE sha256 OF THE DUMP (.gsa) THAT YtdmlnbfejgdhaaaGreatProg.lean LOADS. Nothing in Lean hashes anything: it is a label: what it is worth is what the hold of that sum in a sandbox is worth. -/
noncomputable def Tryz.pinned : Pinned := { name := "ytdmlnbfejgdhaaagreat", sum := "e54f1f9dc24a131b98b990b353513ef3f7b6febb0498b68d178596077f8d8e50", checked := Tryz.checked }
namespace Rows
def none {H : Type} : Left H := { results := [], args := [] }

/-- 'fuseetop.TopAccept': WHATEVER THE INPUT: true; the input reads as it did. -/
def topAcceptSpec : ChangeSpec := { name := "topAccept", fn := fun _ => fun
  | [d1, d2] => { results := [.lit (.bool true)], args := [d1, d2] }
  | _ => none }
def topAcceptRow : OpenClaim := { program := "ytdmlnbfejgdhaaagreat", sum := "e54f1f9dc24a131b98b990b353513ef3f7b6febb0498b68d178596077f8d8e50", func := "fusee/fuseetop.TopAccept", spec := "topAccept", unfollowed := true, recurses := true, apart := false }
def TopAcceptSaid : Prop := topAcceptRow.holds Tryz.pinned (OpenSpec.ofChange topAcceptSpec)

/-- ITS FALSE NEIGHBOUR: 'it returns false'. Refute it at one input. -/
def topAcceptWrong : ChangeSpec := { name := "topAccept", fn := fun _ => fun
  | [d1, d2] => { results := [.lit (.bool false)], args := [d1, d2] }
  | _ => none }
def TopAcceptWrongFalsely : Prop := topAcceptRow.holds Tryz.pinned (OpenSpec.ofChange topAcceptWrong)

/-- 'fuseetop.TopForce': WHATEVER THE INPUT: true; the input reads as it did. -/
def topForceSpec : ChangeSpec := { name := "topForce", fn := fun _ => fun
  | [d1, d2, d3, d4] => { results := [.lit (.bool true)], args := [d1, d2, d3, d4] }
  | _ => none }
def topForceRow : OpenClaim := { program := "ytdmlnbfejgdhaaagreat", sum := "e54f1f9dc24a131b98b990b353513ef3f7b6febb0498b68d178596077f8d8e50", func := "fusee/fuseetop.TopForce", spec := "topForce", unfollowed := true, recurses := true, apart := false }
def TopForceSaid : Prop := topForceRow.holds Tryz.pinned (OpenSpec.ofChange topForceSpec)

/-- ITS FALSE NEIGHBOUR: 'it returns false'. Refute it at one input. -/
def topForceWrong : ChangeSpec := { name := "topForce", fn := fun _ => fun
  | [d1, d2, d3, d4] => { results := [.lit (.bool false)], args := [d1, d2, d3, d4] }
  | _ => none }
def TopForceWrongFalsely : Prop := topForceRow.holds Tryz.pinned (OpenSpec.ofChange topForceWrong)

/-- 'fuseetop.TopFirm': WHATEVER THE INPUT: true; the input reads as it did. -/
def topFirmSpec : ChangeSpec := { name := "topFirm", fn := fun _ => fun
  | [d] => { results := [.lit (.bool true)], args := [d] }
  | _ => none }
def topFirmRow : OpenClaim := { program := "ytdmlnbfejgdhaaagreat", sum := "e54f1f9dc24a131b98b990b353513ef3f7b6febb0498b68d178596077f8d8e50", func := "fusee/fuseetop.TopFirm", spec := "topFirm", unfollowed := true, recurses := true, apart := false }
def TopFirmSaid : Prop := topFirmRow.holds Tryz.pinned (OpenSpec.ofChange topFirmSpec)

/-- ITS FALSE NEIGHBOUR: 'it returns false'. Refute it at one input. -/
def topFirmWrong : ChangeSpec := { name := "topFirm", fn := fun _ => fun
  | [d] => { results := [.lit (.bool false)], args := [d] }
  | _ => none }
def TopFirmWrongFalsely : Prop := topFirmRow.holds Tryz.pinned (OpenSpec.ofChange topFirmWrong)

/-- 'fuseelaw21.ExecSafe': WHATEVER THE INPUT: true; the input reads as it did. -/
def execSafeSpec : ChangeSpec := { name := "execSafe", fn := fun _ => fun
  | [d1, d2] => { results := [.lit (.bool true)], args := [d1, d2] }
  | _ => none }
def execSafeRow : OpenClaim := { program := "ytdmlnbfejgdhaaagreat", sum := "e54f1f9dc24a131b98b990b353513ef3f7b6febb0498b68d178596077f8d8e50", func := "fusee/fuseelaw21.ExecSafe", spec := "execSafe", unfollowed := true, recurses := true, apart := false }
def ExecSafeSaid : Prop := execSafeRow.holds Tryz.pinned (OpenSpec.ofChange execSafeSpec)

/-- ITS FALSE NEIGHBOUR: 'it returns false'. Refute it at one input. -/
def execSafeWrong : ChangeSpec := { name := "execSafe", fn := fun _ => fun
  | [d1, d2] => { results := [.lit (.bool false)], args := [d1, d2] }
  | _ => none }
def ExecSafeWrongFalsely : Prop := execSafeRow.holds Tryz.pinned (OpenSpec.ofChange execSafeWrong)

/-- 'fuseelaw21.ExecBytes': WHATEVER THE INPUT: true; the input reads as it did. -/
def execBytesSpec : ChangeSpec := { name := "execBytes", fn := fun _ => fun
  | [d1, d2] => { results := [.lit (.bool true)], args := [d1, d2] }
  | _ => none }
def execBytesRow : OpenClaim := { program := "ytdmlnbfejgdhaaagreat", sum := "e54f1f9dc24a131b98b990b353513ef3f7b6febb0498b68d178596077f8d8e50", func := "fusee/fuseelaw21.ExecBytes", spec := "execBytes", unfollowed := true, recurses := true, apart := false }
def ExecBytesSaid : Prop := execBytesRow.holds Tryz.pinned (OpenSpec.ofChange execBytesSpec)

/-- ITS FALSE NEIGHBOUR: 'it returns false'. Refute it at one input. -/
def execBytesWrong : ChangeSpec := { name := "execBytes", fn := fun _ => fun
  | [d1, d2] => { results := [.lit (.bool false)], args := [d1, d2] }
  | _ => none }
def ExecBytesWrongFalsely : Prop := execBytesRow.holds Tryz.pinned (OpenSpec.ofChange execBytesWrong)

/-- 'fuseelaw21.ExecClock': WHATEVER THE INPUT: true; the input reads as it did. -/
def execClockSpec : ChangeSpec := { name := "execClock", fn := fun _ => fun
  | [d1, d2] => { results := [.lit (.bool true)], args := [d1, d2] }
  | _ => none }
def execClockRow : OpenClaim := { program := "ytdmlnbfejgdhaaagreat", sum := "e54f1f9dc24a131b98b990b353513ef3f7b6febb0498b68d178596077f8d8e50", func := "fusee/fuseelaw21.ExecClock", spec := "execClock", unfollowed := true, recurses := true, apart := false }
def ExecClockSaid : Prop := execClockRow.holds Tryz.pinned (OpenSpec.ofChange execClockSpec)

/-- ITS FALSE NEIGHBOUR: 'it returns false'. Refute it at one input. -/
def execClockWrong : ChangeSpec := { name := "execClock", fn := fun _ => fun
  | [d1, d2] => { results := [.lit (.bool false)], args := [d1, d2] }
  | _ => none }
def ExecClockWrongFalsely : Prop := execClockRow.holds Tryz.pinned (OpenSpec.ofChange execClockWrong)

/-- 'fuseelaw21.ExecSubmits': WHATEVER THE INPUT: true; the input reads as it did. -/
def execSubmitsSpec : ChangeSpec := { name := "execSubmits", fn := fun _ => fun
  | [d1, d2] => { results := [.lit (.bool true)], args := [d1, d2] }
  | _ => none }
def execSubmitsRow : OpenClaim := { program := "ytdmlnbfejgdhaaagreat", sum := "e54f1f9dc24a131b98b990b353513ef3f7b6febb0498b68d178596077f8d8e50", func := "fusee/fuseelaw21.ExecSubmits", spec := "execSubmits", unfollowed := true, recurses := true, apart := false }
def ExecSubmitsSaid : Prop := execSubmitsRow.holds Tryz.pinned (OpenSpec.ofChange execSubmitsSpec)

/-- ITS FALSE NEIGHBOUR: 'it returns false'. Refute it at one input. -/
def execSubmitsWrong : ChangeSpec := { name := "execSubmits", fn := fun _ => fun
  | [d1, d2] => { results := [.lit (.bool false)], args := [d1, d2] }
  | _ => none }
def ExecSubmitsWrongFalsely : Prop := execSubmitsRow.holds Tryz.pinned (OpenSpec.ofChange execSubmitsWrong)

/-- 'fuseelaw21.ExecTick': WHATEVER THE INPUT: true; the input reads as it did. -/
def execTickSpec : ChangeSpec := { name := "execTick", fn := fun _ => fun
  | [d1, d2] => { results := [.lit (.bool true)], args := [d1, d2] }
  | _ => none }
def execTickRow : OpenClaim := { program := "ytdmlnbfejgdhaaagreat", sum := "e54f1f9dc24a131b98b990b353513ef3f7b6febb0498b68d178596077f8d8e50", func := "fusee/fuseelaw21.ExecTick", spec := "execTick", unfollowed := true, recurses := true, apart := false }
def ExecTickSaid : Prop := execTickRow.holds Tryz.pinned (OpenSpec.ofChange execTickSpec)

/-- ITS FALSE NEIGHBOUR: 'it returns false'. Refute it at one input. -/
def execTickWrong : ChangeSpec := { name := "execTick", fn := fun _ => fun
  | [d1, d2] => { results := [.lit (.bool false)], args := [d1, d2] }
  | _ => none }
def ExecTickWrongFalsely : Prop := execTickRow.holds Tryz.pinned (OpenSpec.ofChange execTickWrong)

/-- 'fuseelaw21.ExecIDs': WHATEVER THE INPUT: true; the input reads as it did. -/
def execIDsSpec : ChangeSpec := { name := "execIDs", fn := fun _ => fun
  | [d] => { results := [.lit (.bool true)], args := [d] }
  | _ => none }
def execIDsRow : OpenClaim := { program := "ytdmlnbfejgdhaaagreat", sum := "e54f1f9dc24a131b98b990b353513ef3f7b6febb0498b68d178596077f8d8e50", func := "fusee/fuseelaw21.ExecIDs", spec := "execIDs", unfollowed := true, recurses := true, apart := false }
def ExecIDsSaid : Prop := execIDsRow.holds Tryz.pinned (OpenSpec.ofChange execIDsSpec)

/-- ITS FALSE NEIGHBOUR: 'it returns false'. Refute it at one input. -/
def execIDsWrong : ChangeSpec := { name := "execIDs", fn := fun _ => fun
  | [d] => { results := [.lit (.bool false)], args := [d] }
  | _ => none }
def ExecIDsWrongFalsely : Prop := execIDsRow.holds Tryz.pinned (OpenSpec.ofChange execIDsWrong)

/-- 'fuseelaw21.ExecFirm': WHATEVER THE INPUT: true; the input reads as it did. -/
def execFirmSpec : ChangeSpec := { name := "execFirm", fn := fun _ => fun
  | [d] => { results := [.lit (.bool true)], args := [d] }
  | _ => none }
def execFirmRow : OpenClaim := { program := "ytdmlnbfejgdhaaagreat", sum := "e54f1f9dc24a131b98b990b353513ef3f7b6febb0498b68d178596077f8d8e50", func := "fusee/fuseelaw21.ExecFirm", spec := "execFirm", unfollowed := true, recurses := true, apart := false }
def ExecFirmSaid : Prop := execFirmRow.holds Tryz.pinned (OpenSpec.ofChange execFirmSpec)

/-- ITS FALSE NEIGHBOUR: 'it returns false'. Refute it at one input. -/
def execFirmWrong : ChangeSpec := { name := "execFirm", fn := fun _ => fun
  | [d] => { results := [.lit (.bool false)], args := [d] }
  | _ => none }
def ExecFirmWrongFalsely : Prop := execFirmRow.holds Tryz.pinned (OpenSpec.ofChange execFirmWrong)

/- THE SECOND FORM. 'bulk': how many values and letters a reading holds, each counted each time it is reached (what is shared counts as often as it is met; a slice's spare places count too). A statement '..UptoSaid' is the law's where the arguments, and the package variables that the reading takes, are together of bulk at most 1048576: NARROWER than '..Said'. Prove '..Said' where nothing that the law and all that it calls make is longer than what came in: it says more and counts as full. Else prove '..UptoSaid'. A law counts once. -/
mutual
def uptoBulk {H : Type} : DataW H → Nat
  | .lit (.string bytes) => bytes.length + 1
  | .lit _ => 1
  | .nil => 1
  | .ptr d => uptoBulk d + 1
  | .slice elems spare => uptoBulkAll elems + uptoBulkAll spare + 1
  | .agg parts => uptoBulkAll parts + 1
  | .iface _ d => uptoBulk d + 1
  | .map entries => uptoBulkEntries entries + 1
  | .held _ => 1
def uptoBulkAll {H : Type} : List (DataW H) → Nat
  | [] => 0
  | d :: r => uptoBulk d + uptoBulkAll r
def uptoBulkEntries {H : Type} : List (Lit × DataW H) → Nat
  | [] => 0
  | x :: r => uptoBulkEntry x + uptoBulkEntries r
def uptoBulkEntry {H : Type} : Lit × DataW H → Nat
  | (.string bytes, d) => bytes.length + uptoBulk d + 1
  | (_, d) => uptoBulk d + 1
 end
def uptoSmall : (H : Type) → List (DataW H) → Bool := fun _ ds => decide (uptoBulkAll ds ≤ 1048576)
def OpenSpec.upto (s : _root_.Go.ChangeSpec) : _root_.Go.OpenSpec := { _root_.Go.OpenSpec.ofChange s with cond := some uptoSmall }

/-- 'fuseetop.TopAccept', WHERE WHAT IT READS IS OF BULK AT MOST 1048576: true; the input reads as it did. -/
def topAcceptUptoRow : OpenClaim := { program := "ytdmlnbfejgdhaaagreat", sum := "e54f1f9dc24a131b98b990b353513ef3f7b6febb0498b68d178596077f8d8e50", func := "fusee/fuseetop.TopAccept", spec := "topAccept", unfollowed := true, recurses := true, apart := false, narrowed := true }
def TopAcceptUptoSaid : Prop := topAcceptUptoRow.holds Tryz.pinned (OpenSpec.upto topAcceptSpec)

/-- 'fuseetop.TopForce', WHERE WHAT IT READS IS OF BULK AT MOST 1048576: true; the input reads as it did. -/
def topForceUptoRow : OpenClaim := { program := "ytdmlnbfejgdhaaagreat", sum := "e54f1f9dc24a131b98b990b353513ef3f7b6febb0498b68d178596077f8d8e50", func := "fusee/fuseetop.TopForce", spec := "topForce", unfollowed := true, recurses := true, apart := false, narrowed := true }
def TopForceUptoSaid : Prop := topForceUptoRow.holds Tryz.pinned (OpenSpec.upto topForceSpec)

/-- 'fuseetop.TopFirm', WHERE WHAT IT READS IS OF BULK AT MOST 1048576: true; the input reads as it did. -/
def topFirmUptoRow : OpenClaim := { program := "ytdmlnbfejgdhaaagreat", sum := "e54f1f9dc24a131b98b990b353513ef3f7b6febb0498b68d178596077f8d8e50", func := "fusee/fuseetop.TopFirm", spec := "topFirm", unfollowed := true, recurses := true, apart := false, narrowed := true }
def TopFirmUptoSaid : Prop := topFirmUptoRow.holds Tryz.pinned (OpenSpec.upto topFirmSpec)

/-- 'fuseelaw21.ExecSafe', WHERE WHAT IT READS IS OF BULK AT MOST 1048576: true; the input reads as it did. -/
def execSafeUptoRow : OpenClaim := { program := "ytdmlnbfejgdhaaagreat", sum := "e54f1f9dc24a131b98b990b353513ef3f7b6febb0498b68d178596077f8d8e50", func := "fusee/fuseelaw21.ExecSafe", spec := "execSafe", unfollowed := true, recurses := true, apart := false, narrowed := true }
def ExecSafeUptoSaid : Prop := execSafeUptoRow.holds Tryz.pinned (OpenSpec.upto execSafeSpec)

/-- 'fuseelaw21.ExecBytes', WHERE WHAT IT READS IS OF BULK AT MOST 1048576: true; the input reads as it did. -/
def execBytesUptoRow : OpenClaim := { program := "ytdmlnbfejgdhaaagreat", sum := "e54f1f9dc24a131b98b990b353513ef3f7b6febb0498b68d178596077f8d8e50", func := "fusee/fuseelaw21.ExecBytes", spec := "execBytes", unfollowed := true, recurses := true, apart := false, narrowed := true }
def ExecBytesUptoSaid : Prop := execBytesUptoRow.holds Tryz.pinned (OpenSpec.upto execBytesSpec)

/-- 'fuseelaw21.ExecClock', WHERE WHAT IT READS IS OF BULK AT MOST 1048576: true; the input reads as it did. -/
def execClockUptoRow : OpenClaim := { program := "ytdmlnbfejgdhaaagreat", sum := "e54f1f9dc24a131b98b990b353513ef3f7b6febb0498b68d178596077f8d8e50", func := "fusee/fuseelaw21.ExecClock", spec := "execClock", unfollowed := true, recurses := true, apart := false, narrowed := true }
def ExecClockUptoSaid : Prop := execClockUptoRow.holds Tryz.pinned (OpenSpec.upto execClockSpec)

/-- 'fuseelaw21.ExecSubmits', WHERE WHAT IT READS IS OF BULK AT MOST 1048576: true; the input reads as it did. -/
def execSubmitsUptoRow : OpenClaim := { program := "ytdmlnbfejgdhaaagreat", sum := "e54f1f9dc24a131b98b990b353513ef3f7b6febb0498b68d178596077f8d8e50", func := "fusee/fuseelaw21.ExecSubmits", spec := "execSubmits", unfollowed := true, recurses := true, apart := false, narrowed := true }
def ExecSubmitsUptoSaid : Prop := execSubmitsUptoRow.holds Tryz.pinned (OpenSpec.upto execSubmitsSpec)

/-- 'fuseelaw21.ExecTick', WHERE WHAT IT READS IS OF BULK AT MOST 1048576: true; the input reads as it did. -/
def execTickUptoRow : OpenClaim := { program := "ytdmlnbfejgdhaaagreat", sum := "e54f1f9dc24a131b98b990b353513ef3f7b6febb0498b68d178596077f8d8e50", func := "fusee/fuseelaw21.ExecTick", spec := "execTick", unfollowed := true, recurses := true, apart := false, narrowed := true }
def ExecTickUptoSaid : Prop := execTickUptoRow.holds Tryz.pinned (OpenSpec.upto execTickSpec)

/-- 'fuseelaw21.ExecIDs', WHERE WHAT IT READS IS OF BULK AT MOST 1048576: true; the input reads as it did. -/
def execIDsUptoRow : OpenClaim := { program := "ytdmlnbfejgdhaaagreat", sum := "e54f1f9dc24a131b98b990b353513ef3f7b6febb0498b68d178596077f8d8e50", func := "fusee/fuseelaw21.ExecIDs", spec := "execIDs", unfollowed := true, recurses := true, apart := false, narrowed := true }
def ExecIDsUptoSaid : Prop := execIDsUptoRow.holds Tryz.pinned (OpenSpec.upto execIDsSpec)

/-- 'fuseelaw21.ExecFirm', WHERE WHAT IT READS IS OF BULK AT MOST 1048576: true; the input reads as it did. -/
def execFirmUptoRow : OpenClaim := { program := "ytdmlnbfejgdhaaagreat", sum := "e54f1f9dc24a131b98b990b353513ef3f7b6febb0498b68d178596077f8d8e50", func := "fusee/fuseelaw21.ExecFirm", spec := "execFirm", unfollowed := true, recurses := true, apart := false, narrowed := true }
def ExecFirmUptoSaid : Prop := execFirmUptoRow.holds Tryz.pinned (OpenSpec.upto execFirmSpec)

end Rows
end Go.Proofs.YtdmlnbfejgdhaaaGreat
