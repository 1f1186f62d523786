/-
  No cell of these rows narrows 'for every input' (looked for: loops, veiled, ifaces, maps, wideKeys, modest, calm, conditions, laid).
  DERIVED. THE GIVEN ROWS OF THIS SEAT. 6 by the template 'for every input the law returns true; each argument reads behind the call as it read before'; 0 by the template 'total and deterministic' (their statements: YtneflbpekennkaaGreatTotals.lean).
  GIVEN WITH THE SEED: the statements are not yours to turn. If you find one false, say at which input.
  Laid BY PROGRAM, IN A SANDBOX (cutbox-rows.mjs): the forced cells as the released guide's own fill.sh prints them over the translation 4f507fe840741b5d… (all of the seat's roots in one cut). By AI agents, Wed Nov 11 2026. No macro, syntax, notation, axiom, sorry.
-/
import Derived.Test.YtneflbpekennkaaGreatChecked
import GoSem.Claim
import GoSem.ClaimJoined
import GoSem.ClaimMapViews
import Derived.JoinedTies
import Derived.KernelRfl
namespace Go.Proofs.YtneflbpekennkaaGreat
/- THE CELL 'sum', in the pinned program and in every row, IS THE sha256 OF THE DUMP (.gsa) THAT YtneflbpekennkaaGreatProg.lean LOADS. Nothing in Lean hashes anything: it is a label: what it is worth is what the hold of that sum in a sandbox is worth. -/
noncomputable def Tryz.pinned : Pinned := { name := "ytneflbpekennkaagreat", sum := "4f507fe840741b5d0801eecf30f520ee1fe7c8bde0d3723f5e77375408b04dcf", checked := Tryz.checked }
namespace Rows
def none {H : Type} : Left H := { results := [], args := [] }

/-- 'fuseelaw19.RunAlone': WHATEVER THE INPUT: true; the input reads as it did. -/
def runAloneSpec : ChangeSpec := { name := "runAlone", fn := fun _ => fun
  | [d] => { results := [.lit (.bool true)], args := [d] }
  | _ => none }
def runAloneRow : OpenClaim := { program := "ytneflbpekennkaagreat", sum := "4f507fe840741b5d0801eecf30f520ee1fe7c8bde0d3723f5e77375408b04dcf", func := "fusee/fuseelaw19.RunAlone", spec := "runAlone", unfollowed := true, recurses := true, apart := false }
def RunAloneSaid : Prop := runAloneRow.holds Tryz.pinned (OpenSpec.ofChange runAloneSpec)

/-- ITS FALSE NEIGHBOUR: 'it returns false'. Refute it at one input. -/
def runAloneWrong : ChangeSpec := { name := "runAlone", fn := fun _ => fun
  | [d] => { results := [.lit (.bool false)], args := [d] }
  | _ => none }
def RunAloneWrongFalsely : Prop := runAloneRow.holds Tryz.pinned (OpenSpec.ofChange runAloneWrong)

/-- 'fuseelaw19.RunOne': WHATEVER THE INPUT: true; the input reads as it did. -/
def runOneSpec : ChangeSpec := { name := "runOne", fn := fun _ => fun
  | [d1, d2] => { results := [.lit (.bool true)], args := [d1, d2] }
  | _ => none }
def runOneRow : OpenClaim := { program := "ytneflbpekennkaagreat", sum := "4f507fe840741b5d0801eecf30f520ee1fe7c8bde0d3723f5e77375408b04dcf", func := "fusee/fuseelaw19.RunOne", spec := "runOne", unfollowed := true, recurses := true, apart := false }
def RunOneSaid : Prop := runOneRow.holds Tryz.pinned (OpenSpec.ofChange runOneSpec)

/-- ITS FALSE NEIGHBOUR: 'it returns false'. Refute it at one input. -/
def runOneWrong : ChangeSpec := { name := "runOne", fn := fun _ => fun
  | [d1, d2] => { results := [.lit (.bool false)], args := [d1, d2] }
  | _ => none }
def RunOneWrongFalsely : Prop := runOneRow.holds Tryz.pinned (OpenSpec.ofChange runOneWrong)

/-- 'fuseelaw19.RunGone': WHATEVER THE INPUT: true; the input reads as it did. -/
def runGoneSpec : ChangeSpec := { name := "runGone", fn := fun _ => fun
  | [d1, d2] => { results := [.lit (.bool true)], args := [d1, d2] }
  | _ => none }
def runGoneRow : OpenClaim := { program := "ytneflbpekennkaagreat", sum := "4f507fe840741b5d0801eecf30f520ee1fe7c8bde0d3723f5e77375408b04dcf", func := "fusee/fuseelaw19.RunGone", spec := "runGone", unfollowed := true, recurses := true, apart := false }
def RunGoneSaid : Prop := runGoneRow.holds Tryz.pinned (OpenSpec.ofChange runGoneSpec)

/-- ITS FALSE NEIGHBOUR: 'it returns false'. Refute it at one input. -/
def runGoneWrong : ChangeSpec := { name := "runGone", fn := fun _ => fun
  | [d1, d2] => { results := [.lit (.bool false)], args := [d1, d2] }
  | _ => none }
def RunGoneWrongFalsely : Prop := runGoneRow.holds Tryz.pinned (OpenSpec.ofChange runGoneWrong)

/-- 'fuseelaw19.RunTwice': WHATEVER THE INPUT: true; the input reads as it did. -/
def runTwiceSpec : ChangeSpec := { name := "runTwice", fn := fun _ => fun
  | [d1, d2, d3] => { results := [.lit (.bool true)], args := [d1, d2, d3] }
  | _ => none }
def runTwiceRow : OpenClaim := { program := "ytneflbpekennkaagreat", sum := "4f507fe840741b5d0801eecf30f520ee1fe7c8bde0d3723f5e77375408b04dcf", func := "fusee/fuseelaw19.RunTwice", spec := "runTwice", unfollowed := true, recurses := true, apart := false }
def RunTwiceSaid : Prop := runTwiceRow.holds Tryz.pinned (OpenSpec.ofChange runTwiceSpec)

/-- ITS FALSE NEIGHBOUR: 'it returns false'. Refute it at one input. -/
def runTwiceWrong : ChangeSpec := { name := "runTwice", fn := fun _ => fun
  | [d1, d2, d3] => { results := [.lit (.bool false)], args := [d1, d2, d3] }
  | _ => none }
def RunTwiceWrongFalsely : Prop := runTwiceRow.holds Tryz.pinned (OpenSpec.ofChange runTwiceWrong)

/-- 'fuseelaw19.RunSafe': WHATEVER THE INPUT: true; the input reads as it did. -/
def runSafeSpec : ChangeSpec := { name := "runSafe", fn := fun _ => fun
  | [d1, d2, d3] => { results := [.lit (.bool true)], args := [d1, d2, d3] }
  | _ => none }
def runSafeRow : OpenClaim := { program := "ytneflbpekennkaagreat", sum := "4f507fe840741b5d0801eecf30f520ee1fe7c8bde0d3723f5e77375408b04dcf", func := "fusee/fuseelaw19.RunSafe", spec := "runSafe", unfollowed := true, recurses := true, apart := false }
def RunSafeSaid : Prop := runSafeRow.holds Tryz.pinned (OpenSpec.ofChange runSafeSpec)

/-- ITS FALSE NEIGHBOUR: 'it returns false'. Refute it at one input. -/
def runSafeWrong : ChangeSpec := { name := "runSafe", fn := fun _ => fun
  | [d1, d2, d3] => { results := [.lit (.bool false)], args := [d1, d2, d3] }
  | _ => none }
def RunSafeWrongFalsely : Prop := runSafeRow.holds Tryz.pinned (OpenSpec.ofChange runSafeWrong)

/-- 'fuseelaw19.RunFirm': WHATEVER THE INPUT: true; the input reads as it did. -/
def runFirmSpec : ChangeSpec := { name := "runFirm", fn := fun _ => fun
  | [d1, d2, d3, d4] => { results := [.lit (.bool true)], args := [d1, d2, d3, d4] }
  | _ => none }
def runFirmRow : OpenClaim := { program := "ytneflbpekennkaagreat", sum := "4f507fe840741b5d0801eecf30f520ee1fe7c8bde0d3723f5e77375408b04dcf", func := "fusee/fuseelaw19.RunFirm", spec := "runFirm", unfollowed := true, recurses := true, apart := false }
def RunFirmSaid : Prop := runFirmRow.holds Tryz.pinned (OpenSpec.ofChange runFirmSpec)

/-- ITS FALSE NEIGHBOUR: 'it returns false'. Refute it at one input. -/
def runFirmWrong : ChangeSpec := { name := "runFirm", fn := fun _ => fun
  | [d1, d2, d3, d4] => { results := [.lit (.bool false)], args := [d1, d2, d3, d4] }
  | _ => none }
def RunFirmWrongFalsely : Prop := runFirmRow.holds Tryz.pinned (OpenSpec.ofChange runFirmWrong)

/- THE SECOND FORM. 'bulk': how many values and letters a reading holds, each counted each time it is reached (what is shared counts as often as it is met; a slice's spare places count too). A statement '..UptoSaid' is the law's where the arguments, and the package variables that the reading takes, are together of bulk at most 1048576: NARROWER than '..Said'. Prove '..Said' where nothing that the law and all that it calls make is longer than what came in: it says more and counts as full. Else prove '..UptoSaid'. A law counts once. -/
mutual
def uptoBulk {H : Type} : DataW H → Nat
  | .lit (.string bytes) => bytes.length + 1
  | .lit _ => 1
  | .nil => 1
  | .ptr d => uptoBulk d + 1
  | .slice elems spare => uptoBulkAll elems + uptoBulkAll spare + 1
  | .agg parts => uptoBulkAll parts + 1
  | .iface _ d => uptoBulk d + 1
  | .map entries => uptoBulkEntries entries + 1
  | .held _ => 1
def uptoBulkAll {H : Type} : List (DataW H) → Nat
  | [] => 0
  | d :: r => uptoBulk d + uptoBulkAll r
def uptoBulkEntries {H : Type} : List (Lit × DataW H) → Nat
  | [] => 0
  | x :: r => uptoBulkEntry x + uptoBulkEntries r
def uptoBulkEntry {H : Type} : Lit × DataW H → Nat
  | (.string bytes, d) => bytes.length + uptoBulk d + 1
  | (_, d) => uptoBulk d + 1
 end
def uptoSmall : (H : Type) → List (DataW H) → Bool := fun _ ds => decide (uptoBulkAll ds ≤ 1048576)
def OpenSpec.upto (s : _root_.Go.ChangeSpec) : _root_.Go.OpenSpec := { _root_.Go.OpenSpec.ofChange s with cond := some uptoSmall }

/-- 'fuseelaw19.RunAlone', WHERE WHAT IT READS IS OF BULK AT MOST 1048576: true; the input reads as it did. -/
def runAloneUptoRow : OpenClaim := { program := "ytneflbpekennkaagreat", sum := "4f507fe840741b5d0801eecf30f520ee1fe7c8bde0d3723f5e77375408b04dcf", func := "fusee/fuseelaw19.RunAlone", spec := "runAlone", unfollowed := true, recurses := true, apart := false, narrowed := true }
def RunAloneUptoSaid : Prop := runAloneUptoRow.holds Tryz.pinned (OpenSpec.upto runAloneSpec)

/-- 'fuseelaw19.RunOne', WHERE WHAT IT READS IS OF BULK AT MOST 1048576: true; the input reads as it did. -/
def runOneUptoRow : OpenClaim := { program := "ytneflbpekennkaagreat", sum := "4f507fe840741b5d0801eecf30f520ee1fe7c8bde0d3723f5e77375408b04dcf", func := "fusee/fuseelaw19.RunOne", spec := "runOne", unfollowed := true, recurses := true, apart := false, narrowed := true }
def RunOneUptoSaid : Prop := runOneUptoRow.holds Tryz.pinned (OpenSpec.upto runOneSpec)

/-- 'fuseelaw19.RunGone', WHERE WHAT IT READS IS OF BULK AT MOST 1048576: true; the input reads as it did. -/
def runGoneUptoRow : OpenClaim := { program := "ytneflbpekennkaagreat", sum := "4f507fe840741b5d0801eecf30f520ee1fe7c8bde0d3723f5e77375408b04dcf", func := "fusee/fuseelaw19.RunGone", spec := "runGone", unfollowed := true, recurses := true, apart := false, narrowed := true }
def RunGoneUptoSaid : Prop := runGoneUptoRow.holds Tryz.pinned (OpenSpec.upto runGoneSpec)

/-- 'fuseelaw19.RunTwice', WHERE WHAT IT READS IS OF BULK AT MOST 1048576: true; the input reads as it did. -/
def runTwiceUptoRow : OpenClaim := { program := "ytneflbpekennkaagreat", sum := "4f507fe840741b5d0801eecf30f520ee1fe7c8bde0d3723f5e77375408b04dcf", func := "fusee/fuseelaw19.RunTwice", spec := "runTwice", unfollowed := true, recurses := true, apart := false, narrowed := true }
def RunTwiceUptoSaid : Prop := runTwiceUptoRow.holds Tryz.pinned (OpenSpec.upto runTwiceSpec)

/-- 'fuseelaw19.RunSafe', WHERE WHAT IT READS IS OF BULK AT MOST 1048576: true; the input reads as it did. -/
def runSafeUptoRow : OpenClaim := { program := "ytneflbpekennkaagreat", sum := "4f507fe840741b5d0801eecf30f520ee1fe7c8bde0d3723f5e77375408b04dcf", func := "fusee/fuseelaw19.RunSafe", spec := "runSafe", unfollowed := true, recurses := true, apart := false, narrowed := true }
def RunSafeUptoSaid : Prop := runSafeUptoRow.holds Tryz.pinned (OpenSpec.upto runSafeSpec)

/-- 'fuseelaw19.RunFirm', WHERE WHAT IT READS IS OF BULK AT MOST 1048576: true; the input reads as it did. -/
def runFirmUptoRow : OpenClaim := { program := "ytneflbpekennkaagreat", sum := "4f507fe840741b5d0801eecf30f520ee1fe7c8bde0d3723f5e77375408b04dcf", func := "fusee/fuseelaw19.RunFirm", spec := "runFirm", unfollowed := true, recurses := true, apart := false, narrowed := true }
def RunFirmUptoSaid : Prop := runFirmUptoRow.holds Tryz.pinned (OpenSpec.upto runFirmSpec)

end Rows
end Go.Proofs.YtneflbpekennkaaGreat
