/-
  No cell of these rows narrows 'for every input' (looked for: loops, veiled, ifaces, maps, wideKeys, modest, calm, conditions, laid).
  DERIVED. THE GIVEN ROWS OF THIS SEAT. 7 by the template 'for every input the law returns true; each argument reads behind the call as it read before'; 0 by the template 'total and deterministic' (their statements: YtpamljjiglncmaaGreatTotals.lean).
  GIVEN WITH THE SEED: the statements are not yours to turn. If you find one false, say at which input.
  Laid BY PROGRAM, IN A SANDBOX (cutbox-rows.mjs): the forced cells as the released guide's own fill.sh prints them over the translation dd74842277938474… (all of the seat's roots in one cut). By AI agents, Wed Nov 11 2026. No macro, syntax, notation, axiom, sorry.
-/
import Derived.Test.YtpamljjiglncmaaGreatChecked
import GoSem.Claim
import GoSem.ClaimJoined
import GoSem.ClaimMapViews
import Derived.JoinedTies
import Derived.KernelRfl
namespace Go.Proofs.YtpamljjiglncmaaGreat
/- THE CELL 'sum', in the pinned program and in every row, IS THE sha256 OF THE DUMP (.gsa) THAT YtpamljjiglncmaaGreatProg.lean LOADS. Nothing in Lean hashes anything: it is a label: what it is worth is what the hold of that sum in a sandbox is worth. -/
noncomputable def Tryz.pinned : Pinned := { name := "ytpamljjiglncmaagreat", sum := "dd74842277938474826f472b0855a612bdaee74da64e406c036e6689872e9ea6", checked := Tryz.checked }
namespace Rows
def none {H : Type} : Left H := { results := [], args := [] }

/-- 'fuseelaw20.AdmitTry': WHATEVER THE INPUT: true; the input reads as it did. -/
def admitTrySpec : ChangeSpec := { name := "admitTry", fn := fun _ => fun
  | [d] => { results := [.lit (.bool true)], args := [d] }
  | _ => none }
def admitTryRow : OpenClaim := { program := "ytpamljjiglncmaagreat", sum := "dd74842277938474826f472b0855a612bdaee74da64e406c036e6689872e9ea6", func := "fusee/fuseelaw20.AdmitTry", spec := "admitTry", unfollowed := true, recurses := true, apart := false }
def AdmitTrySaid : Prop := admitTryRow.holds Tryz.pinned (OpenSpec.ofChange admitTrySpec)

/-- ITS FALSE NEIGHBOUR: 'it returns false'. Refute it at one input. -/
def admitTryWrong : ChangeSpec := { name := "admitTry", fn := fun _ => fun
  | [d] => { results := [.lit (.bool false)], args := [d] }
  | _ => none }
def AdmitTryWrongFalsely : Prop := admitTryRow.holds Tryz.pinned (OpenSpec.ofChange admitTryWrong)

/-- 'fuseelaw20.AdmitJust': WHATEVER THE INPUT: true; the input reads as it did. -/
def admitJustSpec : ChangeSpec := { name := "admitJust", fn := fun _ => fun
  | [d1, d2, d3, d4, d5] => { results := [.lit (.bool true)], args := [d1, d2, d3, d4, d5] }
  | _ => none }
def admitJustRow : OpenClaim := { program := "ytpamljjiglncmaagreat", sum := "dd74842277938474826f472b0855a612bdaee74da64e406c036e6689872e9ea6", func := "fusee/fuseelaw20.AdmitJust", spec := "admitJust", unfollowed := true, recurses := true, apart := false }
def AdmitJustSaid : Prop := admitJustRow.holds Tryz.pinned (OpenSpec.ofChange admitJustSpec)

/-- ITS FALSE NEIGHBOUR: 'it returns false'. Refute it at one input. -/
def admitJustWrong : ChangeSpec := { name := "admitJust", fn := fun _ => fun
  | [d1, d2, d3, d4, d5] => { results := [.lit (.bool false)], args := [d1, d2, d3, d4, d5] }
  | _ => none }
def AdmitJustWrongFalsely : Prop := admitJustRow.holds Tryz.pinned (OpenSpec.ofChange admitJustWrong)

/-- 'fuseelaw20.AdmitOwn': WHATEVER THE INPUT: true; the input reads as it did. -/
def admitOwnSpec : ChangeSpec := { name := "admitOwn", fn := fun _ => fun
  | [d1, d2] => { results := [.lit (.bool true)], args := [d1, d2] }
  | _ => none }
def admitOwnRow : OpenClaim := { program := "ytpamljjiglncmaagreat", sum := "dd74842277938474826f472b0855a612bdaee74da64e406c036e6689872e9ea6", func := "fusee/fuseelaw20.AdmitOwn", spec := "admitOwn", unfollowed := true, recurses := true, apart := false }
def AdmitOwnSaid : Prop := admitOwnRow.holds Tryz.pinned (OpenSpec.ofChange admitOwnSpec)

/-- ITS FALSE NEIGHBOUR: 'it returns false'. Refute it at one input. -/
def admitOwnWrong : ChangeSpec := { name := "admitOwn", fn := fun _ => fun
  | [d1, d2] => { results := [.lit (.bool false)], args := [d1, d2] }
  | _ => none }
def AdmitOwnWrongFalsely : Prop := admitOwnRow.holds Tryz.pinned (OpenSpec.ofChange admitOwnWrong)

/-- 'fuseelaw20.AdmitLeaves': WHATEVER THE INPUT: true; the input reads as it did. -/
def admitLeavesSpec : ChangeSpec := { name := "admitLeaves", fn := fun _ => fun
  | [d1, d2] => { results := [.lit (.bool true)], args := [d1, d2] }
  | _ => none }
def admitLeavesRow : OpenClaim := { program := "ytpamljjiglncmaagreat", sum := "dd74842277938474826f472b0855a612bdaee74da64e406c036e6689872e9ea6", func := "fusee/fuseelaw20.AdmitLeaves", spec := "admitLeaves", unfollowed := true, recurses := true, apart := false }
def AdmitLeavesSaid : Prop := admitLeavesRow.holds Tryz.pinned (OpenSpec.ofChange admitLeavesSpec)

/-- ITS FALSE NEIGHBOUR: 'it returns false'. Refute it at one input. -/
def admitLeavesWrong : ChangeSpec := { name := "admitLeaves", fn := fun _ => fun
  | [d1, d2] => { results := [.lit (.bool false)], args := [d1, d2] }
  | _ => none }
def AdmitLeavesWrongFalsely : Prop := admitLeavesRow.holds Tryz.pinned (OpenSpec.ofChange admitLeavesWrong)

/-- 'fuseelaw20.AdmitBusy': WHATEVER THE INPUT: true; the input reads as it did. -/
def admitBusySpec : ChangeSpec := { name := "admitBusy", fn := fun _ => fun
  | [d1, d2, d3, d4] => { results := [.lit (.bool true)], args := [d1, d2, d3, d4] }
  | _ => none }
def admitBusyRow : OpenClaim := { program := "ytpamljjiglncmaagreat", sum := "dd74842277938474826f472b0855a612bdaee74da64e406c036e6689872e9ea6", func := "fusee/fuseelaw20.AdmitBusy", spec := "admitBusy", unfollowed := true, recurses := true, apart := false }
def AdmitBusySaid : Prop := admitBusyRow.holds Tryz.pinned (OpenSpec.ofChange admitBusySpec)

/-- ITS FALSE NEIGHBOUR: 'it returns false'. Refute it at one input. -/
def admitBusyWrong : ChangeSpec := { name := "admitBusy", fn := fun _ => fun
  | [d1, d2, d3, d4] => { results := [.lit (.bool false)], args := [d1, d2, d3, d4] }
  | _ => none }
def AdmitBusyWrongFalsely : Prop := admitBusyRow.holds Tryz.pinned (OpenSpec.ofChange admitBusyWrong)

/-- 'fuseelaw20.AdmitMay': WHATEVER THE INPUT: true; the input reads as it did. -/
def admitMaySpec : ChangeSpec := { name := "admitMay", fn := fun _ => fun
  | [d1, d2, d3, d4, d5] => { results := [.lit (.bool true)], args := [d1, d2, d3, d4, d5] }
  | _ => none }
def admitMayRow : OpenClaim := { program := "ytpamljjiglncmaagreat", sum := "dd74842277938474826f472b0855a612bdaee74da64e406c036e6689872e9ea6", func := "fusee/fuseelaw20.AdmitMay", spec := "admitMay", unfollowed := true, recurses := true, apart := false }
def AdmitMaySaid : Prop := admitMayRow.holds Tryz.pinned (OpenSpec.ofChange admitMaySpec)

/-- ITS FALSE NEIGHBOUR: 'it returns false'. Refute it at one input. -/
def admitMayWrong : ChangeSpec := { name := "admitMay", fn := fun _ => fun
  | [d1, d2, d3, d4, d5] => { results := [.lit (.bool false)], args := [d1, d2, d3, d4, d5] }
  | _ => none }
def AdmitMayWrongFalsely : Prop := admitMayRow.holds Tryz.pinned (OpenSpec.ofChange admitMayWrong)

/-- 'fuseelaw20.AdmitSoon': WHATEVER THE INPUT: true; the input reads as it did. -/
def admitSoonSpec : ChangeSpec := { name := "admitSoon", fn := fun _ => fun
  | [d1, d2, d3] => { results := [.lit (.bool true)], args := [d1, d2, d3] }
  | _ => none }
def admitSoonRow : OpenClaim := { program := "ytpamljjiglncmaagreat", sum := "dd74842277938474826f472b0855a612bdaee74da64e406c036e6689872e9ea6", func := "fusee/fuseelaw20.AdmitSoon", spec := "admitSoon", unfollowed := true, recurses := true, apart := false }
def AdmitSoonSaid : Prop := admitSoonRow.holds Tryz.pinned (OpenSpec.ofChange admitSoonSpec)

/-- ITS FALSE NEIGHBOUR: 'it returns false'. Refute it at one input. -/
def admitSoonWrong : ChangeSpec := { name := "admitSoon", fn := fun _ => fun
  | [d1, d2, d3] => { results := [.lit (.bool false)], args := [d1, d2, d3] }
  | _ => none }
def AdmitSoonWrongFalsely : Prop := admitSoonRow.holds Tryz.pinned (OpenSpec.ofChange admitSoonWrong)

/- THE SECOND FORM. 'bulk': how many values and letters a reading holds, each counted each time it is reached (what is shared counts as often as it is met; a slice's spare places count too). A statement '..UptoSaid' is the law's where the arguments, and the package variables that the reading takes, are together of bulk at most 1048576: NARROWER than '..Said'. Prove '..Said' where nothing that the law and all that it calls make is longer than what came in: it says more and counts as full. Else prove '..UptoSaid'. A law counts once. -/
mutual
def uptoBulk {H : Type} : DataW H → Nat
  | .lit (.string bytes) => bytes.length + 1
  | .lit _ => 1
  | .nil => 1
  | .ptr d => uptoBulk d + 1
  | .slice elems spare => uptoBulkAll elems + uptoBulkAll spare + 1
  | .agg parts => uptoBulkAll parts + 1
  | .iface _ d => uptoBulk d + 1
  | .map entries => uptoBulkEntries entries + 1
  | .held _ => 1
def uptoBulkAll {H : Type} : List (DataW H) → Nat
  | [] => 0
  | d :: r => uptoBulk d + uptoBulkAll r
def uptoBulkEntries {H : Type} : List (Lit × DataW H) → Nat
  | [] => 0
  | x :: r => uptoBulkEntry x + uptoBulkEntries r
def uptoBulkEntry {H : Type} : Lit × DataW H → Nat
  | (.string bytes, d) => bytes.length + uptoBulk d + 1
  | (_, d) => uptoBulk d + 1
 end
def uptoSmall : (H : Type) → List (DataW H) → Bool := fun _ ds => decide (uptoBulkAll ds ≤ 1048576)
def OpenSpec.upto (s : _root_.Go.ChangeSpec) : _root_.Go.OpenSpec := { _root_.Go.OpenSpec.ofChange s with cond := some uptoSmall }

/-- 'fuseelaw20.AdmitTry', WHERE WHAT IT READS IS OF BULK AT MOST 1048576: true; the input reads as it did. -/
def admitTryUptoRow : OpenClaim := { program := "ytpamljjiglncmaagreat", sum := "dd74842277938474826f472b0855a612bdaee74da64e406c036e6689872e9ea6", func := "fusee/fuseelaw20.AdmitTry", spec := "admitTry", unfollowed := true, recurses := true, apart := false, narrowed := true }
def AdmitTryUptoSaid : Prop := admitTryUptoRow.holds Tryz.pinned (OpenSpec.upto admitTrySpec)

/-- 'fuseelaw20.AdmitJust', WHERE WHAT IT READS IS OF BULK AT MOST 1048576: true; the input reads as it did. -/
def admitJustUptoRow : OpenClaim := { program := "ytpamljjiglncmaagreat", sum := "dd74842277938474826f472b0855a612bdaee74da64e406c036e6689872e9ea6", func := "fusee/fuseelaw20.AdmitJust", spec := "admitJust", unfollowed := true, recurses := true, apart := false, narrowed := true }
def AdmitJustUptoSaid : Prop := admitJustUptoRow.holds Tryz.pinned (OpenSpec.upto admitJustSpec)

/-- 'fuseelaw20.AdmitOwn', WHERE WHAT IT READS IS OF BULK AT MOST 1048576: true; the input reads as it did. -/
def admitOwnUptoRow : OpenClaim := { program := "ytpamljjiglncmaagreat", sum := "dd74842277938474826f472b0855a612bdaee74da64e406c036e6689872e9ea6", func := "fusee/fuseelaw20.AdmitOwn", spec := "admitOwn", unfollowed := true, recurses := true, apart := false, narrowed := true }
def AdmitOwnUptoSaid : Prop := admitOwnUptoRow.holds Tryz.pinned (OpenSpec.upto admitOwnSpec)

/-- 'fuseelaw20.AdmitLeaves', WHERE WHAT IT READS IS OF BULK AT MOST 1048576: true; the input reads as it did. -/
def admitLeavesUptoRow : OpenClaim := { program := "ytpamljjiglncmaagreat", sum := "dd74842277938474826f472b0855a612bdaee74da64e406c036e6689872e9ea6", func := "fusee/fuseelaw20.AdmitLeaves", spec := "admitLeaves", unfollowed := true, recurses := true, apart := false, narrowed := true }
def AdmitLeavesUptoSaid : Prop := admitLeavesUptoRow.holds Tryz.pinned (OpenSpec.upto admitLeavesSpec)

/-- 'fuseelaw20.AdmitBusy', WHERE WHAT IT READS IS OF BULK AT MOST 1048576: true; the input reads as it did. -/
def admitBusyUptoRow : OpenClaim := { program := "ytpamljjiglncmaagreat", sum := "dd74842277938474826f472b0855a612bdaee74da64e406c036e6689872e9ea6", func := "fusee/fuseelaw20.AdmitBusy", spec := "admitBusy", unfollowed := true, recurses := true, apart := false, narrowed := true }
def AdmitBusyUptoSaid : Prop := admitBusyUptoRow.holds Tryz.pinned (OpenSpec.upto admitBusySpec)

/-- 'fuseelaw20.AdmitMay', WHERE WHAT IT READS IS OF BULK AT MOST 1048576: true; the input reads as it did. -/
def admitMayUptoRow : OpenClaim := { program := "ytpamljjiglncmaagreat", sum := "dd74842277938474826f472b0855a612bdaee74da64e406c036e6689872e9ea6", func := "fusee/fuseelaw20.AdmitMay", spec := "admitMay", unfollowed := true, recurses := true, apart := false, narrowed := true }
def AdmitMayUptoSaid : Prop := admitMayUptoRow.holds Tryz.pinned (OpenSpec.upto admitMaySpec)

/-- 'fuseelaw20.AdmitSoon', WHERE WHAT IT READS IS OF BULK AT MOST 1048576: true; the input reads as it did. -/
def admitSoonUptoRow : OpenClaim := { program := "ytpamljjiglncmaagreat", sum := "dd74842277938474826f472b0855a612bdaee74da64e406c036e6689872e9ea6", func := "fusee/fuseelaw20.AdmitSoon", spec := "admitSoon", unfollowed := true, recurses := true, apart := false, narrowed := true }
def AdmitSoonUptoSaid : Prop := admitSoonUptoRow.holds Tryz.pinned (OpenSpec.upto admitSoonSpec)

end Rows
end Go.Proofs.YtpamljjiglncmaaGreat
