/-
  No cell of these rows narrows 'for every input' (looked for: loops, veiled, ifaces, maps, wideKeys, modest, calm, conditions, laid).
  DERIVED. THE GIVEN ROWS OF THIS SEAT. 8 by the template 'for every input the law returns true; each argument reads behind the call as it read before'; 0 by the template 'total and deterministic' (their statements: YtccfojgceohciaaTotals.lean).
  GIVEN WITH THE SEED: the statements are not yours to turn. If you find one false, say at which input.
  Laid BY PROGRAM, IN A SANDBOX (cutbox-rows.mjs): the forced cells as the released guide's own fill.sh prints them over the translation 1fbe5c7df42728ba… (all of the seat's roots in one cut). By AI agents, Wed Nov 11 2026. No macro, syntax, notation, axiom, sorry.
-/
import Derived.Test.YtccfojgceohciaaChecked
import GoSem.Claim
import GoSem.ClaimJoined
import GoSem.ClaimMapViews
import Derived.JoinedTies
import Derived.KernelRfl
namespace Go.Proofs.Ytccfojgceohciaa
/- THE CELL 'sum', in the pinned program and in every row, IS THE sha256 OF THE DUMP (.gsa) THAT YtccfojgceohciaaProg.lean LOADS. Nothing in Lean hashes anything: it is a label: what it is worth is what the hold of that sum in a sandbox is worth. -/
noncomputable def Try.pinned : Pinned := { name := "ytccfojgceohciaa", sum := "1fbe5c7df42728ba9a037d070b0ffaa9010c8c26da2c8c9b292dff5b0057dc58", checked := Try.checked }
namespace Rows
def none {H : Type} : Left H := { results := [], args := [] }

/-- 'fuseelaw12.LiveTells': WHATEVER THE INPUT: true; the input reads as it did. -/
def liveTellsSpec : ChangeSpec := { name := "liveTells", fn := fun _ => fun
  | [d1, d2] => { results := [.lit (.bool true)], args := [d1, d2] }
  | _ => none }
def liveTellsRow : OpenClaim := { program := "ytccfojgceohciaa", sum := "1fbe5c7df42728ba9a037d070b0ffaa9010c8c26da2c8c9b292dff5b0057dc58", func := "fusee/fuseelaw12.LiveTells", spec := "liveTells", unfollowed := true, recurses := true, apart := false }
def LiveTellsSaid : Prop := liveTellsRow.holds Try.pinned (OpenSpec.ofChange liveTellsSpec)

/-- ITS FALSE NEIGHBOUR: 'it returns false'. Refute it at one input. -/
def liveTellsWrong : ChangeSpec := { name := "liveTells", fn := fun _ => fun
  | [d1, d2] => { results := [.lit (.bool false)], args := [d1, d2] }
  | _ => none }
def LiveTellsWrongFalsely : Prop := liveTellsRow.holds Try.pinned (OpenSpec.ofChange liveTellsWrong)

/-- 'fuseelaw12.LiveShort': WHATEVER THE INPUT: true; the input reads as it did. -/
def liveShortSpec : ChangeSpec := { name := "liveShort", fn := fun _ => fun
  | [d1, d2, d3] => { results := [.lit (.bool true)], args := [d1, d2, d3] }
  | _ => none }
def liveShortRow : OpenClaim := { program := "ytccfojgceohciaa", sum := "1fbe5c7df42728ba9a037d070b0ffaa9010c8c26da2c8c9b292dff5b0057dc58", func := "fusee/fuseelaw12.LiveShort", spec := "liveShort", unfollowed := true, recurses := true, apart := false }
def LiveShortSaid : Prop := liveShortRow.holds Try.pinned (OpenSpec.ofChange liveShortSpec)

/-- ITS FALSE NEIGHBOUR: 'it returns false'. Refute it at one input. -/
def liveShortWrong : ChangeSpec := { name := "liveShort", fn := fun _ => fun
  | [d1, d2, d3] => { results := [.lit (.bool false)], args := [d1, d2, d3] }
  | _ => none }
def LiveShortWrongFalsely : Prop := liveShortRow.holds Try.pinned (OpenSpec.ofChange liveShortWrong)

/-- 'fuseelaw12.LiveLess': WHATEVER THE INPUT: true; the input reads as it did. -/
def liveLessSpec : ChangeSpec := { name := "liveLess", fn := fun _ => fun
  | [d1, d2, d3] => { results := [.lit (.bool true)], args := [d1, d2, d3] }
  | _ => none }
def liveLessRow : OpenClaim := { program := "ytccfojgceohciaa", sum := "1fbe5c7df42728ba9a037d070b0ffaa9010c8c26da2c8c9b292dff5b0057dc58", func := "fusee/fuseelaw12.LiveLess", spec := "liveLess", unfollowed := true, recurses := true, apart := false }
def LiveLessSaid : Prop := liveLessRow.holds Try.pinned (OpenSpec.ofChange liveLessSpec)

/-- ITS FALSE NEIGHBOUR: 'it returns false'. Refute it at one input. -/
def liveLessWrong : ChangeSpec := { name := "liveLess", fn := fun _ => fun
  | [d1, d2, d3] => { results := [.lit (.bool false)], args := [d1, d2, d3] }
  | _ => none }
def LiveLessWrongFalsely : Prop := liveLessRow.holds Try.pinned (OpenSpec.ofChange liveLessWrong)

/-- 'fuseelaw12.LiveOn': WHATEVER THE INPUT: true; the input reads as it did. -/
def liveOnSpec : ChangeSpec := { name := "liveOn", fn := fun _ => fun
  | [d1, d2] => { results := [.lit (.bool true)], args := [d1, d2] }
  | _ => none }
def liveOnRow : OpenClaim := { program := "ytccfojgceohciaa", sum := "1fbe5c7df42728ba9a037d070b0ffaa9010c8c26da2c8c9b292dff5b0057dc58", func := "fusee/fuseelaw12.LiveOn", spec := "liveOn", unfollowed := true, recurses := true, apart := false }
def LiveOnSaid : Prop := liveOnRow.holds Try.pinned (OpenSpec.ofChange liveOnSpec)

/-- ITS FALSE NEIGHBOUR: 'it returns false'. Refute it at one input. -/
def liveOnWrong : ChangeSpec := { name := "liveOn", fn := fun _ => fun
  | [d1, d2] => { results := [.lit (.bool false)], args := [d1, d2] }
  | _ => none }
def LiveOnWrongFalsely : Prop := liveOnRow.holds Try.pinned (OpenSpec.ofChange liveOnWrong)

/-- 'fuseelaw12.LiveOne': WHATEVER THE INPUT: true; the input reads as it did. -/
def liveOneSpec : ChangeSpec := { name := "liveOne", fn := fun _ => fun
  | [d1, d2] => { results := [.lit (.bool true)], args := [d1, d2] }
  | _ => none }
def liveOneRow : OpenClaim := { program := "ytccfojgceohciaa", sum := "1fbe5c7df42728ba9a037d070b0ffaa9010c8c26da2c8c9b292dff5b0057dc58", func := "fusee/fuseelaw12.LiveOne", spec := "liveOne", unfollowed := true, recurses := true, apart := false }
def LiveOneSaid : Prop := liveOneRow.holds Try.pinned (OpenSpec.ofChange liveOneSpec)

/-- ITS FALSE NEIGHBOUR: 'it returns false'. Refute it at one input. -/
def liveOneWrong : ChangeSpec := { name := "liveOne", fn := fun _ => fun
  | [d1, d2] => { results := [.lit (.bool false)], args := [d1, d2] }
  | _ => none }
def LiveOneWrongFalsely : Prop := liveOneRow.holds Try.pinned (OpenSpec.ofChange liveOneWrong)

/-- 'fuseelaw12.LiveWaits': WHATEVER THE INPUT: true; the input reads as it did. -/
def liveWaitsSpec : ChangeSpec := { name := "liveWaits", fn := fun _ => fun
  | [d1, d2] => { results := [.lit (.bool true)], args := [d1, d2] }
  | _ => none }
def liveWaitsRow : OpenClaim := { program := "ytccfojgceohciaa", sum := "1fbe5c7df42728ba9a037d070b0ffaa9010c8c26da2c8c9b292dff5b0057dc58", func := "fusee/fuseelaw12.LiveWaits", spec := "liveWaits", unfollowed := true, recurses := true, apart := false }
def LiveWaitsSaid : Prop := liveWaitsRow.holds Try.pinned (OpenSpec.ofChange liveWaitsSpec)

/-- ITS FALSE NEIGHBOUR: 'it returns false'. Refute it at one input. -/
def liveWaitsWrong : ChangeSpec := { name := "liveWaits", fn := fun _ => fun
  | [d1, d2] => { results := [.lit (.bool false)], args := [d1, d2] }
  | _ => none }
def LiveWaitsWrongFalsely : Prop := liveWaitsRow.holds Try.pinned (OpenSpec.ofChange liveWaitsWrong)

/-- 'fuseelaw12.LiveSoon': WHATEVER THE INPUT: true; the input reads as it did. -/
def liveSoonSpec : ChangeSpec := { name := "liveSoon", fn := fun _ => fun
  | [d1, d2] => { results := [.lit (.bool true)], args := [d1, d2] }
  | _ => none }
def liveSoonRow : OpenClaim := { program := "ytccfojgceohciaa", sum := "1fbe5c7df42728ba9a037d070b0ffaa9010c8c26da2c8c9b292dff5b0057dc58", func := "fusee/fuseelaw12.LiveSoon", spec := "liveSoon", unfollowed := true, recurses := true, apart := false }
def LiveSoonSaid : Prop := liveSoonRow.holds Try.pinned (OpenSpec.ofChange liveSoonSpec)

/-- ITS FALSE NEIGHBOUR: 'it returns false'. Refute it at one input. -/
def liveSoonWrong : ChangeSpec := { name := "liveSoon", fn := fun _ => fun
  | [d1, d2] => { results := [.lit (.bool false)], args := [d1, d2] }
  | _ => none }
def LiveSoonWrongFalsely : Prop := liveSoonRow.holds Try.pinned (OpenSpec.ofChange liveSoonWrong)

/-- 'fuseelaw12.LiveEver': WHATEVER THE INPUT: true; the input reads as it did. -/
def liveEverSpec : ChangeSpec := { name := "liveEver", fn := fun _ => fun
  | [d1, d2, d3] => { results := [.lit (.bool true)], args := [d1, d2, d3] }
  | _ => none }
def liveEverRow : OpenClaim := { program := "ytccfojgceohciaa", sum := "1fbe5c7df42728ba9a037d070b0ffaa9010c8c26da2c8c9b292dff5b0057dc58", func := "fusee/fuseelaw12.LiveEver", spec := "liveEver", unfollowed := true, recurses := true, apart := false }
def LiveEverSaid : Prop := liveEverRow.holds Try.pinned (OpenSpec.ofChange liveEverSpec)

/-- ITS FALSE NEIGHBOUR: 'it returns false'. Refute it at one input. -/
def liveEverWrong : ChangeSpec := { name := "liveEver", fn := fun _ => fun
  | [d1, d2, d3] => { results := [.lit (.bool false)], args := [d1, d2, d3] }
  | _ => none }
def LiveEverWrongFalsely : Prop := liveEverRow.holds Try.pinned (OpenSpec.ofChange liveEverWrong)

/- THE SECOND FORM. 'bulk': how many values and letters a reading holds, each counted each time it is reached (what is shared counts as often as it is met; a slice's spare places count too). A statement '..UptoSaid' is the law's where the arguments, and the package variables that the reading takes, are together of bulk at most 1048576: NARROWER than '..Said'. Prove '..Said' where nothing that the law and all that it calls make is longer than what came in: it says more and counts as full. Else prove '..UptoSaid'. A law counts once. -/
mutual
def uptoBulk {H : Type} : DataW H → Nat
  | .lit (.string bytes) => bytes.length + 1
  | .lit _ => 1
  | .nil => 1
  | .ptr d => uptoBulk d + 1
  | .slice elems spare => uptoBulkAll elems + uptoBulkAll spare + 1
  | .agg parts => uptoBulkAll parts + 1
  | .iface _ d => uptoBulk d + 1
  | .map entries => uptoBulkEntries entries + 1
  | .held _ => 1
def uptoBulkAll {H : Type} : List (DataW H) → Nat
  | [] => 0
  | d :: r => uptoBulk d + uptoBulkAll r
def uptoBulkEntries {H : Type} : List (Lit × DataW H) → Nat
  | [] => 0
  | x :: r => uptoBulkEntry x + uptoBulkEntries r
def uptoBulkEntry {H : Type} : Lit × DataW H → Nat
  | (.string bytes, d) => bytes.length + uptoBulk d + 1
  | (_, d) => uptoBulk d + 1
 end
def uptoSmall : (H : Type) → List (DataW H) → Bool := fun _ ds => decide (uptoBulkAll ds ≤ 1048576)
def OpenSpec.upto (s : _root_.Go.ChangeSpec) : _root_.Go.OpenSpec := { _root_.Go.OpenSpec.ofChange s with cond := some uptoSmall }

/-- 'fuseelaw12.LiveTells', WHERE WHAT IT READS IS OF BULK AT MOST 1048576: true; the input reads as it did. -/
def liveTellsUptoRow : OpenClaim := { program := "ytccfojgceohciaa", sum := "1fbe5c7df42728ba9a037d070b0ffaa9010c8c26da2c8c9b292dff5b0057dc58", func := "fusee/fuseelaw12.LiveTells", spec := "liveTells", unfollowed := true, recurses := true, apart := false, narrowed := true }
def LiveTellsUptoSaid : Prop := liveTellsUptoRow.holds Try.pinned (OpenSpec.upto liveTellsSpec)

/-- 'fuseelaw12.LiveShort', WHERE WHAT IT READS IS OF BULK AT MOST 1048576: true; the input reads as it did. -/
def liveShortUptoRow : OpenClaim := { program := "ytccfojgceohciaa", sum := "1fbe5c7df42728ba9a037d070b0ffaa9010c8c26da2c8c9b292dff5b0057dc58", func := "fusee/fuseelaw12.LiveShort", spec := "liveShort", unfollowed := true, recurses := true, apart := false, narrowed := true }
def LiveShortUptoSaid : Prop := liveShortUptoRow.holds Try.pinned (OpenSpec.upto liveShortSpec)

/-- 'fuseelaw12.LiveLess', WHERE WHAT IT READS IS OF BULK AT MOST 1048576: true; the input reads as it did. -/
def liveLessUptoRow : OpenClaim := { program := "ytccfojgceohciaa", sum := "1fbe5c7df42728ba9a037d070b0ffaa9010c8c26da2c8c9b292dff5b0057dc58", func := "fusee/fuseelaw12.LiveLess", spec := "liveLess", unfollowed := true, recurses := true, apart := false, narrowed := true }
def LiveLessUptoSaid : Prop := liveLessUptoRow.holds Try.pinned (OpenSpec.upto liveLessSpec)

/-- 'fuseelaw12.LiveOn', WHERE WHAT IT READS IS OF BULK AT MOST 1048576: true; the input reads as it did. -/
def liveOnUptoRow : OpenClaim := { program := "ytccfojgceohciaa", sum := "1fbe5c7df42728ba9a037d070b0ffaa9010c8c26da2c8c9b292dff5b0057dc58", func := "fusee/fuseelaw12.LiveOn", spec := "liveOn", unfollowed := true, recurses := true, apart := false, narrowed := true }
def LiveOnUptoSaid : Prop := liveOnUptoRow.holds Try.pinned (OpenSpec.upto liveOnSpec)

/-- 'fuseelaw12.LiveOne', WHERE WHAT IT READS IS OF BULK AT MOST 1048576: true; the input reads as it did. -/
def liveOneUptoRow : OpenClaim := { program := "ytccfojgceohciaa", sum := "1fbe5c7df42728ba9a037d070b0ffaa9010c8c26da2c8c9b292dff5b0057dc58", func := "fusee/fuseelaw12.LiveOne", spec := "liveOne", unfollowed := true, recurses := true, apart := false, narrowed := true }
def LiveOneUptoSaid : Prop := liveOneUptoRow.holds Try.pinned (OpenSpec.upto liveOneSpec)

/-- 'fuseelaw12.LiveWaits', WHERE WHAT IT READS IS OF BULK AT MOST 1048576: true; the input reads as it did. -/
def liveWaitsUptoRow : OpenClaim := { program := "ytccfojgceohciaa", sum := "1fbe5c7df42728ba9a037d070b0ffaa9010c8c26da2c8c9b292dff5b0057dc58", func := "fusee/fuseelaw12.LiveWaits", spec := "liveWaits", unfollowed := true, recurses := true, apart := false, narrowed := true }
def LiveWaitsUptoSaid : Prop := liveWaitsUptoRow.holds Try.pinned (OpenSpec.upto liveWaitsSpec)

/-- 'fuseelaw12.LiveSoon', WHERE WHAT IT READS IS OF BULK AT MOST 1048576: true; the input reads as it did. -/
def liveSoonUptoRow : OpenClaim := { program := "ytccfojgceohciaa", sum := "1fbe5c7df42728ba9a037d070b0ffaa9010c8c26da2c8c9b292dff5b0057dc58", func := "fusee/fuseelaw12.LiveSoon", spec := "liveSoon", unfollowed := true, recurses := true, apart := false, narrowed := true }
def LiveSoonUptoSaid : Prop := liveSoonUptoRow.holds Try.pinned (OpenSpec.upto liveSoonSpec)

/-- 'fuseelaw12.LiveEver', WHERE WHAT IT READS IS OF BULK AT MOST 1048576: true; the input reads as it did. -/
def liveEverUptoRow : OpenClaim := { program := "ytccfojgceohciaa", sum := "1fbe5c7df42728ba9a037d070b0ffaa9010c8c26da2c8c9b292dff5b0057dc58", func := "fusee/fuseelaw12.LiveEver", spec := "liveEver", unfollowed := true, recurses := true, apart := false, narrowed := true }
def LiveEverUptoSaid : Prop := liveEverUptoRow.holds Try.pinned (OpenSpec.upto liveEverSpec)

end Rows
end Go.Proofs.Ytccfojgceohciaa
