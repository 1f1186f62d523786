/-
  No cell of these rows narrows 'for every input' (looked for: loops, veiled, ifaces, maps, wideKeys, modest, calm, conditions, laid).
  DERIVED. THE GIVEN ROWS OF THIS SEAT. 10 by the template 'for every input the law returns true; each argument reads behind the call as it read before'; 0 by the template 'total and deterministic' (their statements: YtdpcphkhkhdbnaaTotals.lean).
  GIVEN WITH THE SEED: the statements are not yours to turn. If you find one false, say at which input.
  Laid BY PROGRAM, IN A SANDBOX (cutbox-rows.mjs): the forced cells as the released guide's own fill.sh prints them over the translation a827a80e22c9054a… (all of the seat's roots in one cut). By AI agents, Wed Nov 11 2026. No macro, syntax, notation, axiom, sorry.
-/
import Derived.Test.YtdpcphkhkhdbnaaChecked
import GoSem.Claim
import GoSem.ClaimJoined
import GoSem.ClaimMapViews
import Derived.JoinedTies
import Derived.KernelRfl
namespace Go.Proofs.Ytdpcphkhkhdbnaa
/- THE CELL 'sum', in the pinned program and in every row, IS THE sha256 OF THE DUMP (.gsa) THAT YtdpcphkhkhdbnaaProg.lean LOADS. Nothing in Lean hashes anything: it is a label: what it is worth is what the hold of that sum in a sandbox is worth. -/
noncomputable def Try.pinned : Pinned := { name := "ytdpcphkhkhdbnaa", sum := "a827a80e22c9054ace8a0a8c03b666a97506b8d30dc952ecf399a2c1f5bb4e66", checked := Try.checked }
namespace Rows
def none {H : Type} : Left H := { results := [], args := [] }

/-- 'fuseelaw17.ReleaseBegins': WHATEVER THE INPUT: true; the input reads as it did. -/
def releaseBeginsSpec : ChangeSpec := { name := "releaseBegins", fn := fun _ => fun
  | [d1, d2] => { results := [.lit (.bool true)], args := [d1, d2] }
  | _ => none }
def releaseBeginsRow : OpenClaim := { program := "ytdpcphkhkhdbnaa", sum := "a827a80e22c9054ace8a0a8c03b666a97506b8d30dc952ecf399a2c1f5bb4e66", func := "fusee/fuseelaw17.ReleaseBegins", spec := "releaseBegins", unfollowed := true, recurses := true, apart := false }
def ReleaseBeginsSaid : Prop := releaseBeginsRow.holds Try.pinned (OpenSpec.ofChange releaseBeginsSpec)

/-- ITS FALSE NEIGHBOUR: 'it returns false'. Refute it at one input. -/
def releaseBeginsWrong : ChangeSpec := { name := "releaseBegins", fn := fun _ => fun
  | [d1, d2] => { results := [.lit (.bool false)], args := [d1, d2] }
  | _ => none }
def ReleaseBeginsWrongFalsely : Prop := releaseBeginsRow.holds Try.pinned (OpenSpec.ofChange releaseBeginsWrong)

/-- 'fuseelaw17.ReleaseSafe': WHATEVER THE INPUT: true; the input reads as it did. -/
def releaseSafeSpec : ChangeSpec := { name := "releaseSafe", fn := fun _ => fun
  | [d] => { results := [.lit (.bool true)], args := [d] }
  | _ => none }
def releaseSafeRow : OpenClaim := { program := "ytdpcphkhkhdbnaa", sum := "a827a80e22c9054ace8a0a8c03b666a97506b8d30dc952ecf399a2c1f5bb4e66", func := "fusee/fuseelaw17.ReleaseSafe", spec := "releaseSafe", unfollowed := true, recurses := true, apart := false }
def ReleaseSafeSaid : Prop := releaseSafeRow.holds Try.pinned (OpenSpec.ofChange releaseSafeSpec)

/-- ITS FALSE NEIGHBOUR: 'it returns false'. Refute it at one input. -/
def releaseSafeWrong : ChangeSpec := { name := "releaseSafe", fn := fun _ => fun
  | [d] => { results := [.lit (.bool false)], args := [d] }
  | _ => none }
def ReleaseSafeWrongFalsely : Prop := releaseSafeRow.holds Try.pinned (OpenSpec.ofChange releaseSafeWrong)

/-- 'fuseelaw17.ReleaseLess': WHATEVER THE INPUT: true; the input reads as it did. -/
def releaseLessSpec : ChangeSpec := { name := "releaseLess", fn := fun _ => fun
  | [d1, d2] => { results := [.lit (.bool true)], args := [d1, d2] }
  | _ => none }
def releaseLessRow : OpenClaim := { program := "ytdpcphkhkhdbnaa", sum := "a827a80e22c9054ace8a0a8c03b666a97506b8d30dc952ecf399a2c1f5bb4e66", func := "fusee/fuseelaw17.ReleaseLess", spec := "releaseLess", unfollowed := true, recurses := true, apart := false }
def ReleaseLessSaid : Prop := releaseLessRow.holds Try.pinned (OpenSpec.ofChange releaseLessSpec)

/-- ITS FALSE NEIGHBOUR: 'it returns false'. Refute it at one input. -/
def releaseLessWrong : ChangeSpec := { name := "releaseLess", fn := fun _ => fun
  | [d1, d2] => { results := [.lit (.bool false)], args := [d1, d2] }
  | _ => none }
def ReleaseLessWrongFalsely : Prop := releaseLessRow.holds Try.pinned (OpenSpec.ofChange releaseLessWrong)

/-- 'fuseelaw17.ReleaseTurned': WHATEVER THE INPUT: true; the input reads as it did. -/
def releaseTurnedSpec : ChangeSpec := { name := "releaseTurned", fn := fun _ => fun
  | [d1, d2] => { results := [.lit (.bool true)], args := [d1, d2] }
  | _ => none }
def releaseTurnedRow : OpenClaim := { program := "ytdpcphkhkhdbnaa", sum := "a827a80e22c9054ace8a0a8c03b666a97506b8d30dc952ecf399a2c1f5bb4e66", func := "fusee/fuseelaw17.ReleaseTurned", spec := "releaseTurned", unfollowed := true, recurses := true, apart := false }
def ReleaseTurnedSaid : Prop := releaseTurnedRow.holds Try.pinned (OpenSpec.ofChange releaseTurnedSpec)

/-- ITS FALSE NEIGHBOUR: 'it returns false'. Refute it at one input. -/
def releaseTurnedWrong : ChangeSpec := { name := "releaseTurned", fn := fun _ => fun
  | [d1, d2] => { results := [.lit (.bool false)], args := [d1, d2] }
  | _ => none }
def ReleaseTurnedWrongFalsely : Prop := releaseTurnedRow.holds Try.pinned (OpenSpec.ofChange releaseTurnedWrong)

/-- 'fuseelaw17.ReleaseEnds': WHATEVER THE INPUT: true; the input reads as it did. -/
def releaseEndsSpec : ChangeSpec := { name := "releaseEnds", fn := fun _ => fun
  | [d] => { results := [.lit (.bool true)], args := [d] }
  | _ => none }
def releaseEndsRow : OpenClaim := { program := "ytdpcphkhkhdbnaa", sum := "a827a80e22c9054ace8a0a8c03b666a97506b8d30dc952ecf399a2c1f5bb4e66", func := "fusee/fuseelaw17.ReleaseEnds", spec := "releaseEnds", unfollowed := true, recurses := true, apart := false }
def ReleaseEndsSaid : Prop := releaseEndsRow.holds Try.pinned (OpenSpec.ofChange releaseEndsSpec)

/-- ITS FALSE NEIGHBOUR: 'it returns false'. Refute it at one input. -/
def releaseEndsWrong : ChangeSpec := { name := "releaseEnds", fn := fun _ => fun
  | [d] => { results := [.lit (.bool false)], args := [d] }
  | _ => none }
def ReleaseEndsWrongFalsely : Prop := releaseEndsRow.holds Try.pinned (OpenSpec.ofChange releaseEndsWrong)

/-- 'fuseelaw18.ChooseMust': WHATEVER THE INPUT: true; the input reads as it did. -/
def chooseMustSpec : ChangeSpec := { name := "chooseMust", fn := fun _ => fun
  | [d] => { results := [.lit (.bool true)], args := [d] }
  | _ => none }
def chooseMustRow : OpenClaim := { program := "ytdpcphkhkhdbnaa", sum := "a827a80e22c9054ace8a0a8c03b666a97506b8d30dc952ecf399a2c1f5bb4e66", func := "fusee/fuseelaw18.ChooseMust", spec := "chooseMust", unfollowed := true, recurses := true, apart := false }
def ChooseMustSaid : Prop := chooseMustRow.holds Try.pinned (OpenSpec.ofChange chooseMustSpec)

/-- ITS FALSE NEIGHBOUR: 'it returns false'. Refute it at one input. -/
def chooseMustWrong : ChangeSpec := { name := "chooseMust", fn := fun _ => fun
  | [d] => { results := [.lit (.bool false)], args := [d] }
  | _ => none }
def ChooseMustWrongFalsely : Prop := chooseMustRow.holds Try.pinned (OpenSpec.ofChange chooseMustWrong)

/-- 'fuseelaw18.ChooseMay': WHATEVER THE INPUT: true; the input reads as it did. -/
def chooseMaySpec : ChangeSpec := { name := "chooseMay", fn := fun _ => fun
  | [d] => { results := [.lit (.bool true)], args := [d] }
  | _ => none }
def chooseMayRow : OpenClaim := { program := "ytdpcphkhkhdbnaa", sum := "a827a80e22c9054ace8a0a8c03b666a97506b8d30dc952ecf399a2c1f5bb4e66", func := "fusee/fuseelaw18.ChooseMay", spec := "chooseMay", unfollowed := true, recurses := true, apart := false }
def ChooseMaySaid : Prop := chooseMayRow.holds Try.pinned (OpenSpec.ofChange chooseMaySpec)

/-- ITS FALSE NEIGHBOUR: 'it returns false'. Refute it at one input. -/
def chooseMayWrong : ChangeSpec := { name := "chooseMay", fn := fun _ => fun
  | [d] => { results := [.lit (.bool false)], args := [d] }
  | _ => none }
def ChooseMayWrongFalsely : Prop := chooseMayRow.holds Try.pinned (OpenSpec.ofChange chooseMayWrong)

/-- 'fuseelaw18.ChooseLess': WHATEVER THE INPUT: true; the input reads as it did. -/
def chooseLessSpec : ChangeSpec := { name := "chooseLess", fn := fun _ => fun
  | [d] => { results := [.lit (.bool true)], args := [d] }
  | _ => none }
def chooseLessRow : OpenClaim := { program := "ytdpcphkhkhdbnaa", sum := "a827a80e22c9054ace8a0a8c03b666a97506b8d30dc952ecf399a2c1f5bb4e66", func := "fusee/fuseelaw18.ChooseLess", spec := "chooseLess", unfollowed := true, recurses := true, apart := false }
def ChooseLessSaid : Prop := chooseLessRow.holds Try.pinned (OpenSpec.ofChange chooseLessSpec)

/-- ITS FALSE NEIGHBOUR: 'it returns false'. Refute it at one input. -/
def chooseLessWrong : ChangeSpec := { name := "chooseLess", fn := fun _ => fun
  | [d] => { results := [.lit (.bool false)], args := [d] }
  | _ => none }
def ChooseLessWrongFalsely : Prop := chooseLessRow.holds Try.pinned (OpenSpec.ofChange chooseLessWrong)

/-- 'fuseelaw18.ChooseOnce': WHATEVER THE INPUT: true; the input reads as it did. -/
def chooseOnceSpec : ChangeSpec := { name := "chooseOnce", fn := fun _ => fun
  | [d] => { results := [.lit (.bool true)], args := [d] }
  | _ => none }
def chooseOnceRow : OpenClaim := { program := "ytdpcphkhkhdbnaa", sum := "a827a80e22c9054ace8a0a8c03b666a97506b8d30dc952ecf399a2c1f5bb4e66", func := "fusee/fuseelaw18.ChooseOnce", spec := "chooseOnce", unfollowed := true, recurses := true, apart := false }
def ChooseOnceSaid : Prop := chooseOnceRow.holds Try.pinned (OpenSpec.ofChange chooseOnceSpec)

/-- ITS FALSE NEIGHBOUR: 'it returns false'. Refute it at one input. -/
def chooseOnceWrong : ChangeSpec := { name := "chooseOnce", fn := fun _ => fun
  | [d] => { results := [.lit (.bool false)], args := [d] }
  | _ => none }
def ChooseOnceWrongFalsely : Prop := chooseOnceRow.holds Try.pinned (OpenSpec.ofChange chooseOnceWrong)

/-- 'fuseelaw18.ChooseBands': WHATEVER THE INPUT: true; the input reads as it did. -/
def chooseBandsSpec : ChangeSpec := { name := "chooseBands", fn := fun _ => fun
  | [d] => { results := [.lit (.bool true)], args := [d] }
  | _ => none }
def chooseBandsRow : OpenClaim := { program := "ytdpcphkhkhdbnaa", sum := "a827a80e22c9054ace8a0a8c03b666a97506b8d30dc952ecf399a2c1f5bb4e66", func := "fusee/fuseelaw18.ChooseBands", spec := "chooseBands", unfollowed := true, recurses := true, apart := false }
def ChooseBandsSaid : Prop := chooseBandsRow.holds Try.pinned (OpenSpec.ofChange chooseBandsSpec)

/-- ITS FALSE NEIGHBOUR: 'it returns false'. Refute it at one input. -/
def chooseBandsWrong : ChangeSpec := { name := "chooseBands", fn := fun _ => fun
  | [d] => { results := [.lit (.bool false)], args := [d] }
  | _ => none }
def ChooseBandsWrongFalsely : Prop := chooseBandsRow.holds Try.pinned (OpenSpec.ofChange chooseBandsWrong)

/- THE SECOND FORM. 'bulk': how many values and letters a reading holds, each counted each time it is reached (what is shared counts as often as it is met; a slice's spare places count too). A statement '..UptoSaid' is the law's where the arguments, and the package variables that the reading takes, are together of bulk at most 1048576: NARROWER than '..Said'. Prove '..Said' where nothing that the law and all that it calls make is longer than what came in: it says more and counts as full. Else prove '..UptoSaid'. A law counts once. -/
mutual
def uptoBulk {H : Type} : DataW H → Nat
  | .lit (.string bytes) => bytes.length + 1
  | .lit _ => 1
  | .nil => 1
  | .ptr d => uptoBulk d + 1
  | .slice elems spare => uptoBulkAll elems + uptoBulkAll spare + 1
  | .agg parts => uptoBulkAll parts + 1
  | .iface _ d => uptoBulk d + 1
  | .map entries => uptoBulkEntries entries + 1
  | .held _ => 1
def uptoBulkAll {H : Type} : List (DataW H) → Nat
  | [] => 0
  | d :: r => uptoBulk d + uptoBulkAll r
def uptoBulkEntries {H : Type} : List (Lit × DataW H) → Nat
  | [] => 0
  | x :: r => uptoBulkEntry x + uptoBulkEntries r
def uptoBulkEntry {H : Type} : Lit × DataW H → Nat
  | (.string bytes, d) => bytes.length + uptoBulk d + 1
  | (_, d) => uptoBulk d + 1
 end
def uptoSmall : (H : Type) → List (DataW H) → Bool := fun _ ds => decide (uptoBulkAll ds ≤ 1048576)
def OpenSpec.upto (s : _root_.Go.ChangeSpec) : _root_.Go.OpenSpec := { _root_.Go.OpenSpec.ofChange s with cond := some uptoSmall }

/-- 'fuseelaw17.ReleaseBegins', WHERE WHAT IT READS IS OF BULK AT MOST 1048576: true; the input reads as it did. -/
def releaseBeginsUptoRow : OpenClaim := { program := "ytdpcphkhkhdbnaa", sum := "a827a80e22c9054ace8a0a8c03b666a97506b8d30dc952ecf399a2c1f5bb4e66", func := "fusee/fuseelaw17.ReleaseBegins", spec := "releaseBegins", unfollowed := true, recurses := true, apart := false, narrowed := true }
def ReleaseBeginsUptoSaid : Prop := releaseBeginsUptoRow.holds Try.pinned (OpenSpec.upto releaseBeginsSpec)

/-- 'fuseelaw17.ReleaseSafe', WHERE WHAT IT READS IS OF BULK AT MOST 1048576: true; the input reads as it did. -/
def releaseSafeUptoRow : OpenClaim := { program := "ytdpcphkhkhdbnaa", sum := "a827a80e22c9054ace8a0a8c03b666a97506b8d30dc952ecf399a2c1f5bb4e66", func := "fusee/fuseelaw17.ReleaseSafe", spec := "releaseSafe", unfollowed := true, recurses := true, apart := false, narrowed := true }
def ReleaseSafeUptoSaid : Prop := releaseSafeUptoRow.holds Try.pinned (OpenSpec.upto releaseSafeSpec)

/-- 'fuseelaw17.ReleaseLess', WHERE WHAT IT READS IS OF BULK AT MOST 1048576: true; the input reads as it did. -/
def releaseLessUptoRow : OpenClaim := { program := "ytdpcphkhkhdbnaa", sum := "a827a80e22c9054ace8a0a8c03b666a97506b8d30dc952ecf399a2c1f5bb4e66", func := "fusee/fuseelaw17.ReleaseLess", spec := "releaseLess", unfollowed := true, recurses := true, apart := false, narrowed := true }
def ReleaseLessUptoSaid : Prop := releaseLessUptoRow.holds Try.pinned (OpenSpec.upto releaseLessSpec)

/-- 'fuseelaw17.ReleaseTurned', WHERE WHAT IT READS IS OF BULK AT MOST 1048576: true; the input reads as it did. -/
def releaseTurnedUptoRow : OpenClaim := { program := "ytdpcphkhkhdbnaa", sum := "a827a80e22c9054ace8a0a8c03b666a97506b8d30dc952ecf399a2c1f5bb4e66", func := "fusee/fuseelaw17.ReleaseTurned", spec := "releaseTurned", unfollowed := true, recurses := true, apart := false, narrowed := true }
def ReleaseTurnedUptoSaid : Prop := releaseTurnedUptoRow.holds Try.pinned (OpenSpec.upto releaseTurnedSpec)

/-- 'fuseelaw17.ReleaseEnds', WHERE WHAT IT READS IS OF BULK AT MOST 1048576: true; the input reads as it did. -/
def releaseEndsUptoRow : OpenClaim := { program := "ytdpcphkhkhdbnaa", sum := "a827a80e22c9054ace8a0a8c03b666a97506b8d30dc952ecf399a2c1f5bb4e66", func := "fusee/fuseelaw17.ReleaseEnds", spec := "releaseEnds", unfollowed := true, recurses := true, apart := false, narrowed := true }
def ReleaseEndsUptoSaid : Prop := releaseEndsUptoRow.holds Try.pinned (OpenSpec.upto releaseEndsSpec)

/-- 'fuseelaw18.ChooseMust', WHERE WHAT IT READS IS OF BULK AT MOST 1048576: true; the input reads as it did. -/
def chooseMustUptoRow : OpenClaim := { program := "ytdpcphkhkhdbnaa", sum := "a827a80e22c9054ace8a0a8c03b666a97506b8d30dc952ecf399a2c1f5bb4e66", func := "fusee/fuseelaw18.ChooseMust", spec := "chooseMust", unfollowed := true, recurses := true, apart := false, narrowed := true }
def ChooseMustUptoSaid : Prop := chooseMustUptoRow.holds Try.pinned (OpenSpec.upto chooseMustSpec)

/-- 'fuseelaw18.ChooseMay', WHERE WHAT IT READS IS OF BULK AT MOST 1048576: true; the input reads as it did. -/
def chooseMayUptoRow : OpenClaim := { program := "ytdpcphkhkhdbnaa", sum := "a827a80e22c9054ace8a0a8c03b666a97506b8d30dc952ecf399a2c1f5bb4e66", func := "fusee/fuseelaw18.ChooseMay", spec := "chooseMay", unfollowed := true, recurses := true, apart := false, narrowed := true }
def ChooseMayUptoSaid : Prop := chooseMayUptoRow.holds Try.pinned (OpenSpec.upto chooseMaySpec)

/-- 'fuseelaw18.ChooseLess', WHERE WHAT IT READS IS OF BULK AT MOST 1048576: true; the input reads as it did. -/
def chooseLessUptoRow : OpenClaim := { program := "ytdpcphkhkhdbnaa", sum := "a827a80e22c9054ace8a0a8c03b666a97506b8d30dc952ecf399a2c1f5bb4e66", func := "fusee/fuseelaw18.ChooseLess", spec := "chooseLess", unfollowed := true, recurses := true, apart := false, narrowed := true }
def ChooseLessUptoSaid : Prop := chooseLessUptoRow.holds Try.pinned (OpenSpec.upto chooseLessSpec)

/-- 'fuseelaw18.ChooseOnce', WHERE WHAT IT READS IS OF BULK AT MOST 1048576: true; the input reads as it did. -/
def chooseOnceUptoRow : OpenClaim := { program := "ytdpcphkhkhdbnaa", sum := "a827a80e22c9054ace8a0a8c03b666a97506b8d30dc952ecf399a2c1f5bb4e66", func := "fusee/fuseelaw18.ChooseOnce", spec := "chooseOnce", unfollowed := true, recurses := true, apart := false, narrowed := true }
def ChooseOnceUptoSaid : Prop := chooseOnceUptoRow.holds Try.pinned (OpenSpec.upto chooseOnceSpec)

/-- 'fuseelaw18.ChooseBands', WHERE WHAT IT READS IS OF BULK AT MOST 1048576: true; the input reads as it did. -/
def chooseBandsUptoRow : OpenClaim := { program := "ytdpcphkhkhdbnaa", sum := "a827a80e22c9054ace8a0a8c03b666a97506b8d30dc952ecf399a2c1f5bb4e66", func := "fusee/fuseelaw18.ChooseBands", spec := "chooseBands", unfollowed := true, recurses := true, apart := false, narrowed := true }
def ChooseBandsUptoSaid : Prop := chooseBandsUptoRow.holds Try.pinned (OpenSpec.upto chooseBandsSpec)

end Rows
end Go.Proofs.Ytdpcphkhkhdbnaa
