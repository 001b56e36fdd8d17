/-
  No cell of these rows narrows 'for every input' (looked for: loops, veiled, ifaces, maps, wideKeys, modest, calm, conditions, laid).
  DERIVED. THE GIVEN ROWS OF THIS SEAT. 4 by the template 'for every input the law returns true; each argument reads behind the call as it read before'; 0 by the template 'total and deterministic' (their statements: YtpbenicglhccmaaTotals.lean).
  GIVEN WITH THE SEED: the statements are not yours to turn. If you find one false, say at which input.
  Laid BY PROGRAM, IN A SANDBOX (cutbox-rows.mjs): the forced cells as the released guide's own fill.sh prints them over the translation 0577ec31f91b8413… (all of the seat's roots in one cut). By AI agents, Wed Nov 11 2026. No macro, syntax, notation, axiom, sorry.
-/
import Derived.Test.YtpbenicglhccmaaChecked
import GoSem.Claim
import GoSem.ClaimJoined
import GoSem.ClaimMapViews
import Derived.JoinedTies
import Derived.KernelRfl
namespace Go.Proofs.Ytpbenicglhccmaa
/- THE CELL 'sum', in the pinned program and in every row, IS THE sha256 OF THE DUMP (.gsa) THAT YtpbenicglhccmaaProg.lean LOADS. Nothing in Lean hashes anything: it is a label: what it is worth is what the hold of that sum in a sandbox is worth. -/
noncomputable def Try.pinned : Pinned := { name := "ytpbenicglhccmaa", sum := "0577ec31f91b8413536d7a61a8e8d28f23c36a50b77ebf90e5fd035a6cbfec8c", checked := Try.checked }
namespace Rows
def none {H : Type} : Left H := { results := [], args := [] }

/-- 'terrierlaw14.SiftLimits': WHATEVER THE INPUT: true; the input reads as it did. -/
def siftLimitsSpec : ChangeSpec := { name := "siftLimits", fn := fun _ => fun
  | [d1, d2] => { results := [.lit (.bool true)], args := [d1, d2] }
  | _ => none }
def siftLimitsRow : OpenClaim := { program := "ytpbenicglhccmaa", sum := "0577ec31f91b8413536d7a61a8e8d28f23c36a50b77ebf90e5fd035a6cbfec8c", func := "terrier/terrierlaw14.SiftLimits", spec := "siftLimits", inPlace := ["internal/bytealg.Compare"], unfollowed := true, recurses := true, apart := false }
def SiftLimitsSaid : Prop := siftLimitsRow.holds Try.pinned (OpenSpec.ofChange siftLimitsSpec)

/-- ITS FALSE NEIGHBOUR: 'it returns false'. Refute it at one input. -/
def siftLimitsWrong : ChangeSpec := { name := "siftLimits", fn := fun _ => fun
  | [d1, d2] => { results := [.lit (.bool false)], args := [d1, d2] }
  | _ => none }
def SiftLimitsWrongFalsely : Prop := siftLimitsRow.holds Try.pinned (OpenSpec.ofChange siftLimitsWrong)

/-- 'terrierlaw14.SiftTurns': WHATEVER THE INPUT: true; the input reads as it did. -/
def siftTurnsSpec : ChangeSpec := { name := "siftTurns", fn := fun _ => fun
  | [d1, d2, d3] => { results := [.lit (.bool true)], args := [d1, d2, d3] }
  | _ => none }
def siftTurnsRow : OpenClaim := { program := "ytpbenicglhccmaa", sum := "0577ec31f91b8413536d7a61a8e8d28f23c36a50b77ebf90e5fd035a6cbfec8c", func := "terrier/terrierlaw14.SiftTurns", spec := "siftTurns", inPlace := ["internal/bytealg.Compare"], unfollowed := true, recurses := true, apart := false }
def SiftTurnsSaid : Prop := siftTurnsRow.holds Try.pinned (OpenSpec.ofChange siftTurnsSpec)

/-- ITS FALSE NEIGHBOUR: 'it returns false'. Refute it at one input. -/
def siftTurnsWrong : ChangeSpec := { name := "siftTurns", fn := fun _ => fun
  | [d1, d2, d3] => { results := [.lit (.bool false)], args := [d1, d2, d3] }
  | _ => none }
def SiftTurnsWrongFalsely : Prop := siftTurnsRow.holds Try.pinned (OpenSpec.ofChange siftTurnsWrong)

/-- 'terrierlaw14.SiftSieves': WHATEVER THE INPUT: true; the input reads as it did. -/
def siftSievesSpec : ChangeSpec := { name := "siftSieves", fn := fun _ => fun
  | [d1, d2] => { results := [.lit (.bool true)], args := [d1, d2] }
  | _ => none }
def siftSievesRow : OpenClaim := { program := "ytpbenicglhccmaa", sum := "0577ec31f91b8413536d7a61a8e8d28f23c36a50b77ebf90e5fd035a6cbfec8c", func := "terrier/terrierlaw14.SiftSieves", spec := "siftSieves", inPlace := ["internal/bytealg.Compare"], unfollowed := true, recurses := true, apart := false }
def SiftSievesSaid : Prop := siftSievesRow.holds Try.pinned (OpenSpec.ofChange siftSievesSpec)

/-- ITS FALSE NEIGHBOUR: 'it returns false'. Refute it at one input. -/
def siftSievesWrong : ChangeSpec := { name := "siftSieves", fn := fun _ => fun
  | [d1, d2] => { results := [.lit (.bool false)], args := [d1, d2] }
  | _ => none }
def SiftSievesWrongFalsely : Prop := siftSievesRow.holds Try.pinned (OpenSpec.ofChange siftSievesWrong)

/-- 'terrierlaw14.SiftTwice': WHATEVER THE INPUT: true; the input reads as it did. -/
def siftTwiceSpec : ChangeSpec := { name := "siftTwice", fn := fun _ => fun
  | [d1, d2] => { results := [.lit (.bool true)], args := [d1, d2] }
  | _ => none }
def siftTwiceRow : OpenClaim := { program := "ytpbenicglhccmaa", sum := "0577ec31f91b8413536d7a61a8e8d28f23c36a50b77ebf90e5fd035a6cbfec8c", func := "terrier/terrierlaw14.SiftTwice", spec := "siftTwice", inPlace := ["internal/bytealg.Compare"], unfollowed := true, recurses := true, apart := false }
def SiftTwiceSaid : Prop := siftTwiceRow.holds Try.pinned (OpenSpec.ofChange siftTwiceSpec)

/-- ITS FALSE NEIGHBOUR: 'it returns false'. Refute it at one input. -/
def siftTwiceWrong : ChangeSpec := { name := "siftTwice", fn := fun _ => fun
  | [d1, d2] => { results := [.lit (.bool false)], args := [d1, d2] }
  | _ => none }
def SiftTwiceWrongFalsely : Prop := siftTwiceRow.holds Try.pinned (OpenSpec.ofChange siftTwiceWrong)

/- THE SECOND FORM. 'bulk': how many values and letters a reading holds, each counted each time it is reached (what is shared counts as often as it is met; a slice's spare places count too). A statement '..UptoSaid' is the law's where the arguments, and the package variables that the reading takes, are together of bulk at most 1048576: NARROWER than '..Said'. Prove '..Said' where nothing that the law and all that it calls make is longer than what came in: it says more and counts as full. Else prove '..UptoSaid'. A law counts once. -/
mutual
def uptoBulk {H : Type} : DataW H → Nat
  | .lit (.string bytes) => bytes.length + 1
  | .lit _ => 1
  | .nil => 1
  | .ptr d => uptoBulk d + 1
  | .slice elems spare => uptoBulkAll elems + uptoBulkAll spare + 1
  | .agg parts => uptoBulkAll parts + 1
  | .iface _ d => uptoBulk d + 1
  | .map entries => uptoBulkEntries entries + 1
  | .held _ => 1
def uptoBulkAll {H : Type} : List (DataW H) → Nat
  | [] => 0
  | d :: r => uptoBulk d + uptoBulkAll r
def uptoBulkEntries {H : Type} : List (Lit × DataW H) → Nat
  | [] => 0
  | x :: r => uptoBulkEntry x + uptoBulkEntries r
def uptoBulkEntry {H : Type} : Lit × DataW H → Nat
  | (.string bytes, d) => bytes.length + uptoBulk d + 1
  | (_, d) => uptoBulk d + 1
 end
def uptoSmall : (H : Type) → List (DataW H) → Bool := fun _ ds => decide (uptoBulkAll ds ≤ 1048576)
def OpenSpec.upto (s : _root_.Go.ChangeSpec) : _root_.Go.OpenSpec := { _root_.Go.OpenSpec.ofChange s with cond := some uptoSmall }

/-- 'terrierlaw14.SiftLimits', WHERE WHAT IT READS IS OF BULK AT MOST 1048576: true; the input reads as it did. -/
def siftLimitsUptoRow : OpenClaim := { program := "ytpbenicglhccmaa", sum := "0577ec31f91b8413536d7a61a8e8d28f23c36a50b77ebf90e5fd035a6cbfec8c", func := "terrier/terrierlaw14.SiftLimits", spec := "siftLimits", inPlace := ["internal/bytealg.Compare"], unfollowed := true, recurses := true, apart := false, narrowed := true }
def SiftLimitsUptoSaid : Prop := siftLimitsUptoRow.holds Try.pinned (OpenSpec.upto siftLimitsSpec)

/-- 'terrierlaw14.SiftTurns', WHERE WHAT IT READS IS OF BULK AT MOST 1048576: true; the input reads as it did. -/
def siftTurnsUptoRow : OpenClaim := { program := "ytpbenicglhccmaa", sum := "0577ec31f91b8413536d7a61a8e8d28f23c36a50b77ebf90e5fd035a6cbfec8c", func := "terrier/terrierlaw14.SiftTurns", spec := "siftTurns", inPlace := ["internal/bytealg.Compare"], unfollowed := true, recurses := true, apart := false, narrowed := true }
def SiftTurnsUptoSaid : Prop := siftTurnsUptoRow.holds Try.pinned (OpenSpec.upto siftTurnsSpec)

/-- 'terrierlaw14.SiftSieves', WHERE WHAT IT READS IS OF BULK AT MOST 1048576: true; the input reads as it did. -/
def siftSievesUptoRow : OpenClaim := { program := "ytpbenicglhccmaa", sum := "0577ec31f91b8413536d7a61a8e8d28f23c36a50b77ebf90e5fd035a6cbfec8c", func := "terrier/terrierlaw14.SiftSieves", spec := "siftSieves", inPlace := ["internal/bytealg.Compare"], unfollowed := true, recurses := true, apart := false, narrowed := true }
def SiftSievesUptoSaid : Prop := siftSievesUptoRow.holds Try.pinned (OpenSpec.upto siftSievesSpec)

/-- 'terrierlaw14.SiftTwice', WHERE WHAT IT READS IS OF BULK AT MOST 1048576: true; the input reads as it did. -/
def siftTwiceUptoRow : OpenClaim := { program := "ytpbenicglhccmaa", sum := "0577ec31f91b8413536d7a61a8e8d28f23c36a50b77ebf90e5fd035a6cbfec8c", func := "terrier/terrierlaw14.SiftTwice", spec := "siftTwice", inPlace := ["internal/bytealg.Compare"], unfollowed := true, recurses := true, apart := false, narrowed := true }
def SiftTwiceUptoSaid : Prop := siftTwiceUptoRow.holds Try.pinned (OpenSpec.upto siftTwiceSpec)

end Rows
end Go.Proofs.Ytpbenicglhccmaa
