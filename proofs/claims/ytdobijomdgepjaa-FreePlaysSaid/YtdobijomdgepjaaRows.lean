/-
  No cell of these rows narrows 'for every input' (looked for: loops, veiled, ifaces, maps, wideKeys, modest, calm, conditions, laid).
  DERIVED. THE GIVEN ROWS OF THIS SEAT. 5 by the template 'for every input the law returns true; each argument reads behind the call as it read before'; 0 by the template 'total and deterministic' (their statements: YtdobijomdgepjaaTotals.lean).
  GIVEN WITH THE SEED: the statements are not yours to turn. If you find one false, say at which input.
  Laid BY PROGRAM, IN A SANDBOX (cutbox-rows.mjs): the forced cells as the released guide's own fill.sh prints them over the translation d60ff482327d2b28… (all of the seat's roots in one cut). By AI agents, Wed Nov 11 2026. No macro, syntax, notation, axiom, sorry.
-/
import Derived.Test.YtdobijomdgepjaaChecked
import GoSem.Claim
import GoSem.ClaimJoined
import GoSem.ClaimMapViews
import Derived.JoinedTies
import Derived.KernelRfl
namespace Go.Proofs.Ytdobijomdgepjaa
/- THE CELL 'sum', in the pinned program and in every row, IS THE sha256 OF THE DUMP (.gsa) THAT YtdobijomdgepjaaProg.lean LOADS. Nothing in Lean hashes anything: it is a label: what it is worth is what the hold of that sum in a sandbox is worth. -/
noncomputable def Try.pinned : Pinned := { name := "ytdobijomdgepjaa", sum := "d60ff482327d2b28c3d866e1c5ff71575e743ad83d0ff758a8f644d8e3185eb0", checked := Try.checked }
namespace Rows
def none {H : Type} : Left H := { results := [], args := [] }

/-- 'terrierlaw06.FreeDrains': WHATEVER THE INPUT: true; the input reads as it did. -/
def freeDrainsSpec : ChangeSpec := { name := "freeDrains", fn := fun _ => fun
  | [d] => { results := [.lit (.bool true)], args := [d] }
  | _ => none }
def freeDrainsRow : OpenClaim := { program := "ytdobijomdgepjaa", sum := "d60ff482327d2b28c3d866e1c5ff71575e743ad83d0ff758a8f644d8e3185eb0", func := "terrier/terrierlaw06.FreeDrains", spec := "freeDrains", inPlace := ["slices.overlaps[int]"], apart := false }
def FreeDrainsSaid : Prop := freeDrainsRow.holds Try.pinned (OpenSpec.ofChange freeDrainsSpec)

/-- ITS FALSE NEIGHBOUR: 'it returns false'. Refute it at one input. -/
def freeDrainsWrong : ChangeSpec := { name := "freeDrains", fn := fun _ => fun
  | [d] => { results := [.lit (.bool false)], args := [d] }
  | _ => none }
def FreeDrainsWrongFalsely : Prop := freeDrainsRow.holds Try.pinned (OpenSpec.ofChange freeDrainsWrong)

/-- 'terrierlaw06.FreeOrders': WHATEVER THE INPUT: true; the input reads as it did. -/
def freeOrdersSpec : ChangeSpec := { name := "freeOrders", fn := fun _ => fun
  | [d1, d2] => { results := [.lit (.bool true)], args := [d1, d2] }
  | _ => none }
def freeOrdersRow : OpenClaim := { program := "ytdobijomdgepjaa", sum := "d60ff482327d2b28c3d866e1c5ff71575e743ad83d0ff758a8f644d8e3185eb0", func := "terrier/terrierlaw06.FreeOrders", spec := "freeOrders", inPlace := ["slices.overlaps[int]"], apart := false }
def FreeOrdersSaid : Prop := freeOrdersRow.holds Try.pinned (OpenSpec.ofChange freeOrdersSpec)

/-- ITS FALSE NEIGHBOUR: 'it returns false'. Refute it at one input. -/
def freeOrdersWrong : ChangeSpec := { name := "freeOrders", fn := fun _ => fun
  | [d1, d2] => { results := [.lit (.bool false)], args := [d1, d2] }
  | _ => none }
def FreeOrdersWrongFalsely : Prop := freeOrdersRow.holds Try.pinned (OpenSpec.ofChange freeOrdersWrong)

/-- 'terrierlaw06.FreeOnce': WHATEVER THE INPUT: true; the input reads as it did. -/
def freeOnceSpec : ChangeSpec := { name := "freeOnce", fn := fun _ => fun
  | [d1, d2] => { results := [.lit (.bool true)], args := [d1, d2] }
  | _ => none }
def freeOnceRow : OpenClaim := { program := "ytdobijomdgepjaa", sum := "d60ff482327d2b28c3d866e1c5ff71575e743ad83d0ff758a8f644d8e3185eb0", func := "terrier/terrierlaw06.FreeOnce", spec := "freeOnce", inPlace := ["slices.overlaps[int]"], recurses := true, apart := false }
def FreeOnceSaid : Prop := freeOnceRow.holds Try.pinned (OpenSpec.ofChange freeOnceSpec)

/-- ITS FALSE NEIGHBOUR: 'it returns false'. Refute it at one input. -/
def freeOnceWrong : ChangeSpec := { name := "freeOnce", fn := fun _ => fun
  | [d1, d2] => { results := [.lit (.bool false)], args := [d1, d2] }
  | _ => none }
def FreeOnceWrongFalsely : Prop := freeOnceRow.holds Try.pinned (OpenSpec.ofChange freeOnceWrong)

/-- 'terrierlaw06.FreePlays': WHATEVER THE INPUT: true; the input reads as it did. -/
def freePlaysSpec : ChangeSpec := { name := "freePlays", fn := fun _ => fun
  | [d1, d2, d3] => { results := [.lit (.bool true)], args := [d1, d2, d3] }
  | _ => none }
def freePlaysRow : OpenClaim := { program := "ytdobijomdgepjaa", sum := "d60ff482327d2b28c3d866e1c5ff71575e743ad83d0ff758a8f644d8e3185eb0", func := "terrier/terrierlaw06.FreePlays", spec := "freePlays", inPlace := ["slices.overlaps[int]"], recurses := true, apart := false }
def FreePlaysSaid : Prop := freePlaysRow.holds Try.pinned (OpenSpec.ofChange freePlaysSpec)

/-- ITS FALSE NEIGHBOUR: 'it returns false'. Refute it at one input. -/
def freePlaysWrong : ChangeSpec := { name := "freePlays", fn := fun _ => fun
  | [d1, d2, d3] => { results := [.lit (.bool false)], args := [d1, d2, d3] }
  | _ => none }
def FreePlaysWrongFalsely : Prop := freePlaysRow.holds Try.pinned (OpenSpec.ofChange freePlaysWrong)

/-- 'terrierlaw06.FreeCopies': WHATEVER THE INPUT: true; the input reads as it did. -/
def freeCopiesSpec : ChangeSpec := { name := "freeCopies", fn := fun _ => fun
  | [d1, d2, d3] => { results := [.lit (.bool true)], args := [d1, d2, d3] }
  | _ => none }
def freeCopiesRow : OpenClaim := { program := "ytdobijomdgepjaa", sum := "d60ff482327d2b28c3d866e1c5ff71575e743ad83d0ff758a8f644d8e3185eb0", func := "terrier/terrierlaw06.FreeCopies", spec := "freeCopies", inPlace := ["slices.overlaps[int]"], recurses := true, apart := false }
def FreeCopiesSaid : Prop := freeCopiesRow.holds Try.pinned (OpenSpec.ofChange freeCopiesSpec)

/-- ITS FALSE NEIGHBOUR: 'it returns false'. Refute it at one input. -/
def freeCopiesWrong : ChangeSpec := { name := "freeCopies", fn := fun _ => fun
  | [d1, d2, d3] => { results := [.lit (.bool false)], args := [d1, d2, d3] }
  | _ => none }
def FreeCopiesWrongFalsely : Prop := freeCopiesRow.holds Try.pinned (OpenSpec.ofChange freeCopiesWrong)

/- THE SECOND FORM. 'bulk': how many values and letters a reading holds, each counted each time it is reached (what is shared counts as often as it is met; a slice's spare places count too). A statement '..UptoSaid' is the law's where the arguments, and the package variables that the reading takes, are together of bulk at most 1048576: NARROWER than '..Said'. Prove '..Said' where nothing that the law and all that it calls make is longer than what came in: it says more and counts as full. Else prove '..UptoSaid'. A law counts once. -/
mutual
def uptoBulk {H : Type} : DataW H → Nat
  | .lit (.string bytes) => bytes.length + 1
  | .lit _ => 1
  | .nil => 1
  | .ptr d => uptoBulk d + 1
  | .slice elems spare => uptoBulkAll elems + uptoBulkAll spare + 1
  | .agg parts => uptoBulkAll parts + 1
  | .iface _ d => uptoBulk d + 1
  | .map entries => uptoBulkEntries entries + 1
  | .held _ => 1
def uptoBulkAll {H : Type} : List (DataW H) → Nat
  | [] => 0
  | d :: r => uptoBulk d + uptoBulkAll r
def uptoBulkEntries {H : Type} : List (Lit × DataW H) → Nat
  | [] => 0
  | x :: r => uptoBulkEntry x + uptoBulkEntries r
def uptoBulkEntry {H : Type} : Lit × DataW H → Nat
  | (.string bytes, d) => bytes.length + uptoBulk d + 1
  | (_, d) => uptoBulk d + 1
 end
def uptoSmall : (H : Type) → List (DataW H) → Bool := fun _ ds => decide (uptoBulkAll ds ≤ 1048576)
def OpenSpec.upto (s : _root_.Go.ChangeSpec) : _root_.Go.OpenSpec := { _root_.Go.OpenSpec.ofChange s with cond := some uptoSmall }

/-- 'terrierlaw06.FreeDrains', WHERE WHAT IT READS IS OF BULK AT MOST 1048576: true; the input reads as it did. -/
def freeDrainsUptoRow : OpenClaim := { program := "ytdobijomdgepjaa", sum := "d60ff482327d2b28c3d866e1c5ff71575e743ad83d0ff758a8f644d8e3185eb0", func := "terrier/terrierlaw06.FreeDrains", spec := "freeDrains", inPlace := ["slices.overlaps[int]"], apart := false, narrowed := true }
def FreeDrainsUptoSaid : Prop := freeDrainsUptoRow.holds Try.pinned (OpenSpec.upto freeDrainsSpec)

/-- 'terrierlaw06.FreeOrders', WHERE WHAT IT READS IS OF BULK AT MOST 1048576: true; the input reads as it did. -/
def freeOrdersUptoRow : OpenClaim := { program := "ytdobijomdgepjaa", sum := "d60ff482327d2b28c3d866e1c5ff71575e743ad83d0ff758a8f644d8e3185eb0", func := "terrier/terrierlaw06.FreeOrders", spec := "freeOrders", inPlace := ["slices.overlaps[int]"], apart := false, narrowed := true }
def FreeOrdersUptoSaid : Prop := freeOrdersUptoRow.holds Try.pinned (OpenSpec.upto freeOrdersSpec)

/-- 'terrierlaw06.FreeOnce', WHERE WHAT IT READS IS OF BULK AT MOST 1048576: true; the input reads as it did. -/
def freeOnceUptoRow : OpenClaim := { program := "ytdobijomdgepjaa", sum := "d60ff482327d2b28c3d866e1c5ff71575e743ad83d0ff758a8f644d8e3185eb0", func := "terrier/terrierlaw06.FreeOnce", spec := "freeOnce", inPlace := ["slices.overlaps[int]"], recurses := true, apart := false, narrowed := true }
def FreeOnceUptoSaid : Prop := freeOnceUptoRow.holds Try.pinned (OpenSpec.upto freeOnceSpec)

/-- 'terrierlaw06.FreePlays', WHERE WHAT IT READS IS OF BULK AT MOST 1048576: true; the input reads as it did. -/
def freePlaysUptoRow : OpenClaim := { program := "ytdobijomdgepjaa", sum := "d60ff482327d2b28c3d866e1c5ff71575e743ad83d0ff758a8f644d8e3185eb0", func := "terrier/terrierlaw06.FreePlays", spec := "freePlays", inPlace := ["slices.overlaps[int]"], recurses := true, apart := false, narrowed := true }
def FreePlaysUptoSaid : Prop := freePlaysUptoRow.holds Try.pinned (OpenSpec.upto freePlaysSpec)

/-- 'terrierlaw06.FreeCopies', WHERE WHAT IT READS IS OF BULK AT MOST 1048576: true; the input reads as it did. -/
def freeCopiesUptoRow : OpenClaim := { program := "ytdobijomdgepjaa", sum := "d60ff482327d2b28c3d866e1c5ff71575e743ad83d0ff758a8f644d8e3185eb0", func := "terrier/terrierlaw06.FreeCopies", spec := "freeCopies", inPlace := ["slices.overlaps[int]"], recurses := true, apart := false, narrowed := true }
def FreeCopiesUptoSaid : Prop := freeCopiesUptoRow.holds Try.pinned (OpenSpec.upto freeCopiesSpec)

end Rows
end Go.Proofs.Ytdobijomdgepjaa
