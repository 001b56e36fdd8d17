/-
  No cell of these rows narrows 'for every input' (looked for: loops, veiled, ifaces, maps, wideKeys, modest, calm, conditions, laid).
  DERIVED. THE GIVEN ROWS OF THIS SEAT. 4 by the template 'for every input the law returns true; each argument reads behind the call as it read before'; 0 by the template 'total and deterministic' (their statements: YtidpiojanajpoaaTotals.lean).
  GIVEN WITH THE SEED: the statements are not yours to turn. If you find one false, say at which input.
  Laid BY PROGRAM, IN A SANDBOX (cutbox-rows.mjs): the forced cells as the released guide's own fill.sh prints them over the translation b53be85dfdb1f570… (all of the seat's roots in one cut). By AI agents, Wed Nov 11 2026. No macro, syntax, notation, axiom, sorry.
-/
import Derived.Test.YtidpiojanajpoaaChecked
import GoSem.Claim
import GoSem.ClaimJoined
import GoSem.ClaimMapViews
import Derived.JoinedTies
import Derived.KernelRfl
namespace Go.Proofs.Ytidpiojanajpoaa
/- THE CELL 'sum', in the pinned program and in every row, IS THE sha256 OF THE DUMP (.gsa) THAT YtidpiojanajpoaaProg.lean LOADS. Nothing in Lean hashes anything: it is a label: what it is worth is what the hold of that sum in a sandbox is worth. -/
noncomputable def Try.pinned : Pinned := { name := "ytidpiojanajpoaa", sum := "b53be85dfdb1f570303d6b55d8e8a140e3502d09f71278abac19cd4682457e58", checked := Try.checked }
namespace Rows
def none {H : Type} : Left H := { results := [], args := [] }

/-- 'terrierlaw18.WatchApart': WHATEVER THE INPUT: true; the input reads as it did. -/
def watchApartSpec : ChangeSpec := { name := "watchApart", fn := fun _ => fun
  | [d1, d2, d3, d4, d5, d6] => { results := [.lit (.bool true)], args := [d1, d2, d3, d4, d5, d6] }
  | _ => none }
def watchApartRow : OpenClaim := { program := "ytidpiojanajpoaa", sum := "b53be85dfdb1f570303d6b55d8e8a140e3502d09f71278abac19cd4682457e58", func := "terrier/terrierlaw18.WatchApart", spec := "watchApart", inPlace := ["sync/atomic.LoadUint32", "(*internal/sync.Mutex).Lock", "internal/race.Disable", "sync/atomic.CompareAndSwapInt32", "internal/race.Enable", "internal/race.Acquire", "(*internal/sync.Mutex).lockSlow", "internal/sync.runtime_canSpin", "internal/sync.runtime_doSpin", "internal/sync.throw", "internal/sync.runtime_nanotime", "internal/sync.runtime_SemacquireMutex", "sync/atomic.AddInt32", "(*internal/sync.Mutex).Unlock", "internal/race.ReleaseMerge", "(*internal/sync.Mutex).unlockSlow", "internal/sync.fatal", "internal/sync.runtime_Semrelease", "sync/atomic.StoreUint32", "sync/atomic.AddInt64", "internal/bytealg.Compare"], unfollowed := true, recurses := true, apart := false }
def WatchApartSaid : Prop := watchApartRow.holds Try.pinned (OpenSpec.ofChange watchApartSpec)

/-- ITS FALSE NEIGHBOUR: 'it returns false'. Refute it at one input. -/
def watchApartWrong : ChangeSpec := { name := "watchApart", fn := fun _ => fun
  | [d1, d2, d3, d4, d5, d6] => { results := [.lit (.bool false)], args := [d1, d2, d3, d4, d5, d6] }
  | _ => none }
def WatchApartWrongFalsely : Prop := watchApartRow.holds Try.pinned (OpenSpec.ofChange watchApartWrong)

/-- 'terrierlaw18.WatchLate': WHATEVER THE INPUT: true; the input reads as it did. -/
def watchLateSpec : ChangeSpec := { name := "watchLate", fn := fun _ => fun
  | [d1, d2, d3, d4, d5] => { results := [.lit (.bool true)], args := [d1, d2, d3, d4, d5] }
  | _ => none }
def watchLateRow : OpenClaim := { program := "ytidpiojanajpoaa", sum := "b53be85dfdb1f570303d6b55d8e8a140e3502d09f71278abac19cd4682457e58", func := "terrier/terrierlaw18.WatchLate", spec := "watchLate", inPlace := ["sync/atomic.LoadUint32", "(*internal/sync.Mutex).Lock", "internal/race.Disable", "sync/atomic.CompareAndSwapInt32", "internal/race.Enable", "internal/race.Acquire", "(*internal/sync.Mutex).lockSlow", "internal/sync.runtime_canSpin", "internal/sync.runtime_doSpin", "internal/sync.throw", "internal/sync.runtime_nanotime", "internal/sync.runtime_SemacquireMutex", "sync/atomic.AddInt32", "(*internal/sync.Mutex).Unlock", "internal/race.ReleaseMerge", "(*internal/sync.Mutex).unlockSlow", "internal/sync.fatal", "internal/sync.runtime_Semrelease", "sync/atomic.StoreUint32", "sync/atomic.AddInt64", "internal/bytealg.Compare"], unfollowed := true, recurses := true, apart := false }
def WatchLateSaid : Prop := watchLateRow.holds Try.pinned (OpenSpec.ofChange watchLateSpec)

/-- ITS FALSE NEIGHBOUR: 'it returns false'. Refute it at one input. -/
def watchLateWrong : ChangeSpec := { name := "watchLate", fn := fun _ => fun
  | [d1, d2, d3, d4, d5] => { results := [.lit (.bool false)], args := [d1, d2, d3, d4, d5] }
  | _ => none }
def WatchLateWrongFalsely : Prop := watchLateRow.holds Try.pinned (OpenSpec.ofChange watchLateWrong)

/-- 'terrierlaw18.WatchTells': WHATEVER THE INPUT: true; the input reads as it did. -/
def watchTellsSpec : ChangeSpec := { name := "watchTells", fn := fun _ => fun
  | [d1, d2, d3, d4, d5] => { results := [.lit (.bool true)], args := [d1, d2, d3, d4, d5] }
  | _ => none }
def watchTellsRow : OpenClaim := { program := "ytidpiojanajpoaa", sum := "b53be85dfdb1f570303d6b55d8e8a140e3502d09f71278abac19cd4682457e58", func := "terrier/terrierlaw18.WatchTells", spec := "watchTells", inPlace := ["sync/atomic.LoadUint32", "(*internal/sync.Mutex).Lock", "internal/race.Disable", "sync/atomic.CompareAndSwapInt32", "internal/race.Enable", "internal/race.Acquire", "(*internal/sync.Mutex).lockSlow", "internal/sync.runtime_canSpin", "internal/sync.runtime_doSpin", "internal/sync.throw", "internal/sync.runtime_nanotime", "internal/sync.runtime_SemacquireMutex", "sync/atomic.AddInt32", "(*internal/sync.Mutex).Unlock", "internal/race.ReleaseMerge", "(*internal/sync.Mutex).unlockSlow", "internal/sync.fatal", "internal/sync.runtime_Semrelease", "sync/atomic.StoreUint32", "sync/atomic.AddInt64", "internal/bytealg.Compare"], unfollowed := true, recurses := true, apart := false }
def WatchTellsSaid : Prop := watchTellsRow.holds Try.pinned (OpenSpec.ofChange watchTellsSpec)

/-- ITS FALSE NEIGHBOUR: 'it returns false'. Refute it at one input. -/
def watchTellsWrong : ChangeSpec := { name := "watchTells", fn := fun _ => fun
  | [d1, d2, d3, d4, d5] => { results := [.lit (.bool false)], args := [d1, d2, d3, d4, d5] }
  | _ => none }
def WatchTellsWrongFalsely : Prop := watchTellsRow.holds Try.pinned (OpenSpec.ofChange watchTellsWrong)

/-- 'terrierlaw18.WatchCancels': WHATEVER THE INPUT: true; the input reads as it did. -/
def watchCancelsSpec : ChangeSpec := { name := "watchCancels", fn := fun _ => fun
  | [d1, d2, d3, d4] => { results := [.lit (.bool true)], args := [d1, d2, d3, d4] }
  | _ => none }
def watchCancelsRow : OpenClaim := { program := "ytidpiojanajpoaa", sum := "b53be85dfdb1f570303d6b55d8e8a140e3502d09f71278abac19cd4682457e58", func := "terrier/terrierlaw18.WatchCancels", spec := "watchCancels", inPlace := ["sync/atomic.LoadUint32", "(*internal/sync.Mutex).Lock", "internal/race.Disable", "sync/atomic.CompareAndSwapInt32", "internal/race.Enable", "internal/race.Acquire", "(*internal/sync.Mutex).lockSlow", "internal/sync.runtime_canSpin", "internal/sync.runtime_doSpin", "internal/sync.throw", "internal/sync.runtime_nanotime", "internal/sync.runtime_SemacquireMutex", "sync/atomic.AddInt32", "(*internal/sync.Mutex).Unlock", "internal/race.ReleaseMerge", "(*internal/sync.Mutex).unlockSlow", "internal/sync.fatal", "internal/sync.runtime_Semrelease", "sync/atomic.StoreUint32", "sync/atomic.AddInt64", "internal/bytealg.Compare"], unfollowed := true, recurses := true, apart := false }
def WatchCancelsSaid : Prop := watchCancelsRow.holds Try.pinned (OpenSpec.ofChange watchCancelsSpec)

/-- ITS FALSE NEIGHBOUR: 'it returns false'. Refute it at one input. -/
def watchCancelsWrong : ChangeSpec := { name := "watchCancels", fn := fun _ => fun
  | [d1, d2, d3, d4] => { results := [.lit (.bool false)], args := [d1, d2, d3, d4] }
  | _ => none }
def WatchCancelsWrongFalsely : Prop := watchCancelsRow.holds Try.pinned (OpenSpec.ofChange watchCancelsWrong)

/- THE SECOND FORM. 'bulk': how many values and letters a reading holds, each counted each time it is reached (what is shared counts as often as it is met; a slice's spare places count too). A statement '..UptoSaid' is the law's where the arguments, and the package variables that the reading takes, are together of bulk at most 1048576: NARROWER than '..Said'. Prove '..Said' where nothing that the law and all that it calls make is longer than what came in: it says more and counts as full. Else prove '..UptoSaid'. A law counts once. -/
mutual
def uptoBulk {H : Type} : DataW H → Nat
  | .lit (.string bytes) => bytes.length + 1
  | .lit _ => 1
  | .nil => 1
  | .ptr d => uptoBulk d + 1
  | .slice elems spare => uptoBulkAll elems + uptoBulkAll spare + 1
  | .agg parts => uptoBulkAll parts + 1
  | .iface _ d => uptoBulk d + 1
  | .map entries => uptoBulkEntries entries + 1
  | .held _ => 1
def uptoBulkAll {H : Type} : List (DataW H) → Nat
  | [] => 0
  | d :: r => uptoBulk d + uptoBulkAll r
def uptoBulkEntries {H : Type} : List (Lit × DataW H) → Nat
  | [] => 0
  | x :: r => uptoBulkEntry x + uptoBulkEntries r
def uptoBulkEntry {H : Type} : Lit × DataW H → Nat
  | (.string bytes, d) => bytes.length + uptoBulk d + 1
  | (_, d) => uptoBulk d + 1
 end
def uptoSmall : (H : Type) → List (DataW H) → Bool := fun _ ds => decide (uptoBulkAll ds ≤ 1048576)
def OpenSpec.upto (s : _root_.Go.ChangeSpec) : _root_.Go.OpenSpec := { _root_.Go.OpenSpec.ofChange s with cond := some uptoSmall }

/-- 'terrierlaw18.WatchApart', WHERE WHAT IT READS IS OF BULK AT MOST 1048576: true; the input reads as it did. -/
def watchApartUptoRow : OpenClaim := { program := "ytidpiojanajpoaa", sum := "b53be85dfdb1f570303d6b55d8e8a140e3502d09f71278abac19cd4682457e58", func := "terrier/terrierlaw18.WatchApart", spec := "watchApart", inPlace := ["sync/atomic.LoadUint32", "(*internal/sync.Mutex).Lock", "internal/race.Disable", "sync/atomic.CompareAndSwapInt32", "internal/race.Enable", "internal/race.Acquire", "(*internal/sync.Mutex).lockSlow", "internal/sync.runtime_canSpin", "internal/sync.runtime_doSpin", "internal/sync.throw", "internal/sync.runtime_nanotime", "internal/sync.runtime_SemacquireMutex", "sync/atomic.AddInt32", "(*internal/sync.Mutex).Unlock", "internal/race.ReleaseMerge", "(*internal/sync.Mutex).unlockSlow", "internal/sync.fatal", "internal/sync.runtime_Semrelease", "sync/atomic.StoreUint32", "sync/atomic.AddInt64", "internal/bytealg.Compare"], unfollowed := true, recurses := true, apart := false, narrowed := true }
def WatchApartUptoSaid : Prop := watchApartUptoRow.holds Try.pinned (OpenSpec.upto watchApartSpec)

/-- 'terrierlaw18.WatchLate', WHERE WHAT IT READS IS OF BULK AT MOST 1048576: true; the input reads as it did. -/
def watchLateUptoRow : OpenClaim := { program := "ytidpiojanajpoaa", sum := "b53be85dfdb1f570303d6b55d8e8a140e3502d09f71278abac19cd4682457e58", func := "terrier/terrierlaw18.WatchLate", spec := "watchLate", inPlace := ["sync/atomic.LoadUint32", "(*internal/sync.Mutex).Lock", "internal/race.Disable", "sync/atomic.CompareAndSwapInt32", "internal/race.Enable", "internal/race.Acquire", "(*internal/sync.Mutex).lockSlow", "internal/sync.runtime_canSpin", "internal/sync.runtime_doSpin", "internal/sync.throw", "internal/sync.runtime_nanotime", "internal/sync.runtime_SemacquireMutex", "sync/atomic.AddInt32", "(*internal/sync.Mutex).Unlock", "internal/race.ReleaseMerge", "(*internal/sync.Mutex).unlockSlow", "internal/sync.fatal", "internal/sync.runtime_Semrelease", "sync/atomic.StoreUint32", "sync/atomic.AddInt64", "internal/bytealg.Compare"], unfollowed := true, recurses := true, apart := false, narrowed := true }
def WatchLateUptoSaid : Prop := watchLateUptoRow.holds Try.pinned (OpenSpec.upto watchLateSpec)

/-- 'terrierlaw18.WatchTells', WHERE WHAT IT READS IS OF BULK AT MOST 1048576: true; the input reads as it did. -/
def watchTellsUptoRow : OpenClaim := { program := "ytidpiojanajpoaa", sum := "b53be85dfdb1f570303d6b55d8e8a140e3502d09f71278abac19cd4682457e58", func := "terrier/terrierlaw18.WatchTells", spec := "watchTells", inPlace := ["sync/atomic.LoadUint32", "(*internal/sync.Mutex).Lock", "internal/race.Disable", "sync/atomic.CompareAndSwapInt32", "internal/race.Enable", "internal/race.Acquire", "(*internal/sync.Mutex).lockSlow", "internal/sync.runtime_canSpin", "internal/sync.runtime_doSpin", "internal/sync.throw", "internal/sync.runtime_nanotime", "internal/sync.runtime_SemacquireMutex", "sync/atomic.AddInt32", "(*internal/sync.Mutex).Unlock", "internal/race.ReleaseMerge", "(*internal/sync.Mutex).unlockSlow", "internal/sync.fatal", "internal/sync.runtime_Semrelease", "sync/atomic.StoreUint32", "sync/atomic.AddInt64", "internal/bytealg.Compare"], unfollowed := true, recurses := true, apart := false, narrowed := true }
def WatchTellsUptoSaid : Prop := watchTellsUptoRow.holds Try.pinned (OpenSpec.upto watchTellsSpec)

/-- 'terrierlaw18.WatchCancels', WHERE WHAT IT READS IS OF BULK AT MOST 1048576: true; the input reads as it did. -/
def watchCancelsUptoRow : OpenClaim := { program := "ytidpiojanajpoaa", sum := "b53be85dfdb1f570303d6b55d8e8a140e3502d09f71278abac19cd4682457e58", func := "terrier/terrierlaw18.WatchCancels", spec := "watchCancels", inPlace := ["sync/atomic.LoadUint32", "(*internal/sync.Mutex).Lock", "internal/race.Disable", "sync/atomic.CompareAndSwapInt32", "internal/race.Enable", "internal/race.Acquire", "(*internal/sync.Mutex).lockSlow", "internal/sync.runtime_canSpin", "internal/sync.runtime_doSpin", "internal/sync.throw", "internal/sync.runtime_nanotime", "internal/sync.runtime_SemacquireMutex", "sync/atomic.AddInt32", "(*internal/sync.Mutex).Unlock", "internal/race.ReleaseMerge", "(*internal/sync.Mutex).unlockSlow", "internal/sync.fatal", "internal/sync.runtime_Semrelease", "sync/atomic.StoreUint32", "sync/atomic.AddInt64", "internal/bytealg.Compare"], unfollowed := true, recurses := true, apart := false, narrowed := true }
def WatchCancelsUptoSaid : Prop := watchCancelsUptoRow.holds Try.pinned (OpenSpec.upto watchCancelsSpec)

end Rows
end Go.Proofs.Ytidpiojanajpoaa
