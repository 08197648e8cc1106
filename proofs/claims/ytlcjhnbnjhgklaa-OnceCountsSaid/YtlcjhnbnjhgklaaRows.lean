/-
  No cell of these rows narrows 'for every input' (looked for: loops, veiled, ifaces, maps, wideKeys, modest, calm, conditions, laid).
  DERIVED. THE GIVEN ROWS OF THIS SEAT. 6 by the template 'for every input the law returns true; each argument reads behind the call as it read before'; 0 by the template 'total and deterministic' (their statements: YtlcjhnbnjhgklaaTotals.lean).
  GIVEN WITH THE SEED: the statements are not yours to turn. If you find one false, say at which input.
  Laid BY PROGRAM, IN A SANDBOX (cutbox-rows.mjs): the forced cells as the released guide's own fill.sh prints them over the translation c93b218af8086111… (all of the seat's roots in one cut). By AI agents, Wed Nov 11 2026. No macro, syntax, notation, axiom, sorry.
-/
import Derived.Test.YtlcjhnbnjhgklaaChecked
import GoSem.Claim
import GoSem.ClaimJoined
import GoSem.ClaimMapViews
import Derived.JoinedTies
import Derived.KernelRfl
namespace Go.Proofs.Ytlcjhnbnjhgklaa
/- THE CELL 'sum', in the pinned program and in every row, IS THE sha256 OF THE DUMP (.gsa) THAT YtlcjhnbnjhgklaaProg.lean LOADS. Nothing in Lean hashes anything: it is a label: what it is worth is what the hold of that sum in a sandbox is worth. -/
noncomputable def Try.pinned : Pinned := { name := "ytlcjhnbnjhgklaa", sum := "c93b218af808611121bdbae7139fbc180343ef451f143d2916bbe7a94356c2c6", checked := Try.checked }
namespace Rows
def none {H : Type} : Left H := { results := [], args := [] }

/-- 'rootstocklaw3.OnceMakes': WHATEVER THE INPUT: true; the input reads as it did. -/
def onceMakesSpec : ChangeSpec := { name := "onceMakes", fn := fun _ => fun
  | [d1, d2] => { results := [.lit (.bool true)], args := [d1, d2] }
  | _ => none }
def onceMakesRow : OpenClaim := { program := "ytlcjhnbnjhgklaa", sum := "c93b218af808611121bdbae7139fbc180343ef451f143d2916bbe7a94356c2c6", func := "rootstock/rootstocklaw3.OnceMakes", spec := "onceMakes", inPlace := ["sync/atomic.StoreUint32", "sync/atomic.LoadUint32", "(*internal/sync.Mutex).Lock", "internal/race.Disable", "sync/atomic.CompareAndSwapInt32", "internal/race.Enable", "internal/race.Acquire", "(*internal/sync.Mutex).lockSlow", "internal/sync.runtime_canSpin", "internal/sync.runtime_doSpin", "internal/sync.throw", "internal/sync.runtime_nanotime", "internal/sync.runtime_SemacquireMutex", "sync/atomic.AddInt32", "(*internal/sync.Mutex).Unlock", "internal/race.ReleaseMerge", "(*internal/sync.Mutex).unlockSlow", "internal/sync.fatal", "internal/sync.runtime_Semrelease", "sync/atomic.AddInt64", "sync/atomic.LoadInt64"], unfollowed := true, recurses := true, apart := false }
def OnceMakesSaid : Prop := onceMakesRow.holds Try.pinned (OpenSpec.ofChange onceMakesSpec)

/-- ITS FALSE NEIGHBOUR: 'it returns false'. Refute it at one input. -/
def onceMakesWrong : ChangeSpec := { name := "onceMakes", fn := fun _ => fun
  | [d1, d2] => { results := [.lit (.bool false)], args := [d1, d2] }
  | _ => none }
def OnceMakesWrongFalsely : Prop := onceMakesRow.holds Try.pinned (OpenSpec.ofChange onceMakesWrong)

/-- 'rootstocklaw3.OnceWithin': WHATEVER THE INPUT: true; the input reads as it did. -/
def onceWithinSpec : ChangeSpec := { name := "onceWithin", fn := fun _ => fun
  | [d1, d2, d3] => { results := [.lit (.bool true)], args := [d1, d2, d3] }
  | _ => none }
def onceWithinRow : OpenClaim := { program := "ytlcjhnbnjhgklaa", sum := "c93b218af808611121bdbae7139fbc180343ef451f143d2916bbe7a94356c2c6", func := "rootstock/rootstocklaw3.OnceWithin", spec := "onceWithin", inPlace := ["sync/atomic.StoreUint32", "sync/atomic.LoadUint32", "(*internal/sync.Mutex).Lock", "internal/race.Disable", "sync/atomic.CompareAndSwapInt32", "internal/race.Enable", "internal/race.Acquire", "(*internal/sync.Mutex).lockSlow", "internal/sync.runtime_canSpin", "internal/sync.runtime_doSpin", "internal/sync.throw", "internal/sync.runtime_nanotime", "internal/sync.runtime_SemacquireMutex", "sync/atomic.AddInt32", "(*internal/sync.Mutex).Unlock", "internal/race.ReleaseMerge", "(*internal/sync.Mutex).unlockSlow", "internal/sync.fatal", "internal/sync.runtime_Semrelease", "sync/atomic.AddInt64", "sync/atomic.LoadInt64"], unfollowed := true, recurses := true, apart := false }
def OnceWithinSaid : Prop := onceWithinRow.holds Try.pinned (OpenSpec.ofChange onceWithinSpec)

/-- ITS FALSE NEIGHBOUR: 'it returns false'. Refute it at one input. -/
def onceWithinWrong : ChangeSpec := { name := "onceWithin", fn := fun _ => fun
  | [d1, d2, d3] => { results := [.lit (.bool false)], args := [d1, d2, d3] }
  | _ => none }
def OnceWithinWrongFalsely : Prop := onceWithinRow.holds Try.pinned (OpenSpec.ofChange onceWithinWrong)

/-- 'rootstocklaw3.OnceChain': WHATEVER THE INPUT: true; the input reads as it did. -/
def onceChainSpec : ChangeSpec := { name := "onceChain", fn := fun _ => fun
  | [d] => { results := [.lit (.bool true)], args := [d] }
  | _ => none }
def onceChainRow : OpenClaim := { program := "ytlcjhnbnjhgklaa", sum := "c93b218af808611121bdbae7139fbc180343ef451f143d2916bbe7a94356c2c6", func := "rootstock/rootstocklaw3.OnceChain", spec := "onceChain", inPlace := ["sync/atomic.StoreUint32", "sync/atomic.LoadUint32", "(*internal/sync.Mutex).Lock", "internal/race.Disable", "sync/atomic.CompareAndSwapInt32", "internal/race.Enable", "internal/race.Acquire", "(*internal/sync.Mutex).lockSlow", "internal/sync.runtime_canSpin", "internal/sync.runtime_doSpin", "internal/sync.throw", "internal/sync.runtime_nanotime", "internal/sync.runtime_SemacquireMutex", "sync/atomic.AddInt32", "(*internal/sync.Mutex).Unlock", "internal/race.ReleaseMerge", "(*internal/sync.Mutex).unlockSlow", "internal/sync.fatal", "internal/sync.runtime_Semrelease", "sync/atomic.AddInt64", "sync/atomic.LoadInt64"], unfollowed := true, recurses := true, apart := false }
def OnceChainSaid : Prop := onceChainRow.holds Try.pinned (OpenSpec.ofChange onceChainSpec)

/-- ITS FALSE NEIGHBOUR: 'it returns false'. Refute it at one input. -/
def onceChainWrong : ChangeSpec := { name := "onceChain", fn := fun _ => fun
  | [d] => { results := [.lit (.bool false)], args := [d] }
  | _ => none }
def OnceChainWrongFalsely : Prop := onceChainRow.holds Try.pinned (OpenSpec.ofChange onceChainWrong)

/-- 'rootstocklaw3.OnceTakes': WHATEVER THE INPUT: true; the input reads as it did. -/
def onceTakesSpec : ChangeSpec := { name := "onceTakes", fn := fun _ => fun
  | [d1, d2, d3] => { results := [.lit (.bool true)], args := [d1, d2, d3] }
  | _ => none }
def onceTakesRow : OpenClaim := { program := "ytlcjhnbnjhgklaa", sum := "c93b218af808611121bdbae7139fbc180343ef451f143d2916bbe7a94356c2c6", func := "rootstock/rootstocklaw3.OnceTakes", spec := "onceTakes", inPlace := ["sync/atomic.StoreUint32", "sync/atomic.LoadUint32", "(*internal/sync.Mutex).Lock", "internal/race.Disable", "sync/atomic.CompareAndSwapInt32", "internal/race.Enable", "internal/race.Acquire", "(*internal/sync.Mutex).lockSlow", "internal/sync.runtime_canSpin", "internal/sync.runtime_doSpin", "internal/sync.throw", "internal/sync.runtime_nanotime", "internal/sync.runtime_SemacquireMutex", "sync/atomic.AddInt32", "(*internal/sync.Mutex).Unlock", "internal/race.ReleaseMerge", "(*internal/sync.Mutex).unlockSlow", "internal/sync.fatal", "internal/sync.runtime_Semrelease", "sync/atomic.AddInt64", "sync/atomic.LoadInt64", "sync/atomic.CompareAndSwapInt64"], unfollowed := true, recurses := true, apart := false }
def OnceTakesSaid : Prop := onceTakesRow.holds Try.pinned (OpenSpec.ofChange onceTakesSpec)

/-- ITS FALSE NEIGHBOUR: 'it returns false'. Refute it at one input. -/
def onceTakesWrong : ChangeSpec := { name := "onceTakes", fn := fun _ => fun
  | [d1, d2, d3] => { results := [.lit (.bool false)], args := [d1, d2, d3] }
  | _ => none }
def OnceTakesWrongFalsely : Prop := onceTakesRow.holds Try.pinned (OpenSpec.ofChange onceTakesWrong)

/-- 'rootstocklaw3.OnceCounts': WHATEVER THE INPUT: true; the input reads as it did. -/
def onceCountsSpec : ChangeSpec := { name := "onceCounts", fn := fun _ => fun
  | [d] => { results := [.lit (.bool true)], args := [d] }
  | _ => none }
def onceCountsRow : OpenClaim := { program := "ytlcjhnbnjhgklaa", sum := "c93b218af808611121bdbae7139fbc180343ef451f143d2916bbe7a94356c2c6", func := "rootstock/rootstocklaw3.OnceCounts", spec := "onceCounts", inPlace := ["sync/atomic.StoreUint32", "sync/atomic.LoadUint32", "(*internal/sync.Mutex).Lock", "internal/race.Disable", "sync/atomic.CompareAndSwapInt32", "internal/race.Enable", "internal/race.Acquire", "(*internal/sync.Mutex).lockSlow", "internal/sync.runtime_canSpin", "internal/sync.runtime_doSpin", "internal/sync.throw", "internal/sync.runtime_nanotime", "internal/sync.runtime_SemacquireMutex", "sync/atomic.AddInt32", "(*internal/sync.Mutex).Unlock", "internal/race.ReleaseMerge", "(*internal/sync.Mutex).unlockSlow", "internal/sync.fatal", "internal/sync.runtime_Semrelease", "sync/atomic.AddInt64", "sync/atomic.LoadInt64", "sync/atomic.CompareAndSwapInt64"], unfollowed := true, recurses := true, apart := false }
def OnceCountsSaid : Prop := onceCountsRow.holds Try.pinned (OpenSpec.ofChange onceCountsSpec)

/-- ITS FALSE NEIGHBOUR: 'it returns false'. Refute it at one input. -/
def onceCountsWrong : ChangeSpec := { name := "onceCounts", fn := fun _ => fun
  | [d] => { results := [.lit (.bool false)], args := [d] }
  | _ => none }
def OnceCountsWrongFalsely : Prop := onceCountsRow.holds Try.pinned (OpenSpec.ofChange onceCountsWrong)

/-- 'rootstocklaw3.OnceNone': WHATEVER THE INPUT: true; the input reads as it did. -/
def onceNoneSpec : ChangeSpec := { name := "onceNone", fn := fun _ => fun
  | [d1, d2] => { results := [.lit (.bool true)], args := [d1, d2] }
  | _ => none }
def onceNoneRow : OpenClaim := { program := "ytlcjhnbnjhgklaa", sum := "c93b218af808611121bdbae7139fbc180343ef451f143d2916bbe7a94356c2c6", func := "rootstock/rootstocklaw3.OnceNone", spec := "onceNone", inPlace := ["sync/atomic.StoreUint32", "sync/atomic.LoadUint32", "(*internal/sync.Mutex).Lock", "internal/race.Disable", "sync/atomic.CompareAndSwapInt32", "internal/race.Enable", "internal/race.Acquire", "(*internal/sync.Mutex).lockSlow", "internal/sync.runtime_canSpin", "internal/sync.runtime_doSpin", "internal/sync.throw", "internal/sync.runtime_nanotime", "internal/sync.runtime_SemacquireMutex", "sync/atomic.AddInt32", "(*internal/sync.Mutex).Unlock", "internal/race.ReleaseMerge", "(*internal/sync.Mutex).unlockSlow", "internal/sync.fatal", "internal/sync.runtime_Semrelease", "sync/atomic.AddInt64", "sync/atomic.LoadInt64", "sync/atomic.CompareAndSwapInt64"], unfollowed := true, recurses := true, apart := false }
def OnceNoneSaid : Prop := onceNoneRow.holds Try.pinned (OpenSpec.ofChange onceNoneSpec)

/-- ITS FALSE NEIGHBOUR: 'it returns false'. Refute it at one input. -/
def onceNoneWrong : ChangeSpec := { name := "onceNone", fn := fun _ => fun
  | [d1, d2] => { results := [.lit (.bool false)], args := [d1, d2] }
  | _ => none }
def OnceNoneWrongFalsely : Prop := onceNoneRow.holds Try.pinned (OpenSpec.ofChange onceNoneWrong)

/- THE SECOND FORM. 'bulk': how many values and letters a reading holds, each counted each time it is reached (what is shared counts as often as it is met; a slice's spare places count too). A statement '..UptoSaid' is the law's where the arguments, and the package variables that the reading takes, are together of bulk at most 1048576: NARROWER than '..Said'. Prove '..Said' where nothing that the law and all that it calls make is longer than what came in: it says more and counts as full. Else prove '..UptoSaid'. A law counts once. -/
mutual
def uptoBulk {H : Type} : DataW H → Nat
  | .lit (.string bytes) => bytes.length + 1
  | .lit _ => 1
  | .nil => 1
  | .ptr d => uptoBulk d + 1
  | .slice elems spare => uptoBulkAll elems + uptoBulkAll spare + 1
  | .agg parts => uptoBulkAll parts + 1
  | .iface _ d => uptoBulk d + 1
  | .map entries => uptoBulkEntries entries + 1
  | .held _ => 1
def uptoBulkAll {H : Type} : List (DataW H) → Nat
  | [] => 0
  | d :: r => uptoBulk d + uptoBulkAll r
def uptoBulkEntries {H : Type} : List (Lit × DataW H) → Nat
  | [] => 0
  | x :: r => uptoBulkEntry x + uptoBulkEntries r
def uptoBulkEntry {H : Type} : Lit × DataW H → Nat
  | (.string bytes, d) => bytes.length + uptoBulk d + 1
  | (_, d) => uptoBulk d + 1
 end
def uptoSmall : (H : Type) → List (DataW H) → Bool := fun _ ds => decide (uptoBulkAll ds ≤ 1048576)
def OpenSpec.upto (s : _root_.Go.ChangeSpec) : _root_.Go.OpenSpec := { _root_.Go.OpenSpec.ofChange s with cond := some uptoSmall }

/-- 'rootstocklaw3.OnceMakes', WHERE WHAT IT READS IS OF BULK AT MOST 1048576: true; the input reads as it did. -/
def onceMakesUptoRow : OpenClaim := { program := "ytlcjhnbnjhgklaa", sum := "c93b218af808611121bdbae7139fbc180343ef451f143d2916bbe7a94356c2c6", func := "rootstock/rootstocklaw3.OnceMakes", spec := "onceMakes", inPlace := ["sync/atomic.StoreUint32", "sync/atomic.LoadUint32", "(*internal/sync.Mutex).Lock", "internal/race.Disable", "sync/atomic.CompareAndSwapInt32", "internal/race.Enable", "internal/race.Acquire", "(*internal/sync.Mutex).lockSlow", "internal/sync.runtime_canSpin", "internal/sync.runtime_doSpin", "internal/sync.throw", "internal/sync.runtime_nanotime", "internal/sync.runtime_SemacquireMutex", "sync/atomic.AddInt32", "(*internal/sync.Mutex).Unlock", "internal/race.ReleaseMerge", "(*internal/sync.Mutex).unlockSlow", "internal/sync.fatal", "internal/sync.runtime_Semrelease", "sync/atomic.AddInt64", "sync/atomic.LoadInt64"], unfollowed := true, recurses := true, apart := false, narrowed := true }
def OnceMakesUptoSaid : Prop := onceMakesUptoRow.holds Try.pinned (OpenSpec.upto onceMakesSpec)

/-- 'rootstocklaw3.OnceWithin', WHERE WHAT IT READS IS OF BULK AT MOST 1048576: true; the input reads as it did. -/
def onceWithinUptoRow : OpenClaim := { program := "ytlcjhnbnjhgklaa", sum := "c93b218af808611121bdbae7139fbc180343ef451f143d2916bbe7a94356c2c6", func := "rootstock/rootstocklaw3.OnceWithin", spec := "onceWithin", inPlace := ["sync/atomic.StoreUint32", "sync/atomic.LoadUint32", "(*internal/sync.Mutex).Lock", "internal/race.Disable", "sync/atomic.CompareAndSwapInt32", "internal/race.Enable", "internal/race.Acquire", "(*internal/sync.Mutex).lockSlow", "internal/sync.runtime_canSpin", "internal/sync.runtime_doSpin", "internal/sync.throw", "internal/sync.runtime_nanotime", "internal/sync.runtime_SemacquireMutex", "sync/atomic.AddInt32", "(*internal/sync.Mutex).Unlock", "internal/race.ReleaseMerge", "(*internal/sync.Mutex).unlockSlow", "internal/sync.fatal", "internal/sync.runtime_Semrelease", "sync/atomic.AddInt64", "sync/atomic.LoadInt64"], unfollowed := true, recurses := true, apart := false, narrowed := true }
def OnceWithinUptoSaid : Prop := onceWithinUptoRow.holds Try.pinned (OpenSpec.upto onceWithinSpec)

/-- 'rootstocklaw3.OnceChain', WHERE WHAT IT READS IS OF BULK AT MOST 1048576: true; the input reads as it did. -/
def onceChainUptoRow : OpenClaim := { program := "ytlcjhnbnjhgklaa", sum := "c93b218af808611121bdbae7139fbc180343ef451f143d2916bbe7a94356c2c6", func := "rootstock/rootstocklaw3.OnceChain", spec := "onceChain", inPlace := ["sync/atomic.StoreUint32", "sync/atomic.LoadUint32", "(*internal/sync.Mutex).Lock", "internal/race.Disable", "sync/atomic.CompareAndSwapInt32", "internal/race.Enable", "internal/race.Acquire", "(*internal/sync.Mutex).lockSlow", "internal/sync.runtime_canSpin", "internal/sync.runtime_doSpin", "internal/sync.throw", "internal/sync.runtime_nanotime", "internal/sync.runtime_SemacquireMutex", "sync/atomic.AddInt32", "(*internal/sync.Mutex).Unlock", "internal/race.ReleaseMerge", "(*internal/sync.Mutex).unlockSlow", "internal/sync.fatal", "internal/sync.runtime_Semrelease", "sync/atomic.AddInt64", "sync/atomic.LoadInt64"], unfollowed := true, recurses := true, apart := false, narrowed := true }
def OnceChainUptoSaid : Prop := onceChainUptoRow.holds Try.pinned (OpenSpec.upto onceChainSpec)

/-- 'rootstocklaw3.OnceTakes', WHERE WHAT IT READS IS OF BULK AT MOST 1048576: true; the input reads as it did. -/
def onceTakesUptoRow : OpenClaim := { program := "ytlcjhnbnjhgklaa", sum := "c93b218af808611121bdbae7139fbc180343ef451f143d2916bbe7a94356c2c6", func := "rootstock/rootstocklaw3.OnceTakes", spec := "onceTakes", inPlace := ["sync/atomic.StoreUint32", "sync/atomic.LoadUint32", "(*internal/sync.Mutex).Lock", "internal/race.Disable", "sync/atomic.CompareAndSwapInt32", "internal/race.Enable", "internal/race.Acquire", "(*internal/sync.Mutex).lockSlow", "internal/sync.runtime_canSpin", "internal/sync.runtime_doSpin", "internal/sync.throw", "internal/sync.runtime_nanotime", "internal/sync.runtime_SemacquireMutex", "sync/atomic.AddInt32", "(*internal/sync.Mutex).Unlock", "internal/race.ReleaseMerge", "(*internal/sync.Mutex).unlockSlow", "internal/sync.fatal", "internal/sync.runtime_Semrelease", "sync/atomic.AddInt64", "sync/atomic.LoadInt64", "sync/atomic.CompareAndSwapInt64"], unfollowed := true, recurses := true, apart := false, narrowed := true }
def OnceTakesUptoSaid : Prop := onceTakesUptoRow.holds Try.pinned (OpenSpec.upto onceTakesSpec)

/-- 'rootstocklaw3.OnceCounts', WHERE WHAT IT READS IS OF BULK AT MOST 1048576: true; the input reads as it did. -/
def onceCountsUptoRow : OpenClaim := { program := "ytlcjhnbnjhgklaa", sum := "c93b218af808611121bdbae7139fbc180343ef451f143d2916bbe7a94356c2c6", func := "rootstock/rootstocklaw3.OnceCounts", spec := "onceCounts", inPlace := ["sync/atomic.StoreUint32", "sync/atomic.LoadUint32", "(*internal/sync.Mutex).Lock", "internal/race.Disable", "sync/atomic.CompareAndSwapInt32", "internal/race.Enable", "internal/race.Acquire", "(*internal/sync.Mutex).lockSlow", "internal/sync.runtime_canSpin", "internal/sync.runtime_doSpin", "internal/sync.throw", "internal/sync.runtime_nanotime", "internal/sync.runtime_SemacquireMutex", "sync/atomic.AddInt32", "(*internal/sync.Mutex).Unlock", "internal/race.ReleaseMerge", "(*internal/sync.Mutex).unlockSlow", "internal/sync.fatal", "internal/sync.runtime_Semrelease", "sync/atomic.AddInt64", "sync/atomic.LoadInt64", "sync/atomic.CompareAndSwapInt64"], unfollowed := true, recurses := true, apart := false, narrowed := true }
def OnceCountsUptoSaid : Prop := onceCountsUptoRow.holds Try.pinned (OpenSpec.upto onceCountsSpec)

/-- 'rootstocklaw3.OnceNone', WHERE WHAT IT READS IS OF BULK AT MOST 1048576: true; the input reads as it did. -/
def onceNoneUptoRow : OpenClaim := { program := "ytlcjhnbnjhgklaa", sum := "c93b218af808611121bdbae7139fbc180343ef451f143d2916bbe7a94356c2c6", func := "rootstock/rootstocklaw3.OnceNone", spec := "onceNone", inPlace := ["sync/atomic.StoreUint32", "sync/atomic.LoadUint32", "(*internal/sync.Mutex).Lock", "internal/race.Disable", "sync/atomic.CompareAndSwapInt32", "internal/race.Enable", "internal/race.Acquire", "(*internal/sync.Mutex).lockSlow", "internal/sync.runtime_canSpin", "internal/sync.runtime_doSpin", "internal/sync.throw", "internal/sync.runtime_nanotime", "internal/sync.runtime_SemacquireMutex", "sync/atomic.AddInt32", "(*internal/sync.Mutex).Unlock", "internal/race.ReleaseMerge", "(*internal/sync.Mutex).unlockSlow", "internal/sync.fatal", "internal/sync.runtime_Semrelease", "sync/atomic.AddInt64", "sync/atomic.LoadInt64", "sync/atomic.CompareAndSwapInt64"], unfollowed := true, recurses := true, apart := false, narrowed := true }
def OnceNoneUptoSaid : Prop := onceNoneUptoRow.holds Try.pinned (OpenSpec.upto onceNoneSpec)

end Rows
end Go.Proofs.Ytlcjhnbnjhgklaa
