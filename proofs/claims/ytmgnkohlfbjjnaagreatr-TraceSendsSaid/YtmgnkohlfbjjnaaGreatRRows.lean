/-
  No cell of these rows narrows 'for every input' (looked for: loops, veiled, ifaces, maps, wideKeys, modest, calm, conditions, laid).
  DERIVED. THE GIVEN ROWS OF THIS SEAT. 19 by the template 'for every input the law returns true; each argument reads behind the call as it read before'; 0 by the template 'total and deterministic' (their statements: YtmgnkohlfbjjnaaGreatRTotals.lean).
  GIVEN WITH THE SEED: the statements are not yours to turn. If you find one false, say at which input.
  Laid BY PROGRAM, IN A SANDBOX (cutbox-rows.mjs): the forced cells as the released guide's own fill.sh prints them over the translation 49ef8695b2854f15… (all of the seat's roots in one cut). By AI agents, Wed Nov 11 2026. No macro, syntax, notation, axiom, sorry.
-/
import Derived.Test.YtmgnkohlfbjjnaaGreatRChecked
import GoSem.Claim
import GoSem.ClaimJoined
import GoSem.ClaimMapViews
import Derived.JoinedTies
import Derived.KernelRfl
namespace Go.Proofs.YtmgnkohlfbjjnaaGreatR
/- THE CELL 'sum', in the pinned program and in every row, IS THE sha256 OF THE DUMP (.gsa) THAT YtmgnkohlfbjjnaaGreatRProg.lean LOADS. Nothing in Lean hashes anything: it is a label: what it is worth is what the hold of that sum in a sandbox is worth. -/
noncomputable def Tryz.pinned : Pinned := { name := "ytmgnkohlfbjjnaagreatr", sum := "49ef8695b2854f15c1253d97ed82e82c497c62f3ab089ddfe5a4e2f41608594d", checked := Tryz.checked }
namespace Rows
def none {H : Type} : Left H := { results := [], args := [] }

/-- 'warrantlaw23.TraceNames': WHATEVER THE INPUT: true; the input reads as it did. -/
def traceNamesSpec : ChangeSpec := { name := "traceNames", fn := fun _ => fun
  | [] => { results := [.lit (.bool true)], args := [] }
  | _ => none }
def traceNamesRow : OpenClaim := { program := "ytmgnkohlfbjjnaagreatr", sum := "49ef8695b2854f15c1253d97ed82e82c497c62f3ab089ddfe5a4e2f41608594d", func := "warrant/warrantlaw23.TraceNames", spec := "traceNames", inPlace := ["sync/atomic.LoadUint32", "(*internal/sync.Mutex).Lock", "internal/race.Disable", "sync/atomic.CompareAndSwapInt32", "internal/race.Enable", "internal/race.Acquire", "(*internal/sync.Mutex).lockSlow", "internal/sync.runtime_canSpin", "internal/sync.runtime_doSpin", "internal/sync.throw", "internal/sync.runtime_nanotime", "internal/sync.runtime_SemacquireMutex", "sync/atomic.AddInt32", "(*internal/sync.Mutex).Unlock", "internal/race.ReleaseMerge", "(*internal/sync.Mutex).unlockSlow", "internal/sync.fatal", "internal/sync.runtime_Semrelease", "sync/atomic.StoreUint32", "internal/bytealg.Compare", "internal/bytealg.IndexByte"], unfollowed := true, recurses := true, apart := false }
def TraceNamesSaid : Prop := traceNamesRow.holds Tryz.pinned (OpenSpec.ofChange traceNamesSpec)

/-- ITS FALSE NEIGHBOUR: 'it returns false'. Refute it at one input. -/
def traceNamesWrong : ChangeSpec := { name := "traceNames", fn := fun _ => fun
  | [] => { results := [.lit (.bool false)], args := [] }
  | _ => none }
def TraceNamesWrongFalsely : Prop := traceNamesRow.holds Tryz.pinned (OpenSpec.ofChange traceNamesWrong)

/-- 'warrantlaw23.TraceTakes': WHATEVER THE INPUT: true; the input reads as it did. -/
def traceTakesSpec : ChangeSpec := { name := "traceTakes", fn := fun _ => fun
  | [d1, d2, d3] => { results := [.lit (.bool true)], args := [d1, d2, d3] }
  | _ => none }
def traceTakesRow : OpenClaim := { program := "ytmgnkohlfbjjnaagreatr", sum := "49ef8695b2854f15c1253d97ed82e82c497c62f3ab089ddfe5a4e2f41608594d", func := "warrant/warrantlaw23.TraceTakes", spec := "traceTakes", inPlace := ["sync/atomic.LoadUint32", "(*internal/sync.Mutex).Lock", "internal/race.Disable", "sync/atomic.CompareAndSwapInt32", "internal/race.Enable", "internal/race.Acquire", "(*internal/sync.Mutex).lockSlow", "internal/sync.runtime_canSpin", "internal/sync.runtime_doSpin", "internal/sync.throw", "internal/sync.runtime_nanotime", "internal/sync.runtime_SemacquireMutex", "sync/atomic.AddInt32", "(*internal/sync.Mutex).Unlock", "internal/race.ReleaseMerge", "(*internal/sync.Mutex).unlockSlow", "internal/sync.fatal", "internal/sync.runtime_Semrelease", "sync/atomic.StoreUint32", "internal/bytealg.Compare", "internal/bytealg.IndexByte"], unfollowed := true, recurses := true, apart := false }
def TraceTakesSaid : Prop := traceTakesRow.holds Tryz.pinned (OpenSpec.ofChange traceTakesSpec)

/-- ITS FALSE NEIGHBOUR: 'it returns false'. Refute it at one input. -/
def traceTakesWrong : ChangeSpec := { name := "traceTakes", fn := fun _ => fun
  | [d1, d2, d3] => { results := [.lit (.bool false)], args := [d1, d2, d3] }
  | _ => none }
def TraceTakesWrongFalsely : Prop := traceTakesRow.holds Tryz.pinned (OpenSpec.ofChange traceTakesWrong)

/-- 'warrantlaw23.TraceDiffs': WHATEVER THE INPUT: true; the input reads as it did. -/
def traceDiffsSpec : ChangeSpec := { name := "traceDiffs", fn := fun _ => fun
  | [d1, d2] => { results := [.lit (.bool true)], args := [d1, d2] }
  | _ => none }
def traceDiffsRow : OpenClaim := { program := "ytmgnkohlfbjjnaagreatr", sum := "49ef8695b2854f15c1253d97ed82e82c497c62f3ab089ddfe5a4e2f41608594d", func := "warrant/warrantlaw23.TraceDiffs", spec := "traceDiffs", inPlace := ["sync/atomic.LoadUint32", "(*internal/sync.Mutex).Lock", "internal/race.Disable", "sync/atomic.CompareAndSwapInt32", "internal/race.Enable", "internal/race.Acquire", "(*internal/sync.Mutex).lockSlow", "internal/sync.runtime_canSpin", "internal/sync.runtime_doSpin", "internal/sync.throw", "internal/sync.runtime_nanotime", "internal/sync.runtime_SemacquireMutex", "sync/atomic.AddInt32", "(*internal/sync.Mutex).Unlock", "internal/race.ReleaseMerge", "(*internal/sync.Mutex).unlockSlow", "internal/sync.fatal", "internal/sync.runtime_Semrelease", "sync/atomic.StoreUint32", "internal/bytealg.Compare", "internal/bytealg.IndexByte"], unfollowed := true, recurses := true, apart := false }
def TraceDiffsSaid : Prop := traceDiffsRow.holds Tryz.pinned (OpenSpec.ofChange traceDiffsSpec)

/-- ITS FALSE NEIGHBOUR: 'it returns false'. Refute it at one input. -/
def traceDiffsWrong : ChangeSpec := { name := "traceDiffs", fn := fun _ => fun
  | [d1, d2] => { results := [.lit (.bool false)], args := [d1, d2] }
  | _ => none }
def TraceDiffsWrongFalsely : Prop := traceDiffsRow.holds Tryz.pinned (OpenSpec.ofChange traceDiffsWrong)

/-- 'warrantlaw23.TraceLasts': WHATEVER THE INPUT: true; the input reads as it did. -/
def traceLastsSpec : ChangeSpec := { name := "traceLasts", fn := fun _ => fun
  | [d1, d2, d3, d4, d5] => { results := [.lit (.bool true)], args := [d1, d2, d3, d4, d5] }
  | _ => none }
def traceLastsRow : OpenClaim := { program := "ytmgnkohlfbjjnaagreatr", sum := "49ef8695b2854f15c1253d97ed82e82c497c62f3ab089ddfe5a4e2f41608594d", func := "warrant/warrantlaw23.TraceLasts", spec := "traceLasts", inPlace := ["sync/atomic.LoadUint32", "(*internal/sync.Mutex).Lock", "internal/race.Disable", "sync/atomic.CompareAndSwapInt32", "internal/race.Enable", "internal/race.Acquire", "(*internal/sync.Mutex).lockSlow", "internal/sync.runtime_canSpin", "internal/sync.runtime_doSpin", "internal/sync.throw", "internal/sync.runtime_nanotime", "internal/sync.runtime_SemacquireMutex", "sync/atomic.AddInt32", "(*internal/sync.Mutex).Unlock", "internal/race.ReleaseMerge", "(*internal/sync.Mutex).unlockSlow", "internal/sync.fatal", "internal/sync.runtime_Semrelease", "sync/atomic.StoreUint32", "internal/bytealg.Compare", "internal/bytealg.IndexByte"], unfollowed := true, recurses := true, apart := false }
def TraceLastsSaid : Prop := traceLastsRow.holds Tryz.pinned (OpenSpec.ofChange traceLastsSpec)

/-- ITS FALSE NEIGHBOUR: 'it returns false'. Refute it at one input. -/
def traceLastsWrong : ChangeSpec := { name := "traceLasts", fn := fun _ => fun
  | [d1, d2, d3, d4, d5] => { results := [.lit (.bool false)], args := [d1, d2, d3, d4, d5] }
  | _ => none }
def TraceLastsWrongFalsely : Prop := traceLastsRow.holds Tryz.pinned (OpenSpec.ofChange traceLastsWrong)

/-- 'warrantlaw23.TraceAudits': WHATEVER THE INPUT: true; the input reads as it did. -/
def traceAuditsSpec : ChangeSpec := { name := "traceAudits", fn := fun _ => fun
  | [d1, d2] => { results := [.lit (.bool true)], args := [d1, d2] }
  | _ => none }
def traceAuditsRow : OpenClaim := { program := "ytmgnkohlfbjjnaagreatr", sum := "49ef8695b2854f15c1253d97ed82e82c497c62f3ab089ddfe5a4e2f41608594d", func := "warrant/warrantlaw23.TraceAudits", spec := "traceAudits", inPlace := ["sync/atomic.LoadUint32", "(*internal/sync.Mutex).Lock", "internal/race.Disable", "sync/atomic.CompareAndSwapInt32", "internal/race.Enable", "internal/race.Acquire", "(*internal/sync.Mutex).lockSlow", "internal/sync.runtime_canSpin", "internal/sync.runtime_doSpin", "internal/sync.throw", "internal/sync.runtime_nanotime", "internal/sync.runtime_SemacquireMutex", "sync/atomic.AddInt32", "(*internal/sync.Mutex).Unlock", "internal/race.ReleaseMerge", "(*internal/sync.Mutex).unlockSlow", "internal/sync.fatal", "internal/sync.runtime_Semrelease", "sync/atomic.StoreUint32", "internal/bytealg.Compare", "internal/bytealg.IndexByte"], unfollowed := true, recurses := true, apart := false }
def TraceAuditsSaid : Prop := traceAuditsRow.holds Tryz.pinned (OpenSpec.ofChange traceAuditsSpec)

/-- ITS FALSE NEIGHBOUR: 'it returns false'. Refute it at one input. -/
def traceAuditsWrong : ChangeSpec := { name := "traceAudits", fn := fun _ => fun
  | [d1, d2] => { results := [.lit (.bool false)], args := [d1, d2] }
  | _ => none }
def TraceAuditsWrongFalsely : Prop := traceAuditsRow.holds Tryz.pinned (OpenSpec.ofChange traceAuditsWrong)

/-- 'warrantlaw23.TraceEncodes': WHATEVER THE INPUT: true; the input reads as it did. -/
def traceEncodesSpec : ChangeSpec := { name := "traceEncodes", fn := fun _ => fun
  | [d] => { results := [.lit (.bool true)], args := [d] }
  | _ => none }
def traceEncodesRow : OpenClaim := { program := "ytmgnkohlfbjjnaagreatr", sum := "49ef8695b2854f15c1253d97ed82e82c497c62f3ab089ddfe5a4e2f41608594d", func := "warrant/warrantlaw23.TraceEncodes", spec := "traceEncodes", inPlace := ["sync/atomic.LoadUint32", "(*internal/sync.Mutex).Lock", "internal/race.Disable", "sync/atomic.CompareAndSwapInt32", "internal/race.Enable", "internal/race.Acquire", "(*internal/sync.Mutex).lockSlow", "internal/sync.runtime_canSpin", "internal/sync.runtime_doSpin", "internal/sync.throw", "internal/sync.runtime_nanotime", "internal/sync.runtime_SemacquireMutex", "sync/atomic.AddInt32", "(*internal/sync.Mutex).Unlock", "internal/race.ReleaseMerge", "(*internal/sync.Mutex).unlockSlow", "internal/sync.fatal", "internal/sync.runtime_Semrelease", "sync/atomic.StoreUint32", "internal/bytealg.Compare", "internal/bytealg.IndexByte"], unfollowed := true, recurses := true, apart := false }
def TraceEncodesSaid : Prop := traceEncodesRow.holds Tryz.pinned (OpenSpec.ofChange traceEncodesSpec)

/-- ITS FALSE NEIGHBOUR: 'it returns false'. Refute it at one input. -/
def traceEncodesWrong : ChangeSpec := { name := "traceEncodes", fn := fun _ => fun
  | [d] => { results := [.lit (.bool false)], args := [d] }
  | _ => none }
def TraceEncodesWrongFalsely : Prop := traceEncodesRow.holds Tryz.pinned (OpenSpec.ofChange traceEncodesWrong)

/-- 'warrantlaw23.TraceDecodes': WHATEVER THE INPUT: true; the input reads as it did. -/
def traceDecodesSpec : ChangeSpec := { name := "traceDecodes", fn := fun _ => fun
  | [d] => { results := [.lit (.bool true)], args := [d] }
  | _ => none }
def traceDecodesRow : OpenClaim := { program := "ytmgnkohlfbjjnaagreatr", sum := "49ef8695b2854f15c1253d97ed82e82c497c62f3ab089ddfe5a4e2f41608594d", func := "warrant/warrantlaw23.TraceDecodes", spec := "traceDecodes", inPlace := ["sync/atomic.LoadUint32", "(*internal/sync.Mutex).Lock", "internal/race.Disable", "sync/atomic.CompareAndSwapInt32", "internal/race.Enable", "internal/race.Acquire", "(*internal/sync.Mutex).lockSlow", "internal/sync.runtime_canSpin", "internal/sync.runtime_doSpin", "internal/sync.throw", "internal/sync.runtime_nanotime", "internal/sync.runtime_SemacquireMutex", "sync/atomic.AddInt32", "(*internal/sync.Mutex).Unlock", "internal/race.ReleaseMerge", "(*internal/sync.Mutex).unlockSlow", "internal/sync.fatal", "internal/sync.runtime_Semrelease", "sync/atomic.StoreUint32", "internal/bytealg.Compare", "internal/bytealg.IndexByte"], unfollowed := true, recurses := true, apart := false }
def TraceDecodesSaid : Prop := traceDecodesRow.holds Tryz.pinned (OpenSpec.ofChange traceDecodesSpec)

/-- ITS FALSE NEIGHBOUR: 'it returns false'. Refute it at one input. -/
def traceDecodesWrong : ChangeSpec := { name := "traceDecodes", fn := fun _ => fun
  | [d] => { results := [.lit (.bool false)], args := [d] }
  | _ => none }
def TraceDecodesWrongFalsely : Prop := traceDecodesRow.holds Tryz.pinned (OpenSpec.ofChange traceDecodesWrong)

/-- 'warrantlaw23.TraceOnly': WHATEVER THE INPUT: true; the input reads as it did. -/
def traceOnlySpec : ChangeSpec := { name := "traceOnly", fn := fun _ => fun
  | [d1, d2] => { results := [.lit (.bool true)], args := [d1, d2] }
  | _ => none }
def traceOnlyRow : OpenClaim := { program := "ytmgnkohlfbjjnaagreatr", sum := "49ef8695b2854f15c1253d97ed82e82c497c62f3ab089ddfe5a4e2f41608594d", func := "warrant/warrantlaw23.TraceOnly", spec := "traceOnly", inPlace := ["sync/atomic.LoadUint32", "(*internal/sync.Mutex).Lock", "internal/race.Disable", "sync/atomic.CompareAndSwapInt32", "internal/race.Enable", "internal/race.Acquire", "(*internal/sync.Mutex).lockSlow", "internal/sync.runtime_canSpin", "internal/sync.runtime_doSpin", "internal/sync.throw", "internal/sync.runtime_nanotime", "internal/sync.runtime_SemacquireMutex", "sync/atomic.AddInt32", "(*internal/sync.Mutex).Unlock", "internal/race.ReleaseMerge", "(*internal/sync.Mutex).unlockSlow", "internal/sync.fatal", "internal/sync.runtime_Semrelease", "sync/atomic.StoreUint32", "internal/bytealg.Compare", "internal/bytealg.IndexByte"], unfollowed := true, recurses := true, apart := false }
def TraceOnlySaid : Prop := traceOnlyRow.holds Tryz.pinned (OpenSpec.ofChange traceOnlySpec)

/-- ITS FALSE NEIGHBOUR: 'it returns false'. Refute it at one input. -/
def traceOnlyWrong : ChangeSpec := { name := "traceOnly", fn := fun _ => fun
  | [d1, d2] => { results := [.lit (.bool false)], args := [d1, d2] }
  | _ => none }
def TraceOnlyWrongFalsely : Prop := traceOnlyRow.holds Tryz.pinned (OpenSpec.ofChange traceOnlyWrong)

/-- 'warrantlaw23.TraceSpoilt': WHATEVER THE INPUT: true; the input reads as it did. -/
def traceSpoiltSpec : ChangeSpec := { name := "traceSpoilt", fn := fun _ => fun
  | [d1, d2, d3, d4, d5, d6] => { results := [.lit (.bool true)], args := [d1, d2, d3, d4, d5, d6] }
  | _ => none }
def traceSpoiltRow : OpenClaim := { program := "ytmgnkohlfbjjnaagreatr", sum := "49ef8695b2854f15c1253d97ed82e82c497c62f3ab089ddfe5a4e2f41608594d", func := "warrant/warrantlaw23.TraceSpoilt", spec := "traceSpoilt", inPlace := ["sync/atomic.LoadUint32", "(*internal/sync.Mutex).Lock", "internal/race.Disable", "sync/atomic.CompareAndSwapInt32", "internal/race.Enable", "internal/race.Acquire", "(*internal/sync.Mutex).lockSlow", "internal/sync.runtime_canSpin", "internal/sync.runtime_doSpin", "internal/sync.throw", "internal/sync.runtime_nanotime", "internal/sync.runtime_SemacquireMutex", "sync/atomic.AddInt32", "(*internal/sync.Mutex).Unlock", "internal/race.ReleaseMerge", "(*internal/sync.Mutex).unlockSlow", "internal/sync.fatal", "internal/sync.runtime_Semrelease", "sync/atomic.StoreUint32", "internal/bytealg.Compare", "internal/bytealg.IndexByte"], unfollowed := true, recurses := true, apart := false }
def TraceSpoiltSaid : Prop := traceSpoiltRow.holds Tryz.pinned (OpenSpec.ofChange traceSpoiltSpec)

/-- ITS FALSE NEIGHBOUR: 'it returns false'. Refute it at one input. -/
def traceSpoiltWrong : ChangeSpec := { name := "traceSpoilt", fn := fun _ => fun
  | [d1, d2, d3, d4, d5, d6] => { results := [.lit (.bool false)], args := [d1, d2, d3, d4, d5, d6] }
  | _ => none }
def TraceSpoiltWrongFalsely : Prop := traceSpoiltRow.holds Tryz.pinned (OpenSpec.ofChange traceSpoiltWrong)

/-- 'warrantlaw23.TraceBytes': WHATEVER THE INPUT: true; the input reads as it did. -/
def traceBytesSpec : ChangeSpec := { name := "traceBytes", fn := fun _ => fun
  | [d1, d2, d3, d4] => { results := [.lit (.bool true)], args := [d1, d2, d3, d4] }
  | _ => none }
def traceBytesRow : OpenClaim := { program := "ytmgnkohlfbjjnaagreatr", sum := "49ef8695b2854f15c1253d97ed82e82c497c62f3ab089ddfe5a4e2f41608594d", func := "warrant/warrantlaw23.TraceBytes", spec := "traceBytes", inPlace := ["sync/atomic.LoadUint32", "(*internal/sync.Mutex).Lock", "internal/race.Disable", "sync/atomic.CompareAndSwapInt32", "internal/race.Enable", "internal/race.Acquire", "(*internal/sync.Mutex).lockSlow", "internal/sync.runtime_canSpin", "internal/sync.runtime_doSpin", "internal/sync.throw", "internal/sync.runtime_nanotime", "internal/sync.runtime_SemacquireMutex", "sync/atomic.AddInt32", "(*internal/sync.Mutex).Unlock", "internal/race.ReleaseMerge", "(*internal/sync.Mutex).unlockSlow", "internal/sync.fatal", "internal/sync.runtime_Semrelease", "sync/atomic.StoreUint32", "internal/bytealg.Compare", "internal/bytealg.IndexByte"], unfollowed := true, recurses := true, apart := false }
def TraceBytesSaid : Prop := traceBytesRow.holds Tryz.pinned (OpenSpec.ofChange traceBytesSpec)

/-- ITS FALSE NEIGHBOUR: 'it returns false'. Refute it at one input. -/
def traceBytesWrong : ChangeSpec := { name := "traceBytes", fn := fun _ => fun
  | [d1, d2, d3, d4] => { results := [.lit (.bool false)], args := [d1, d2, d3, d4] }
  | _ => none }
def TraceBytesWrongFalsely : Prop := traceBytesRow.holds Tryz.pinned (OpenSpec.ofChange traceBytesWrong)

/-- 'warrantlaw23.TraceForth': WHATEVER THE INPUT: true; the input reads as it did. -/
def traceForthSpec : ChangeSpec := { name := "traceForth", fn := fun _ => fun
  | [d] => { results := [.lit (.bool true)], args := [d] }
  | _ => none }
def traceForthRow : OpenClaim := { program := "ytmgnkohlfbjjnaagreatr", sum := "49ef8695b2854f15c1253d97ed82e82c497c62f3ab089ddfe5a4e2f41608594d", func := "warrant/warrantlaw23.TraceForth", spec := "traceForth", inPlace := ["sync/atomic.LoadUint32", "(*internal/sync.Mutex).Lock", "internal/race.Disable", "sync/atomic.CompareAndSwapInt32", "internal/race.Enable", "internal/race.Acquire", "(*internal/sync.Mutex).lockSlow", "internal/sync.runtime_canSpin", "internal/sync.runtime_doSpin", "internal/sync.throw", "internal/sync.runtime_nanotime", "internal/sync.runtime_SemacquireMutex", "sync/atomic.AddInt32", "(*internal/sync.Mutex).Unlock", "internal/race.ReleaseMerge", "(*internal/sync.Mutex).unlockSlow", "internal/sync.fatal", "internal/sync.runtime_Semrelease", "sync/atomic.StoreUint32", "internal/bytealg.Compare", "internal/bytealg.IndexByte"], unfollowed := true, recurses := true, apart := false }
def TraceForthSaid : Prop := traceForthRow.holds Tryz.pinned (OpenSpec.ofChange traceForthSpec)

/-- ITS FALSE NEIGHBOUR: 'it returns false'. Refute it at one input. -/
def traceForthWrong : ChangeSpec := { name := "traceForth", fn := fun _ => fun
  | [d] => { results := [.lit (.bool false)], args := [d] }
  | _ => none }
def TraceForthWrongFalsely : Prop := traceForthRow.holds Tryz.pinned (OpenSpec.ofChange traceForthWrong)

/-- 'warrantlaw23.TraceFinds': WHATEVER THE INPUT: true; the input reads as it did. -/
def traceFindsSpec : ChangeSpec := { name := "traceFinds", fn := fun _ => fun
  | [d1, d2, d3, d4, d5, d6] => { results := [.lit (.bool true)], args := [d1, d2, d3, d4, d5, d6] }
  | _ => none }
def traceFindsRow : OpenClaim := { program := "ytmgnkohlfbjjnaagreatr", sum := "49ef8695b2854f15c1253d97ed82e82c497c62f3ab089ddfe5a4e2f41608594d", func := "warrant/warrantlaw23.TraceFinds", spec := "traceFinds", inPlace := ["sync/atomic.LoadUint32", "(*internal/sync.Mutex).Lock", "internal/race.Disable", "sync/atomic.CompareAndSwapInt32", "internal/race.Enable", "internal/race.Acquire", "(*internal/sync.Mutex).lockSlow", "internal/sync.runtime_canSpin", "internal/sync.runtime_doSpin", "internal/sync.throw", "internal/sync.runtime_nanotime", "internal/sync.runtime_SemacquireMutex", "sync/atomic.AddInt32", "(*internal/sync.Mutex).Unlock", "internal/race.ReleaseMerge", "(*internal/sync.Mutex).unlockSlow", "internal/sync.fatal", "internal/sync.runtime_Semrelease", "sync/atomic.StoreUint32", "internal/bytealg.Compare", "internal/bytealg.IndexByte"], unfollowed := true, recurses := true, apart := false }
def TraceFindsSaid : Prop := traceFindsRow.holds Tryz.pinned (OpenSpec.ofChange traceFindsSpec)

/-- ITS FALSE NEIGHBOUR: 'it returns false'. Refute it at one input. -/
def traceFindsWrong : ChangeSpec := { name := "traceFinds", fn := fun _ => fun
  | [d1, d2, d3, d4, d5, d6] => { results := [.lit (.bool false)], args := [d1, d2, d3, d4, d5, d6] }
  | _ => none }
def TraceFindsWrongFalsely : Prop := traceFindsRow.holds Tryz.pinned (OpenSpec.ofChange traceFindsWrong)

/-- 'warrantlaw23.TraceSends': WHATEVER THE INPUT: true; the input reads as it did. -/
def traceSendsSpec : ChangeSpec := { name := "traceSends", fn := fun _ => fun
  | [d] => { results := [.lit (.bool true)], args := [d] }
  | _ => none }
def traceSendsRow : OpenClaim := { program := "ytmgnkohlfbjjnaagreatr", sum := "49ef8695b2854f15c1253d97ed82e82c497c62f3ab089ddfe5a4e2f41608594d", func := "warrant/warrantlaw23.TraceSends", spec := "traceSends", inPlace := ["sync/atomic.LoadUint32", "(*internal/sync.Mutex).Lock", "internal/race.Disable", "sync/atomic.CompareAndSwapInt32", "internal/race.Enable", "internal/race.Acquire", "(*internal/sync.Mutex).lockSlow", "internal/sync.runtime_canSpin", "internal/sync.runtime_doSpin", "internal/sync.throw", "internal/sync.runtime_nanotime", "internal/sync.runtime_SemacquireMutex", "sync/atomic.AddInt32", "(*internal/sync.Mutex).Unlock", "internal/race.ReleaseMerge", "(*internal/sync.Mutex).unlockSlow", "internal/sync.fatal", "internal/sync.runtime_Semrelease", "sync/atomic.StoreUint32", "internal/bytealg.Compare", "internal/bytealg.IndexByte"], unfollowed := true, recurses := true, apart := false }
def TraceSendsSaid : Prop := traceSendsRow.holds Tryz.pinned (OpenSpec.ofChange traceSendsSpec)

/-- ITS FALSE NEIGHBOUR: 'it returns false'. Refute it at one input. -/
def traceSendsWrong : ChangeSpec := { name := "traceSends", fn := fun _ => fun
  | [d] => { results := [.lit (.bool false)], args := [d] }
  | _ => none }
def TraceSendsWrongFalsely : Prop := traceSendsRow.holds Tryz.pinned (OpenSpec.ofChange traceSendsWrong)

/-- 'warrantlaw23.TracePlays': WHATEVER THE INPUT: true; the input reads as it did. -/
def tracePlaysSpec : ChangeSpec := { name := "tracePlays", fn := fun _ => fun
  | [d1, d2] => { results := [.lit (.bool true)], args := [d1, d2] }
  | _ => none }
def tracePlaysRow : OpenClaim := { program := "ytmgnkohlfbjjnaagreatr", sum := "49ef8695b2854f15c1253d97ed82e82c497c62f3ab089ddfe5a4e2f41608594d", func := "warrant/warrantlaw23.TracePlays", spec := "tracePlays", inPlace := ["sync/atomic.LoadUint32", "(*internal/sync.Mutex).Lock", "internal/race.Disable", "sync/atomic.CompareAndSwapInt32", "internal/race.Enable", "internal/race.Acquire", "(*internal/sync.Mutex).lockSlow", "internal/sync.runtime_canSpin", "internal/sync.runtime_doSpin", "internal/sync.throw", "internal/sync.runtime_nanotime", "internal/sync.runtime_SemacquireMutex", "sync/atomic.AddInt32", "(*internal/sync.Mutex).Unlock", "internal/race.ReleaseMerge", "(*internal/sync.Mutex).unlockSlow", "internal/sync.fatal", "internal/sync.runtime_Semrelease", "sync/atomic.StoreUint32", "internal/bytealg.Compare", "internal/bytealg.IndexByte"], unfollowed := true, recurses := true, apart := false }
def TracePlaysSaid : Prop := tracePlaysRow.holds Tryz.pinned (OpenSpec.ofChange tracePlaysSpec)

/-- ITS FALSE NEIGHBOUR: 'it returns false'. Refute it at one input. -/
def tracePlaysWrong : ChangeSpec := { name := "tracePlays", fn := fun _ => fun
  | [d1, d2] => { results := [.lit (.bool false)], args := [d1, d2] }
  | _ => none }
def TracePlaysWrongFalsely : Prop := tracePlaysRow.holds Tryz.pinned (OpenSpec.ofChange tracePlaysWrong)

/-- 'warrantlaw23.TraceFresh': WHATEVER THE INPUT: true; the input reads as it did. -/
def traceFreshSpec : ChangeSpec := { name := "traceFresh", fn := fun _ => fun
  | [d1, d2, d3] => { results := [.lit (.bool true)], args := [d1, d2, d3] }
  | _ => none }
def traceFreshRow : OpenClaim := { program := "ytmgnkohlfbjjnaagreatr", sum := "49ef8695b2854f15c1253d97ed82e82c497c62f3ab089ddfe5a4e2f41608594d", func := "warrant/warrantlaw23.TraceFresh", spec := "traceFresh", inPlace := ["sync/atomic.LoadUint32", "(*internal/sync.Mutex).Lock", "internal/race.Disable", "sync/atomic.CompareAndSwapInt32", "internal/race.Enable", "internal/race.Acquire", "(*internal/sync.Mutex).lockSlow", "internal/sync.runtime_canSpin", "internal/sync.runtime_doSpin", "internal/sync.throw", "internal/sync.runtime_nanotime", "internal/sync.runtime_SemacquireMutex", "sync/atomic.AddInt32", "(*internal/sync.Mutex).Unlock", "internal/race.ReleaseMerge", "(*internal/sync.Mutex).unlockSlow", "internal/sync.fatal", "internal/sync.runtime_Semrelease", "sync/atomic.StoreUint32", "internal/bytealg.Compare", "internal/bytealg.IndexByte"], unfollowed := true, recurses := true, apart := false }
def TraceFreshSaid : Prop := traceFreshRow.holds Tryz.pinned (OpenSpec.ofChange traceFreshSpec)

/-- ITS FALSE NEIGHBOUR: 'it returns false'. Refute it at one input. -/
def traceFreshWrong : ChangeSpec := { name := "traceFresh", fn := fun _ => fun
  | [d1, d2, d3] => { results := [.lit (.bool false)], args := [d1, d2, d3] }
  | _ => none }
def TraceFreshWrongFalsely : Prop := traceFreshRow.holds Tryz.pinned (OpenSpec.ofChange traceFreshWrong)

/-- 'warrantlaw23.TraceApplies': WHATEVER THE INPUT: true; the input reads as it did. -/
def traceAppliesSpec : ChangeSpec := { name := "traceApplies", fn := fun _ => fun
  | [d1, d2] => { results := [.lit (.bool true)], args := [d1, d2] }
  | _ => none }
def traceAppliesRow : OpenClaim := { program := "ytmgnkohlfbjjnaagreatr", sum := "49ef8695b2854f15c1253d97ed82e82c497c62f3ab089ddfe5a4e2f41608594d", func := "warrant/warrantlaw23.TraceApplies", spec := "traceApplies", inPlace := ["sync/atomic.LoadUint32", "(*internal/sync.Mutex).Lock", "internal/race.Disable", "sync/atomic.CompareAndSwapInt32", "internal/race.Enable", "internal/race.Acquire", "(*internal/sync.Mutex).lockSlow", "internal/sync.runtime_canSpin", "internal/sync.runtime_doSpin", "internal/sync.throw", "internal/sync.runtime_nanotime", "internal/sync.runtime_SemacquireMutex", "sync/atomic.AddInt32", "(*internal/sync.Mutex).Unlock", "internal/race.ReleaseMerge", "(*internal/sync.Mutex).unlockSlow", "internal/sync.fatal", "internal/sync.runtime_Semrelease", "sync/atomic.StoreUint32", "internal/bytealg.Compare", "internal/bytealg.IndexByte"], unfollowed := true, recurses := true, apart := false }
def TraceAppliesSaid : Prop := traceAppliesRow.holds Tryz.pinned (OpenSpec.ofChange traceAppliesSpec)

/-- ITS FALSE NEIGHBOUR: 'it returns false'. Refute it at one input. -/
def traceAppliesWrong : ChangeSpec := { name := "traceApplies", fn := fun _ => fun
  | [d1, d2] => { results := [.lit (.bool false)], args := [d1, d2] }
  | _ => none }
def TraceAppliesWrongFalsely : Prop := traceAppliesRow.holds Tryz.pinned (OpenSpec.ofChange traceAppliesWrong)

/-- 'warrantlaw23.TraceThere': WHATEVER THE INPUT: true; the input reads as it did. -/
def traceThereSpec : ChangeSpec := { name := "traceThere", fn := fun _ => fun
  | [d1, d2] => { results := [.lit (.bool true)], args := [d1, d2] }
  | _ => none }
def traceThereRow : OpenClaim := { program := "ytmgnkohlfbjjnaagreatr", sum := "49ef8695b2854f15c1253d97ed82e82c497c62f3ab089ddfe5a4e2f41608594d", func := "warrant/warrantlaw23.TraceThere", spec := "traceThere", inPlace := ["sync/atomic.LoadUint32", "(*internal/sync.Mutex).Lock", "internal/race.Disable", "sync/atomic.CompareAndSwapInt32", "internal/race.Enable", "internal/race.Acquire", "(*internal/sync.Mutex).lockSlow", "internal/sync.runtime_canSpin", "internal/sync.runtime_doSpin", "internal/sync.throw", "internal/sync.runtime_nanotime", "internal/sync.runtime_SemacquireMutex", "sync/atomic.AddInt32", "(*internal/sync.Mutex).Unlock", "internal/race.ReleaseMerge", "(*internal/sync.Mutex).unlockSlow", "internal/sync.fatal", "internal/sync.runtime_Semrelease", "sync/atomic.StoreUint32", "internal/bytealg.Compare", "internal/bytealg.IndexByte"], unfollowed := true, recurses := true, apart := false }
def TraceThereSaid : Prop := traceThereRow.holds Tryz.pinned (OpenSpec.ofChange traceThereSpec)

/-- ITS FALSE NEIGHBOUR: 'it returns false'. Refute it at one input. -/
def traceThereWrong : ChangeSpec := { name := "traceThere", fn := fun _ => fun
  | [d1, d2] => { results := [.lit (.bool false)], args := [d1, d2] }
  | _ => none }
def TraceThereWrongFalsely : Prop := traceThereRow.holds Tryz.pinned (OpenSpec.ofChange traceThereWrong)

/-- 'warrantlaw23.TraceBackwards': WHATEVER THE INPUT: true; the input reads as it did. -/
def traceBackwardsSpec : ChangeSpec := { name := "traceBackwards", fn := fun _ => fun
  | [d1, d2, d3] => { results := [.lit (.bool true)], args := [d1, d2, d3] }
  | _ => none }
def traceBackwardsRow : OpenClaim := { program := "ytmgnkohlfbjjnaagreatr", sum := "49ef8695b2854f15c1253d97ed82e82c497c62f3ab089ddfe5a4e2f41608594d", func := "warrant/warrantlaw23.TraceBackwards", spec := "traceBackwards", inPlace := ["sync/atomic.LoadUint32", "(*internal/sync.Mutex).Lock", "internal/race.Disable", "sync/atomic.CompareAndSwapInt32", "internal/race.Enable", "internal/race.Acquire", "(*internal/sync.Mutex).lockSlow", "internal/sync.runtime_canSpin", "internal/sync.runtime_doSpin", "internal/sync.throw", "internal/sync.runtime_nanotime", "internal/sync.runtime_SemacquireMutex", "sync/atomic.AddInt32", "(*internal/sync.Mutex).Unlock", "internal/race.ReleaseMerge", "(*internal/sync.Mutex).unlockSlow", "internal/sync.fatal", "internal/sync.runtime_Semrelease", "sync/atomic.StoreUint32", "internal/bytealg.Compare", "internal/bytealg.IndexByte"], unfollowed := true, recurses := true, apart := false }
def TraceBackwardsSaid : Prop := traceBackwardsRow.holds Tryz.pinned (OpenSpec.ofChange traceBackwardsSpec)

/-- ITS FALSE NEIGHBOUR: 'it returns false'. Refute it at one input. -/
def traceBackwardsWrong : ChangeSpec := { name := "traceBackwards", fn := fun _ => fun
  | [d1, d2, d3] => { results := [.lit (.bool false)], args := [d1, d2, d3] }
  | _ => none }
def TraceBackwardsWrongFalsely : Prop := traceBackwardsRow.holds Tryz.pinned (OpenSpec.ofChange traceBackwardsWrong)

/-- 'warrantlaw23.TraceFaith': WHATEVER THE INPUT: true; the input reads as it did. -/
def traceFaithSpec : ChangeSpec := { name := "traceFaith", fn := fun _ => fun
  | [d1, d2, d3, d4] => { results := [.lit (.bool true)], args := [d1, d2, d3, d4] }
  | _ => none }
def traceFaithRow : OpenClaim := { program := "ytmgnkohlfbjjnaagreatr", sum := "49ef8695b2854f15c1253d97ed82e82c497c62f3ab089ddfe5a4e2f41608594d", func := "warrant/warrantlaw23.TraceFaith", spec := "traceFaith", inPlace := ["sync/atomic.LoadUint32", "(*internal/sync.Mutex).Lock", "internal/race.Disable", "sync/atomic.CompareAndSwapInt32", "internal/race.Enable", "internal/race.Acquire", "(*internal/sync.Mutex).lockSlow", "internal/sync.runtime_canSpin", "internal/sync.runtime_doSpin", "internal/sync.throw", "internal/sync.runtime_nanotime", "internal/sync.runtime_SemacquireMutex", "sync/atomic.AddInt32", "(*internal/sync.Mutex).Unlock", "internal/race.ReleaseMerge", "(*internal/sync.Mutex).unlockSlow", "internal/sync.fatal", "internal/sync.runtime_Semrelease", "sync/atomic.StoreUint32", "internal/bytealg.Compare", "internal/bytealg.IndexByte"], unfollowed := true, recurses := true, apart := false }
def TraceFaithSaid : Prop := traceFaithRow.holds Tryz.pinned (OpenSpec.ofChange traceFaithSpec)

/-- ITS FALSE NEIGHBOUR: 'it returns false'. Refute it at one input. -/
def traceFaithWrong : ChangeSpec := { name := "traceFaith", fn := fun _ => fun
  | [d1, d2, d3, d4] => { results := [.lit (.bool false)], args := [d1, d2, d3, d4] }
  | _ => none }
def TraceFaithWrongFalsely : Prop := traceFaithRow.holds Tryz.pinned (OpenSpec.ofChange traceFaithWrong)

/- THE SECOND FORM. 'bulk': how many values and letters a reading holds, each counted each time it is reached (what is shared counts as often as it is met; a slice's spare places count too). A statement '..UptoSaid' is the law's where the arguments, and the package variables that the reading takes, are together of bulk at most 1048576: NARROWER than '..Said'. Prove '..Said' where nothing that the law and all that it calls make is longer than what came in: it says more and counts as full. Else prove '..UptoSaid'. A law counts once. -/
mutual
def uptoBulk {H : Type} : DataW H → Nat
  | .lit (.string bytes) => bytes.length + 1
  | .lit _ => 1
  | .nil => 1
  | .ptr d => uptoBulk d + 1
  | .slice elems spare => uptoBulkAll elems + uptoBulkAll spare + 1
  | .agg parts => uptoBulkAll parts + 1
  | .iface _ d => uptoBulk d + 1
  | .map entries => uptoBulkEntries entries + 1
  | .held _ => 1
def uptoBulkAll {H : Type} : List (DataW H) → Nat
  | [] => 0
  | d :: r => uptoBulk d + uptoBulkAll r
def uptoBulkEntries {H : Type} : List (Lit × DataW H) → Nat
  | [] => 0
  | x :: r => uptoBulkEntry x + uptoBulkEntries r
def uptoBulkEntry {H : Type} : Lit × DataW H → Nat
  | (.string bytes, d) => bytes.length + uptoBulk d + 1
  | (_, d) => uptoBulk d + 1
 end
def uptoSmall : (H : Type) → List (DataW H) → Bool := fun _ ds => decide (uptoBulkAll ds ≤ 1048576)
def OpenSpec.upto (s : _root_.Go.ChangeSpec) : _root_.Go.OpenSpec := { _root_.Go.OpenSpec.ofChange s with cond := some uptoSmall }

/-- 'warrantlaw23.TraceNames', WHERE WHAT IT READS IS OF BULK AT MOST 1048576: true; the input reads as it did. -/
def traceNamesUptoRow : OpenClaim := { program := "ytmgnkohlfbjjnaagreatr", sum := "49ef8695b2854f15c1253d97ed82e82c497c62f3ab089ddfe5a4e2f41608594d", func := "warrant/warrantlaw23.TraceNames", spec := "traceNames", inPlace := ["sync/atomic.LoadUint32", "(*internal/sync.Mutex).Lock", "internal/race.Disable", "sync/atomic.CompareAndSwapInt32", "internal/race.Enable", "internal/race.Acquire", "(*internal/sync.Mutex).lockSlow", "internal/sync.runtime_canSpin", "internal/sync.runtime_doSpin", "internal/sync.throw", "internal/sync.runtime_nanotime", "internal/sync.runtime_SemacquireMutex", "sync/atomic.AddInt32", "(*internal/sync.Mutex).Unlock", "internal/race.ReleaseMerge", "(*internal/sync.Mutex).unlockSlow", "internal/sync.fatal", "internal/sync.runtime_Semrelease", "sync/atomic.StoreUint32", "internal/bytealg.Compare", "internal/bytealg.IndexByte"], unfollowed := true, recurses := true, apart := false, narrowed := true }
def TraceNamesUptoSaid : Prop := traceNamesUptoRow.holds Tryz.pinned (OpenSpec.upto traceNamesSpec)

/-- 'warrantlaw23.TraceTakes', WHERE WHAT IT READS IS OF BULK AT MOST 1048576: true; the input reads as it did. -/
def traceTakesUptoRow : OpenClaim := { program := "ytmgnkohlfbjjnaagreatr", sum := "49ef8695b2854f15c1253d97ed82e82c497c62f3ab089ddfe5a4e2f41608594d", func := "warrant/warrantlaw23.TraceTakes", spec := "traceTakes", inPlace := ["sync/atomic.LoadUint32", "(*internal/sync.Mutex).Lock", "internal/race.Disable", "sync/atomic.CompareAndSwapInt32", "internal/race.Enable", "internal/race.Acquire", "(*internal/sync.Mutex).lockSlow", "internal/sync.runtime_canSpin", "internal/sync.runtime_doSpin", "internal/sync.throw", "internal/sync.runtime_nanotime", "internal/sync.runtime_SemacquireMutex", "sync/atomic.AddInt32", "(*internal/sync.Mutex).Unlock", "internal/race.ReleaseMerge", "(*internal/sync.Mutex).unlockSlow", "internal/sync.fatal", "internal/sync.runtime_Semrelease", "sync/atomic.StoreUint32", "internal/bytealg.Compare", "internal/bytealg.IndexByte"], unfollowed := true, recurses := true, apart := false, narrowed := true }
def TraceTakesUptoSaid : Prop := traceTakesUptoRow.holds Tryz.pinned (OpenSpec.upto traceTakesSpec)

/-- 'warrantlaw23.TraceDiffs', WHERE WHAT IT READS IS OF BULK AT MOST 1048576: true; the input reads as it did. -/
def traceDiffsUptoRow : OpenClaim := { program := "ytmgnkohlfbjjnaagreatr", sum := "49ef8695b2854f15c1253d97ed82e82c497c62f3ab089ddfe5a4e2f41608594d", func := "warrant/warrantlaw23.TraceDiffs", spec := "traceDiffs", inPlace := ["sync/atomic.LoadUint32", "(*internal/sync.Mutex).Lock", "internal/race.Disable", "sync/atomic.CompareAndSwapInt32", "internal/race.Enable", "internal/race.Acquire", "(*internal/sync.Mutex).lockSlow", "internal/sync.runtime_canSpin", "internal/sync.runtime_doSpin", "internal/sync.throw", "internal/sync.runtime_nanotime", "internal/sync.runtime_SemacquireMutex", "sync/atomic.AddInt32", "(*internal/sync.Mutex).Unlock", "internal/race.ReleaseMerge", "(*internal/sync.Mutex).unlockSlow", "internal/sync.fatal", "internal/sync.runtime_Semrelease", "sync/atomic.StoreUint32", "internal/bytealg.Compare", "internal/bytealg.IndexByte"], unfollowed := true, recurses := true, apart := false, narrowed := true }
def TraceDiffsUptoSaid : Prop := traceDiffsUptoRow.holds Tryz.pinned (OpenSpec.upto traceDiffsSpec)

/-- 'warrantlaw23.TraceLasts', WHERE WHAT IT READS IS OF BULK AT MOST 1048576: true; the input reads as it did. -/
def traceLastsUptoRow : OpenClaim := { program := "ytmgnkohlfbjjnaagreatr", sum := "49ef8695b2854f15c1253d97ed82e82c497c62f3ab089ddfe5a4e2f41608594d", func := "warrant/warrantlaw23.TraceLasts", spec := "traceLasts", inPlace := ["sync/atomic.LoadUint32", "(*internal/sync.Mutex).Lock", "internal/race.Disable", "sync/atomic.CompareAndSwapInt32", "internal/race.Enable", "internal/race.Acquire", "(*internal/sync.Mutex).lockSlow", "internal/sync.runtime_canSpin", "internal/sync.runtime_doSpin", "internal/sync.throw", "internal/sync.runtime_nanotime", "internal/sync.runtime_SemacquireMutex", "sync/atomic.AddInt32", "(*internal/sync.Mutex).Unlock", "internal/race.ReleaseMerge", "(*internal/sync.Mutex).unlockSlow", "internal/sync.fatal", "internal/sync.runtime_Semrelease", "sync/atomic.StoreUint32", "internal/bytealg.Compare", "internal/bytealg.IndexByte"], unfollowed := true, recurses := true, apart := false, narrowed := true }
def TraceLastsUptoSaid : Prop := traceLastsUptoRow.holds Tryz.pinned (OpenSpec.upto traceLastsSpec)

/-- 'warrantlaw23.TraceAudits', WHERE WHAT IT READS IS OF BULK AT MOST 1048576: true; the input reads as it did. -/
def traceAuditsUptoRow : OpenClaim := { program := "ytmgnkohlfbjjnaagreatr", sum := "49ef8695b2854f15c1253d97ed82e82c497c62f3ab089ddfe5a4e2f41608594d", func := "warrant/warrantlaw23.TraceAudits", spec := "traceAudits", inPlace := ["sync/atomic.LoadUint32", "(*internal/sync.Mutex).Lock", "internal/race.Disable", "sync/atomic.CompareAndSwapInt32", "internal/race.Enable", "internal/race.Acquire", "(*internal/sync.Mutex).lockSlow", "internal/sync.runtime_canSpin", "internal/sync.runtime_doSpin", "internal/sync.throw", "internal/sync.runtime_nanotime", "internal/sync.runtime_SemacquireMutex", "sync/atomic.AddInt32", "(*internal/sync.Mutex).Unlock", "internal/race.ReleaseMerge", "(*internal/sync.Mutex).unlockSlow", "internal/sync.fatal", "internal/sync.runtime_Semrelease", "sync/atomic.StoreUint32", "internal/bytealg.Compare", "internal/bytealg.IndexByte"], unfollowed := true, recurses := true, apart := false, narrowed := true }
def TraceAuditsUptoSaid : Prop := traceAuditsUptoRow.holds Tryz.pinned (OpenSpec.upto traceAuditsSpec)

/-- 'warrantlaw23.TraceEncodes', WHERE WHAT IT READS IS OF BULK AT MOST 1048576: true; the input reads as it did. -/
def traceEncodesUptoRow : OpenClaim := { program := "ytmgnkohlfbjjnaagreatr", sum := "49ef8695b2854f15c1253d97ed82e82c497c62f3ab089ddfe5a4e2f41608594d", func := "warrant/warrantlaw23.TraceEncodes", spec := "traceEncodes", inPlace := ["sync/atomic.LoadUint32", "(*internal/sync.Mutex).Lock", "internal/race.Disable", "sync/atomic.CompareAndSwapInt32", "internal/race.Enable", "internal/race.Acquire", "(*internal/sync.Mutex).lockSlow", "internal/sync.runtime_canSpin", "internal/sync.runtime_doSpin", "internal/sync.throw", "internal/sync.runtime_nanotime", "internal/sync.runtime_SemacquireMutex", "sync/atomic.AddInt32", "(*internal/sync.Mutex).Unlock", "internal/race.ReleaseMerge", "(*internal/sync.Mutex).unlockSlow", "internal/sync.fatal", "internal/sync.runtime_Semrelease", "sync/atomic.StoreUint32", "internal/bytealg.Compare", "internal/bytealg.IndexByte"], unfollowed := true, recurses := true, apart := false, narrowed := true }
def TraceEncodesUptoSaid : Prop := traceEncodesUptoRow.holds Tryz.pinned (OpenSpec.upto traceEncodesSpec)

/-- 'warrantlaw23.TraceDecodes', WHERE WHAT IT READS IS OF BULK AT MOST 1048576: true; the input reads as it did. -/
def traceDecodesUptoRow : OpenClaim := { program := "ytmgnkohlfbjjnaagreatr", sum := "49ef8695b2854f15c1253d97ed82e82c497c62f3ab089ddfe5a4e2f41608594d", func := "warrant/warrantlaw23.TraceDecodes", spec := "traceDecodes", inPlace := ["sync/atomic.LoadUint32", "(*internal/sync.Mutex).Lock", "internal/race.Disable", "sync/atomic.CompareAndSwapInt32", "internal/race.Enable", "internal/race.Acquire", "(*internal/sync.Mutex).lockSlow", "internal/sync.runtime_canSpin", "internal/sync.runtime_doSpin", "internal/sync.throw", "internal/sync.runtime_nanotime", "internal/sync.runtime_SemacquireMutex", "sync/atomic.AddInt32", "(*internal/sync.Mutex).Unlock", "internal/race.ReleaseMerge", "(*internal/sync.Mutex).unlockSlow", "internal/sync.fatal", "internal/sync.runtime_Semrelease", "sync/atomic.StoreUint32", "internal/bytealg.Compare", "internal/bytealg.IndexByte"], unfollowed := true, recurses := true, apart := false, narrowed := true }
def TraceDecodesUptoSaid : Prop := traceDecodesUptoRow.holds Tryz.pinned (OpenSpec.upto traceDecodesSpec)

/-- 'warrantlaw23.TraceOnly', WHERE WHAT IT READS IS OF BULK AT MOST 1048576: true; the input reads as it did. -/
def traceOnlyUptoRow : OpenClaim := { program := "ytmgnkohlfbjjnaagreatr", sum := "49ef8695b2854f15c1253d97ed82e82c497c62f3ab089ddfe5a4e2f41608594d", func := "warrant/warrantlaw23.TraceOnly", spec := "traceOnly", inPlace := ["sync/atomic.LoadUint32", "(*internal/sync.Mutex).Lock", "internal/race.Disable", "sync/atomic.CompareAndSwapInt32", "internal/race.Enable", "internal/race.Acquire", "(*internal/sync.Mutex).lockSlow", "internal/sync.runtime_canSpin", "internal/sync.runtime_doSpin", "internal/sync.throw", "internal/sync.runtime_nanotime", "internal/sync.runtime_SemacquireMutex", "sync/atomic.AddInt32", "(*internal/sync.Mutex).Unlock", "internal/race.ReleaseMerge", "(*internal/sync.Mutex).unlockSlow", "internal/sync.fatal", "internal/sync.runtime_Semrelease", "sync/atomic.StoreUint32", "internal/bytealg.Compare", "internal/bytealg.IndexByte"], unfollowed := true, recurses := true, apart := false, narrowed := true }
def TraceOnlyUptoSaid : Prop := traceOnlyUptoRow.holds Tryz.pinned (OpenSpec.upto traceOnlySpec)

/-- 'warrantlaw23.TraceSpoilt', WHERE WHAT IT READS IS OF BULK AT MOST 1048576: true; the input reads as it did. -/
def traceSpoiltUptoRow : OpenClaim := { program := "ytmgnkohlfbjjnaagreatr", sum := "49ef8695b2854f15c1253d97ed82e82c497c62f3ab089ddfe5a4e2f41608594d", func := "warrant/warrantlaw23.TraceSpoilt", spec := "traceSpoilt", inPlace := ["sync/atomic.LoadUint32", "(*internal/sync.Mutex).Lock", "internal/race.Disable", "sync/atomic.CompareAndSwapInt32", "internal/race.Enable", "internal/race.Acquire", "(*internal/sync.Mutex).lockSlow", "internal/sync.runtime_canSpin", "internal/sync.runtime_doSpin", "internal/sync.throw", "internal/sync.runtime_nanotime", "internal/sync.runtime_SemacquireMutex", "sync/atomic.AddInt32", "(*internal/sync.Mutex).Unlock", "internal/race.ReleaseMerge", "(*internal/sync.Mutex).unlockSlow", "internal/sync.fatal", "internal/sync.runtime_Semrelease", "sync/atomic.StoreUint32", "internal/bytealg.Compare", "internal/bytealg.IndexByte"], unfollowed := true, recurses := true, apart := false, narrowed := true }
def TraceSpoiltUptoSaid : Prop := traceSpoiltUptoRow.holds Tryz.pinned (OpenSpec.upto traceSpoiltSpec)

/-- 'warrantlaw23.TraceBytes', WHERE WHAT IT READS IS OF BULK AT MOST 1048576: true; the input reads as it did. -/
def traceBytesUptoRow : OpenClaim := { program := "ytmgnkohlfbjjnaagreatr", sum := "49ef8695b2854f15c1253d97ed82e82c497c62f3ab089ddfe5a4e2f41608594d", func := "warrant/warrantlaw23.TraceBytes", spec := "traceBytes", inPlace := ["sync/atomic.LoadUint32", "(*internal/sync.Mutex).Lock", "internal/race.Disable", "sync/atomic.CompareAndSwapInt32", "internal/race.Enable", "internal/race.Acquire", "(*internal/sync.Mutex).lockSlow", "internal/sync.runtime_canSpin", "internal/sync.runtime_doSpin", "internal/sync.throw", "internal/sync.runtime_nanotime", "internal/sync.runtime_SemacquireMutex", "sync/atomic.AddInt32", "(*internal/sync.Mutex).Unlock", "internal/race.ReleaseMerge", "(*internal/sync.Mutex).unlockSlow", "internal/sync.fatal", "internal/sync.runtime_Semrelease", "sync/atomic.StoreUint32", "internal/bytealg.Compare", "internal/bytealg.IndexByte"], unfollowed := true, recurses := true, apart := false, narrowed := true }
def TraceBytesUptoSaid : Prop := traceBytesUptoRow.holds Tryz.pinned (OpenSpec.upto traceBytesSpec)

/-- 'warrantlaw23.TraceForth', WHERE WHAT IT READS IS OF BULK AT MOST 1048576: true; the input reads as it did. -/
def traceForthUptoRow : OpenClaim := { program := "ytmgnkohlfbjjnaagreatr", sum := "49ef8695b2854f15c1253d97ed82e82c497c62f3ab089ddfe5a4e2f41608594d", func := "warrant/warrantlaw23.TraceForth", spec := "traceForth", inPlace := ["sync/atomic.LoadUint32", "(*internal/sync.Mutex).Lock", "internal/race.Disable", "sync/atomic.CompareAndSwapInt32", "internal/race.Enable", "internal/race.Acquire", "(*internal/sync.Mutex).lockSlow", "internal/sync.runtime_canSpin", "internal/sync.runtime_doSpin", "internal/sync.throw", "internal/sync.runtime_nanotime", "internal/sync.runtime_SemacquireMutex", "sync/atomic.AddInt32", "(*internal/sync.Mutex).Unlock", "internal/race.ReleaseMerge", "(*internal/sync.Mutex).unlockSlow", "internal/sync.fatal", "internal/sync.runtime_Semrelease", "sync/atomic.StoreUint32", "internal/bytealg.Compare", "internal/bytealg.IndexByte"], unfollowed := true, recurses := true, apart := false, narrowed := true }
def TraceForthUptoSaid : Prop := traceForthUptoRow.holds Tryz.pinned (OpenSpec.upto traceForthSpec)

/-- 'warrantlaw23.TraceFinds', WHERE WHAT IT READS IS OF BULK AT MOST 1048576: true; the input reads as it did. -/
def traceFindsUptoRow : OpenClaim := { program := "ytmgnkohlfbjjnaagreatr", sum := "49ef8695b2854f15c1253d97ed82e82c497c62f3ab089ddfe5a4e2f41608594d", func := "warrant/warrantlaw23.TraceFinds", spec := "traceFinds", inPlace := ["sync/atomic.LoadUint32", "(*internal/sync.Mutex).Lock", "internal/race.Disable", "sync/atomic.CompareAndSwapInt32", "internal/race.Enable", "internal/race.Acquire", "(*internal/sync.Mutex).lockSlow", "internal/sync.runtime_canSpin", "internal/sync.runtime_doSpin", "internal/sync.throw", "internal/sync.runtime_nanotime", "internal/sync.runtime_SemacquireMutex", "sync/atomic.AddInt32", "(*internal/sync.Mutex).Unlock", "internal/race.ReleaseMerge", "(*internal/sync.Mutex).unlockSlow", "internal/sync.fatal", "internal/sync.runtime_Semrelease", "sync/atomic.StoreUint32", "internal/bytealg.Compare", "internal/bytealg.IndexByte"], unfollowed := true, recurses := true, apart := false, narrowed := true }
def TraceFindsUptoSaid : Prop := traceFindsUptoRow.holds Tryz.pinned (OpenSpec.upto traceFindsSpec)

/-- 'warrantlaw23.TraceSends', WHERE WHAT IT READS IS OF BULK AT MOST 1048576: true; the input reads as it did. -/
def traceSendsUptoRow : OpenClaim := { program := "ytmgnkohlfbjjnaagreatr", sum := "49ef8695b2854f15c1253d97ed82e82c497c62f3ab089ddfe5a4e2f41608594d", func := "warrant/warrantlaw23.TraceSends", spec := "traceSends", inPlace := ["sync/atomic.LoadUint32", "(*internal/sync.Mutex).Lock", "internal/race.Disable", "sync/atomic.CompareAndSwapInt32", "internal/race.Enable", "internal/race.Acquire", "(*internal/sync.Mutex).lockSlow", "internal/sync.runtime_canSpin", "internal/sync.runtime_doSpin", "internal/sync.throw", "internal/sync.runtime_nanotime", "internal/sync.runtime_SemacquireMutex", "sync/atomic.AddInt32", "(*internal/sync.Mutex).Unlock", "internal/race.ReleaseMerge", "(*internal/sync.Mutex).unlockSlow", "internal/sync.fatal", "internal/sync.runtime_Semrelease", "sync/atomic.StoreUint32", "internal/bytealg.Compare", "internal/bytealg.IndexByte"], unfollowed := true, recurses := true, apart := false, narrowed := true }
def TraceSendsUptoSaid : Prop := traceSendsUptoRow.holds Tryz.pinned (OpenSpec.upto traceSendsSpec)

/-- 'warrantlaw23.TracePlays', WHERE WHAT IT READS IS OF BULK AT MOST 1048576: true; the input reads as it did. -/
def tracePlaysUptoRow : OpenClaim := { program := "ytmgnkohlfbjjnaagreatr", sum := "49ef8695b2854f15c1253d97ed82e82c497c62f3ab089ddfe5a4e2f41608594d", func := "warrant/warrantlaw23.TracePlays", spec := "tracePlays", inPlace := ["sync/atomic.LoadUint32", "(*internal/sync.Mutex).Lock", "internal/race.Disable", "sync/atomic.CompareAndSwapInt32", "internal/race.Enable", "internal/race.Acquire", "(*internal/sync.Mutex).lockSlow", "internal/sync.runtime_canSpin", "internal/sync.runtime_doSpin", "internal/sync.throw", "internal/sync.runtime_nanotime", "internal/sync.runtime_SemacquireMutex", "sync/atomic.AddInt32", "(*internal/sync.Mutex).Unlock", "internal/race.ReleaseMerge", "(*internal/sync.Mutex).unlockSlow", "internal/sync.fatal", "internal/sync.runtime_Semrelease", "sync/atomic.StoreUint32", "internal/bytealg.Compare", "internal/bytealg.IndexByte"], unfollowed := true, recurses := true, apart := false, narrowed := true }
def TracePlaysUptoSaid : Prop := tracePlaysUptoRow.holds Tryz.pinned (OpenSpec.upto tracePlaysSpec)

/-- 'warrantlaw23.TraceFresh', WHERE WHAT IT READS IS OF BULK AT MOST 1048576: true; the input reads as it did. -/
def traceFreshUptoRow : OpenClaim := { program := "ytmgnkohlfbjjnaagreatr", sum := "49ef8695b2854f15c1253d97ed82e82c497c62f3ab089ddfe5a4e2f41608594d", func := "warrant/warrantlaw23.TraceFresh", spec := "traceFresh", inPlace := ["sync/atomic.LoadUint32", "(*internal/sync.Mutex).Lock", "internal/race.Disable", "sync/atomic.CompareAndSwapInt32", "internal/race.Enable", "internal/race.Acquire", "(*internal/sync.Mutex).lockSlow", "internal/sync.runtime_canSpin", "internal/sync.runtime_doSpin", "internal/sync.throw", "internal/sync.runtime_nanotime", "internal/sync.runtime_SemacquireMutex", "sync/atomic.AddInt32", "(*internal/sync.Mutex).Unlock", "internal/race.ReleaseMerge", "(*internal/sync.Mutex).unlockSlow", "internal/sync.fatal", "internal/sync.runtime_Semrelease", "sync/atomic.StoreUint32", "internal/bytealg.Compare", "internal/bytealg.IndexByte"], unfollowed := true, recurses := true, apart := false, narrowed := true }
def TraceFreshUptoSaid : Prop := traceFreshUptoRow.holds Tryz.pinned (OpenSpec.upto traceFreshSpec)

/-- 'warrantlaw23.TraceApplies', WHERE WHAT IT READS IS OF BULK AT MOST 1048576: true; the input reads as it did. -/
def traceAppliesUptoRow : OpenClaim := { program := "ytmgnkohlfbjjnaagreatr", sum := "49ef8695b2854f15c1253d97ed82e82c497c62f3ab089ddfe5a4e2f41608594d", func := "warrant/warrantlaw23.TraceApplies", spec := "traceApplies", inPlace := ["sync/atomic.LoadUint32", "(*internal/sync.Mutex).Lock", "internal/race.Disable", "sync/atomic.CompareAndSwapInt32", "internal/race.Enable", "internal/race.Acquire", "(*internal/sync.Mutex).lockSlow", "internal/sync.runtime_canSpin", "internal/sync.runtime_doSpin", "internal/sync.throw", "internal/sync.runtime_nanotime", "internal/sync.runtime_SemacquireMutex", "sync/atomic.AddInt32", "(*internal/sync.Mutex).Unlock", "internal/race.ReleaseMerge", "(*internal/sync.Mutex).unlockSlow", "internal/sync.fatal", "internal/sync.runtime_Semrelease", "sync/atomic.StoreUint32", "internal/bytealg.Compare", "internal/bytealg.IndexByte"], unfollowed := true, recurses := true, apart := false, narrowed := true }
def TraceAppliesUptoSaid : Prop := traceAppliesUptoRow.holds Tryz.pinned (OpenSpec.upto traceAppliesSpec)

/-- 'warrantlaw23.TraceThere', WHERE WHAT IT READS IS OF BULK AT MOST 1048576: true; the input reads as it did. -/
def traceThereUptoRow : OpenClaim := { program := "ytmgnkohlfbjjnaagreatr", sum := "49ef8695b2854f15c1253d97ed82e82c497c62f3ab089ddfe5a4e2f41608594d", func := "warrant/warrantlaw23.TraceThere", spec := "traceThere", inPlace := ["sync/atomic.LoadUint32", "(*internal/sync.Mutex).Lock", "internal/race.Disable", "sync/atomic.CompareAndSwapInt32", "internal/race.Enable", "internal/race.Acquire", "(*internal/sync.Mutex).lockSlow", "internal/sync.runtime_canSpin", "internal/sync.runtime_doSpin", "internal/sync.throw", "internal/sync.runtime_nanotime", "internal/sync.runtime_SemacquireMutex", "sync/atomic.AddInt32", "(*internal/sync.Mutex).Unlock", "internal/race.ReleaseMerge", "(*internal/sync.Mutex).unlockSlow", "internal/sync.fatal", "internal/sync.runtime_Semrelease", "sync/atomic.StoreUint32", "internal/bytealg.Compare", "internal/bytealg.IndexByte"], unfollowed := true, recurses := true, apart := false, narrowed := true }
def TraceThereUptoSaid : Prop := traceThereUptoRow.holds Tryz.pinned (OpenSpec.upto traceThereSpec)

/-- 'warrantlaw23.TraceBackwards', WHERE WHAT IT READS IS OF BULK AT MOST 1048576: true; the input reads as it did. -/
def traceBackwardsUptoRow : OpenClaim := { program := "ytmgnkohlfbjjnaagreatr", sum := "49ef8695b2854f15c1253d97ed82e82c497c62f3ab089ddfe5a4e2f41608594d", func := "warrant/warrantlaw23.TraceBackwards", spec := "traceBackwards", inPlace := ["sync/atomic.LoadUint32", "(*internal/sync.Mutex).Lock", "internal/race.Disable", "sync/atomic.CompareAndSwapInt32", "internal/race.Enable", "internal/race.Acquire", "(*internal/sync.Mutex).lockSlow", "internal/sync.runtime_canSpin", "internal/sync.runtime_doSpin", "internal/sync.throw", "internal/sync.runtime_nanotime", "internal/sync.runtime_SemacquireMutex", "sync/atomic.AddInt32", "(*internal/sync.Mutex).Unlock", "internal/race.ReleaseMerge", "(*internal/sync.Mutex).unlockSlow", "internal/sync.fatal", "internal/sync.runtime_Semrelease", "sync/atomic.StoreUint32", "internal/bytealg.Compare", "internal/bytealg.IndexByte"], unfollowed := true, recurses := true, apart := false, narrowed := true }
def TraceBackwardsUptoSaid : Prop := traceBackwardsUptoRow.holds Tryz.pinned (OpenSpec.upto traceBackwardsSpec)

/-- 'warrantlaw23.TraceFaith', WHERE WHAT IT READS IS OF BULK AT MOST 1048576: true; the input reads as it did. -/
def traceFaithUptoRow : OpenClaim := { program := "ytmgnkohlfbjjnaagreatr", sum := "49ef8695b2854f15c1253d97ed82e82c497c62f3ab089ddfe5a4e2f41608594d", func := "warrant/warrantlaw23.TraceFaith", spec := "traceFaith", inPlace := ["sync/atomic.LoadUint32", "(*internal/sync.Mutex).Lock", "internal/race.Disable", "sync/atomic.CompareAndSwapInt32", "internal/race.Enable", "internal/race.Acquire", "(*internal/sync.Mutex).lockSlow", "internal/sync.runtime_canSpin", "internal/sync.runtime_doSpin", "internal/sync.throw", "internal/sync.runtime_nanotime", "internal/sync.runtime_SemacquireMutex", "sync/atomic.AddInt32", "(*internal/sync.Mutex).Unlock", "internal/race.ReleaseMerge", "(*internal/sync.Mutex).unlockSlow", "internal/sync.fatal", "internal/sync.runtime_Semrelease", "sync/atomic.StoreUint32", "internal/bytealg.Compare", "internal/bytealg.IndexByte"], unfollowed := true, recurses := true, apart := false, narrowed := true }
def TraceFaithUptoSaid : Prop := traceFaithUptoRow.holds Tryz.pinned (OpenSpec.upto traceFaithSpec)

end Rows
end Go.Proofs.YtmgnkohlfbjjnaaGreatR
