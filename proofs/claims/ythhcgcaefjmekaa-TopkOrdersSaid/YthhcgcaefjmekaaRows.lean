/-
  No cell of these rows narrows 'for every input' (looked for: loops, veiled, ifaces, maps, wideKeys, modest, calm, conditions, laid).
  DERIVED. THE GIVEN ROWS OF THIS SEAT. 16 by the template 'for every input the law returns true; each argument reads behind the call as it read before'; 0 by the template 'total and deterministic' (their statements: YthhcgcaefjmekaaTotals.lean).
  GIVEN WITH THE SEED: the statements are not yours to turn. If you find one false, say at which input.
  Laid BY PROGRAM, IN A SANDBOX (cutbox-rows.mjs): the forced cells as the released guide's own fill.sh prints them over the translation 81cecbbb336cb8e4… (all of the seat's roots in one cut). By AI agents, Wed Nov 11 2026. No macro, syntax, notation, axiom, sorry.
-/
import Derived.Test.YthhcgcaefjmekaaChecked
import GoSem.Claim
import GoSem.ClaimJoined
import GoSem.ClaimMapViews
import Derived.JoinedTies
import Derived.KernelRfl
namespace Go.Proofs.Ythhcgcaefjmekaa
/- THE CELL 'sum', in the pinned program and in every row, IS THE sha256 OF THE DUMP (.gsa) THAT YthhcgcaefjmekaaProg.lean LOADS. Nothing in Lean hashes anything: it is a label: what it is worth is what the hold of that sum in a sandbox is worth. -/
noncomputable def Try.pinned : Pinned := { name := "ythhcgcaefjmekaa", sum := "81cecbbb336cb8e431812f5e8fc04e10aa7bb08a3370bb6bbcdbfa5eae9fd3b0", checked := Try.checked }
namespace Rows
def none {H : Type} : Left H := { results := [], args := [] }

/-- 'thrumlaw20.StoreHalves': WHATEVER THE INPUT: true; the input reads as it did. -/
def storeHalvesSpec : ChangeSpec := { name := "storeHalves", fn := fun _ => fun
  | [d1, d2, d3] => { results := [.lit (.bool true)], args := [d1, d2, d3] }
  | _ => none }
def storeHalvesRow : OpenClaim := { program := "ythhcgcaefjmekaa", sum := "81cecbbb336cb8e431812f5e8fc04e10aa7bb08a3370bb6bbcdbfa5eae9fd3b0", func := "thrum/thrumlaw20.StoreHalves", spec := "storeHalves", inPlace := ["sync/atomic.LoadUint32", "(*internal/sync.Mutex).Lock", "internal/race.Disable", "sync/atomic.CompareAndSwapInt32", "internal/race.Enable", "internal/race.Acquire", "(*internal/sync.Mutex).lockSlow", "internal/sync.runtime_canSpin", "internal/sync.runtime_doSpin", "internal/sync.throw", "internal/sync.runtime_nanotime", "internal/sync.runtime_SemacquireMutex", "sync/atomic.AddInt32", "(*internal/sync.Mutex).Unlock", "internal/race.ReleaseMerge", "(*internal/sync.Mutex).unlockSlow", "internal/sync.fatal", "internal/sync.runtime_Semrelease", "sync/atomic.StoreUint32"], unfollowed := true, recurses := true, apart := false }
def StoreHalvesSaid : Prop := storeHalvesRow.holds Try.pinned (OpenSpec.ofChange storeHalvesSpec)

/-- ITS FALSE NEIGHBOUR: 'it returns false'. Refute it at one input. -/
def storeHalvesWrong : ChangeSpec := { name := "storeHalves", fn := fun _ => fun
  | [d1, d2, d3] => { results := [.lit (.bool false)], args := [d1, d2, d3] }
  | _ => none }
def StoreHalvesWrongFalsely : Prop := storeHalvesRow.holds Try.pinned (OpenSpec.ofChange storeHalvesWrong)

/-- 'thrumlaw20.StoreKeeps': WHATEVER THE INPUT: true; the input reads as it did. -/
def storeKeepsSpec : ChangeSpec := { name := "storeKeeps", fn := fun _ => fun
  | [d1, d2] => { results := [.lit (.bool true)], args := [d1, d2] }
  | _ => none }
def storeKeepsRow : OpenClaim := { program := "ythhcgcaefjmekaa", sum := "81cecbbb336cb8e431812f5e8fc04e10aa7bb08a3370bb6bbcdbfa5eae9fd3b0", func := "thrum/thrumlaw20.StoreKeeps", spec := "storeKeeps", inPlace := ["sync/atomic.LoadUint32", "(*internal/sync.Mutex).Lock", "internal/race.Disable", "sync/atomic.CompareAndSwapInt32", "internal/race.Enable", "internal/race.Acquire", "(*internal/sync.Mutex).lockSlow", "internal/sync.runtime_canSpin", "internal/sync.runtime_doSpin", "internal/sync.throw", "internal/sync.runtime_nanotime", "internal/sync.runtime_SemacquireMutex", "sync/atomic.AddInt32", "(*internal/sync.Mutex).Unlock", "internal/race.ReleaseMerge", "(*internal/sync.Mutex).unlockSlow", "internal/sync.fatal", "internal/sync.runtime_Semrelease", "sync/atomic.StoreUint32"], unfollowed := true, recurses := true, apart := false }
def StoreKeepsSaid : Prop := storeKeepsRow.holds Try.pinned (OpenSpec.ofChange storeKeepsSpec)

/-- ITS FALSE NEIGHBOUR: 'it returns false'. Refute it at one input. -/
def storeKeepsWrong : ChangeSpec := { name := "storeKeeps", fn := fun _ => fun
  | [d1, d2] => { results := [.lit (.bool false)], args := [d1, d2] }
  | _ => none }
def StoreKeepsWrongFalsely : Prop := storeKeepsRow.holds Try.pinned (OpenSpec.ofChange storeKeepsWrong)

/-- 'thrumlaw20.StoreNumbers': WHATEVER THE INPUT: true; the input reads as it did. -/
def storeNumbersSpec : ChangeSpec := { name := "storeNumbers", fn := fun _ => fun
  | [d1, d2, d3] => { results := [.lit (.bool true)], args := [d1, d2, d3] }
  | _ => none }
def storeNumbersRow : OpenClaim := { program := "ythhcgcaefjmekaa", sum := "81cecbbb336cb8e431812f5e8fc04e10aa7bb08a3370bb6bbcdbfa5eae9fd3b0", func := "thrum/thrumlaw20.StoreNumbers", spec := "storeNumbers", inPlace := ["sync/atomic.LoadUint32", "(*internal/sync.Mutex).Lock", "internal/race.Disable", "sync/atomic.CompareAndSwapInt32", "internal/race.Enable", "internal/race.Acquire", "(*internal/sync.Mutex).lockSlow", "internal/sync.runtime_canSpin", "internal/sync.runtime_doSpin", "internal/sync.throw", "internal/sync.runtime_nanotime", "internal/sync.runtime_SemacquireMutex", "sync/atomic.AddInt32", "(*internal/sync.Mutex).Unlock", "internal/race.ReleaseMerge", "(*internal/sync.Mutex).unlockSlow", "internal/sync.fatal", "internal/sync.runtime_Semrelease", "sync/atomic.StoreUint32"], unfollowed := true, recurses := true, apart := false }
def StoreNumbersSaid : Prop := storeNumbersRow.holds Try.pinned (OpenSpec.ofChange storeNumbersSpec)

/-- ITS FALSE NEIGHBOUR: 'it returns false'. Refute it at one input. -/
def storeNumbersWrong : ChangeSpec := { name := "storeNumbers", fn := fun _ => fun
  | [d1, d2, d3] => { results := [.lit (.bool false)], args := [d1, d2, d3] }
  | _ => none }
def StoreNumbersWrongFalsely : Prop := storeNumbersRow.holds Try.pinned (OpenSpec.ofChange storeNumbersWrong)

/-- 'thrumlaw07.FrameBends': WHATEVER THE INPUT: true; the input reads as it did. -/
def frameBendsSpec : ChangeSpec := { name := "frameBends", fn := fun _ => fun
  | [d] => { results := [.lit (.bool true)], args := [d] }
  | _ => none }
def frameBendsRow : OpenClaim := { program := "ythhcgcaefjmekaa", sum := "81cecbbb336cb8e431812f5e8fc04e10aa7bb08a3370bb6bbcdbfa5eae9fd3b0", func := "thrum/thrumlaw07.FrameBends", spec := "frameBends", inPlace := ["sync/atomic.LoadUint32", "(*internal/sync.Mutex).Lock", "internal/race.Disable", "sync/atomic.CompareAndSwapInt32", "internal/race.Enable", "internal/race.Acquire", "(*internal/sync.Mutex).lockSlow", "internal/sync.runtime_canSpin", "internal/sync.runtime_doSpin", "internal/sync.throw", "internal/sync.runtime_nanotime", "internal/sync.runtime_SemacquireMutex", "sync/atomic.AddInt32", "(*internal/sync.Mutex).Unlock", "internal/race.ReleaseMerge", "(*internal/sync.Mutex).unlockSlow", "internal/sync.fatal", "internal/sync.runtime_Semrelease", "sync/atomic.StoreUint32"], unfollowed := true, recurses := true, apart := false }
def FrameBendsSaid : Prop := frameBendsRow.holds Try.pinned (OpenSpec.ofChange frameBendsSpec)

/-- ITS FALSE NEIGHBOUR: 'it returns false'. Refute it at one input. -/
def frameBendsWrong : ChangeSpec := { name := "frameBends", fn := fun _ => fun
  | [d] => { results := [.lit (.bool false)], args := [d] }
  | _ => none }
def FrameBendsWrongFalsely : Prop := frameBendsRow.holds Try.pinned (OpenSpec.ofChange frameBendsWrong)

/-- 'thrumlaw20.StoreDoes': WHATEVER THE INPUT: true; the input reads as it did. -/
def storeDoesSpec : ChangeSpec := { name := "storeDoes", fn := fun _ => fun
  | [d1, d2, d3, d4, d5] => { results := [.lit (.bool true)], args := [d1, d2, d3, d4, d5] }
  | _ => none }
def storeDoesRow : OpenClaim := { program := "ythhcgcaefjmekaa", sum := "81cecbbb336cb8e431812f5e8fc04e10aa7bb08a3370bb6bbcdbfa5eae9fd3b0", func := "thrum/thrumlaw20.StoreDoes", spec := "storeDoes", inPlace := ["sync/atomic.LoadUint32", "(*internal/sync.Mutex).Lock", "internal/race.Disable", "sync/atomic.CompareAndSwapInt32", "internal/race.Enable", "internal/race.Acquire", "(*internal/sync.Mutex).lockSlow", "internal/sync.runtime_canSpin", "internal/sync.runtime_doSpin", "internal/sync.throw", "internal/sync.runtime_nanotime", "internal/sync.runtime_SemacquireMutex", "sync/atomic.AddInt32", "(*internal/sync.Mutex).Unlock", "internal/race.ReleaseMerge", "(*internal/sync.Mutex).unlockSlow", "internal/sync.fatal", "internal/sync.runtime_Semrelease", "sync/atomic.StoreUint32"], unfollowed := true, recurses := true, apart := false }
def StoreDoesSaid : Prop := storeDoesRow.holds Try.pinned (OpenSpec.ofChange storeDoesSpec)

/-- ITS FALSE NEIGHBOUR: 'it returns false'. Refute it at one input. -/
def storeDoesWrong : ChangeSpec := { name := "storeDoes", fn := fun _ => fun
  | [d1, d2, d3, d4, d5] => { results := [.lit (.bool false)], args := [d1, d2, d3, d4, d5] }
  | _ => none }
def StoreDoesWrongFalsely : Prop := storeDoesRow.holds Try.pinned (OpenSpec.ofChange storeDoesWrong)

/-- 'thrumlaw07.FrameApart': WHATEVER THE INPUT: true; the input reads as it did. -/
def frameApartSpec : ChangeSpec := { name := "frameApart", fn := fun _ => fun
  | [d1, d2] => { results := [.lit (.bool true)], args := [d1, d2] }
  | _ => none }
def frameApartRow : OpenClaim := { program := "ythhcgcaefjmekaa", sum := "81cecbbb336cb8e431812f5e8fc04e10aa7bb08a3370bb6bbcdbfa5eae9fd3b0", func := "thrum/thrumlaw07.FrameApart", spec := "frameApart", inPlace := ["sync/atomic.LoadUint32", "(*internal/sync.Mutex).Lock", "internal/race.Disable", "sync/atomic.CompareAndSwapInt32", "internal/race.Enable", "internal/race.Acquire", "(*internal/sync.Mutex).lockSlow", "internal/sync.runtime_canSpin", "internal/sync.runtime_doSpin", "internal/sync.throw", "internal/sync.runtime_nanotime", "internal/sync.runtime_SemacquireMutex", "sync/atomic.AddInt32", "(*internal/sync.Mutex).Unlock", "internal/race.ReleaseMerge", "(*internal/sync.Mutex).unlockSlow", "internal/sync.fatal", "internal/sync.runtime_Semrelease", "sync/atomic.StoreUint32"], unfollowed := true, recurses := true, apart := false }
def FrameApartSaid : Prop := frameApartRow.holds Try.pinned (OpenSpec.ofChange frameApartSpec)

/-- ITS FALSE NEIGHBOUR: 'it returns false'. Refute it at one input. -/
def frameApartWrong : ChangeSpec := { name := "frameApart", fn := fun _ => fun
  | [d1, d2] => { results := [.lit (.bool false)], args := [d1, d2] }
  | _ => none }
def FrameApartWrongFalsely : Prop := frameApartRow.holds Try.pinned (OpenSpec.ofChange frameApartWrong)

/-- 'thrumlaw20.StoreLays': WHATEVER THE INPUT: true; the input reads as it did. -/
def storeLaysSpec : ChangeSpec := { name := "storeLays", fn := fun _ => fun
  | [d1, d2, d3] => { results := [.lit (.bool true)], args := [d1, d2, d3] }
  | _ => none }
def storeLaysRow : OpenClaim := { program := "ythhcgcaefjmekaa", sum := "81cecbbb336cb8e431812f5e8fc04e10aa7bb08a3370bb6bbcdbfa5eae9fd3b0", func := "thrum/thrumlaw20.StoreLays", spec := "storeLays", inPlace := ["sync/atomic.LoadUint32", "(*internal/sync.Mutex).Lock", "internal/race.Disable", "sync/atomic.CompareAndSwapInt32", "internal/race.Enable", "internal/race.Acquire", "(*internal/sync.Mutex).lockSlow", "internal/sync.runtime_canSpin", "internal/sync.runtime_doSpin", "internal/sync.throw", "internal/sync.runtime_nanotime", "internal/sync.runtime_SemacquireMutex", "sync/atomic.AddInt32", "(*internal/sync.Mutex).Unlock", "internal/race.ReleaseMerge", "(*internal/sync.Mutex).unlockSlow", "internal/sync.fatal", "internal/sync.runtime_Semrelease", "sync/atomic.StoreUint32"], unfollowed := true, recurses := true, apart := false }
def StoreLaysSaid : Prop := storeLaysRow.holds Try.pinned (OpenSpec.ofChange storeLaysSpec)

/-- ITS FALSE NEIGHBOUR: 'it returns false'. Refute it at one input. -/
def storeLaysWrong : ChangeSpec := { name := "storeLays", fn := fun _ => fun
  | [d1, d2, d3] => { results := [.lit (.bool false)], args := [d1, d2, d3] }
  | _ => none }
def StoreLaysWrongFalsely : Prop := storeLaysRow.holds Try.pinned (OpenSpec.ofChange storeLaysWrong)

/-- 'thrumlaw20.StoreBack': WHATEVER THE INPUT: true; the input reads as it did. -/
def storeBackSpec : ChangeSpec := { name := "storeBack", fn := fun _ => fun
  | [d1, d2, d3, d4] => { results := [.lit (.bool true)], args := [d1, d2, d3, d4] }
  | _ => none }
def storeBackRow : OpenClaim := { program := "ythhcgcaefjmekaa", sum := "81cecbbb336cb8e431812f5e8fc04e10aa7bb08a3370bb6bbcdbfa5eae9fd3b0", func := "thrum/thrumlaw20.StoreBack", spec := "storeBack", inPlace := ["sync/atomic.LoadUint32", "(*internal/sync.Mutex).Lock", "internal/race.Disable", "sync/atomic.CompareAndSwapInt32", "internal/race.Enable", "internal/race.Acquire", "(*internal/sync.Mutex).lockSlow", "internal/sync.runtime_canSpin", "internal/sync.runtime_doSpin", "internal/sync.throw", "internal/sync.runtime_nanotime", "internal/sync.runtime_SemacquireMutex", "sync/atomic.AddInt32", "(*internal/sync.Mutex).Unlock", "internal/race.ReleaseMerge", "(*internal/sync.Mutex).unlockSlow", "internal/sync.fatal", "internal/sync.runtime_Semrelease", "sync/atomic.StoreUint32"], unfollowed := true, recurses := true, apart := false }
def StoreBackSaid : Prop := storeBackRow.holds Try.pinned (OpenSpec.ofChange storeBackSpec)

/-- ITS FALSE NEIGHBOUR: 'it returns false'. Refute it at one input. -/
def storeBackWrong : ChangeSpec := { name := "storeBack", fn := fun _ => fun
  | [d1, d2, d3, d4] => { results := [.lit (.bool false)], args := [d1, d2, d3, d4] }
  | _ => none }
def StoreBackWrongFalsely : Prop := storeBackRow.holds Try.pinned (OpenSpec.ofChange storeBackWrong)

/-- 'thrumlaw09.TopkMore': WHATEVER THE INPUT: true; the input reads as it did. -/
def topkMoreSpec : ChangeSpec := { name := "topkMore", fn := fun _ => fun
  | [d1, d2] => { results := [.lit (.bool true)], args := [d1, d2] }
  | _ => none }
def topkMoreRow : OpenClaim := { program := "ythhcgcaefjmekaa", sum := "81cecbbb336cb8e431812f5e8fc04e10aa7bb08a3370bb6bbcdbfa5eae9fd3b0", func := "thrum/thrumlaw09.TopkMore", spec := "topkMore", unfollowed := true, recurses := true, apart := false }
def TopkMoreSaid : Prop := topkMoreRow.holds Try.pinned (OpenSpec.ofChange topkMoreSpec)

/-- ITS FALSE NEIGHBOUR: 'it returns false'. Refute it at one input. -/
def topkMoreWrong : ChangeSpec := { name := "topkMore", fn := fun _ => fun
  | [d1, d2] => { results := [.lit (.bool false)], args := [d1, d2] }
  | _ => none }
def TopkMoreWrongFalsely : Prop := topkMoreRow.holds Try.pinned (OpenSpec.ofChange topkMoreWrong)

/-- 'thrumlaw09.TopkGreatest': WHATEVER THE INPUT: true; the input reads as it did. -/
def topkGreatestSpec : ChangeSpec := { name := "topkGreatest", fn := fun _ => fun
  | [d1, d2] => { results := [.lit (.bool true)], args := [d1, d2] }
  | _ => none }
def topkGreatestRow : OpenClaim := { program := "ythhcgcaefjmekaa", sum := "81cecbbb336cb8e431812f5e8fc04e10aa7bb08a3370bb6bbcdbfa5eae9fd3b0", func := "thrum/thrumlaw09.TopkGreatest", spec := "topkGreatest", unfollowed := true, recurses := true, apart := false }
def TopkGreatestSaid : Prop := topkGreatestRow.holds Try.pinned (OpenSpec.ofChange topkGreatestSpec)

/-- ITS FALSE NEIGHBOUR: 'it returns false'. Refute it at one input. -/
def topkGreatestWrong : ChangeSpec := { name := "topkGreatest", fn := fun _ => fun
  | [d1, d2] => { results := [.lit (.bool false)], args := [d1, d2] }
  | _ => none }
def TopkGreatestWrongFalsely : Prop := topkGreatestRow.holds Try.pinned (OpenSpec.ofChange topkGreatestWrong)

/-- 'thrumlaw07.FrameAcks': WHATEVER THE INPUT: true; the input reads as it did. -/
def frameAcksSpec : ChangeSpec := { name := "frameAcks", fn := fun _ => fun
  | [d1, d2] => { results := [.lit (.bool true)], args := [d1, d2] }
  | _ => none }
def frameAcksRow : OpenClaim := { program := "ythhcgcaefjmekaa", sum := "81cecbbb336cb8e431812f5e8fc04e10aa7bb08a3370bb6bbcdbfa5eae9fd3b0", func := "thrum/thrumlaw07.FrameAcks", spec := "frameAcks", inPlace := ["sync/atomic.LoadUint32", "(*internal/sync.Mutex).Lock", "internal/race.Disable", "sync/atomic.CompareAndSwapInt32", "internal/race.Enable", "internal/race.Acquire", "(*internal/sync.Mutex).lockSlow", "internal/sync.runtime_canSpin", "internal/sync.runtime_doSpin", "internal/sync.throw", "internal/sync.runtime_nanotime", "internal/sync.runtime_SemacquireMutex", "sync/atomic.AddInt32", "(*internal/sync.Mutex).Unlock", "internal/race.ReleaseMerge", "(*internal/sync.Mutex).unlockSlow", "internal/sync.fatal", "internal/sync.runtime_Semrelease", "sync/atomic.StoreUint32"], unfollowed := true, recurses := true, apart := false }
def FrameAcksSaid : Prop := frameAcksRow.holds Try.pinned (OpenSpec.ofChange frameAcksSpec)

/-- ITS FALSE NEIGHBOUR: 'it returns false'. Refute it at one input. -/
def frameAcksWrong : ChangeSpec := { name := "frameAcks", fn := fun _ => fun
  | [d1, d2] => { results := [.lit (.bool false)], args := [d1, d2] }
  | _ => none }
def FrameAcksWrongFalsely : Prop := frameAcksRow.holds Try.pinned (OpenSpec.ofChange frameAcksWrong)

/-- 'thrumlaw07.FrameBack': WHATEVER THE INPUT: true; the input reads as it did. -/
def frameBackSpec : ChangeSpec := { name := "frameBack", fn := fun _ => fun
  | [d1, d2] => { results := [.lit (.bool true)], args := [d1, d2] }
  | _ => none }
def frameBackRow : OpenClaim := { program := "ythhcgcaefjmekaa", sum := "81cecbbb336cb8e431812f5e8fc04e10aa7bb08a3370bb6bbcdbfa5eae9fd3b0", func := "thrum/thrumlaw07.FrameBack", spec := "frameBack", inPlace := ["sync/atomic.LoadUint32", "(*internal/sync.Mutex).Lock", "internal/race.Disable", "sync/atomic.CompareAndSwapInt32", "internal/race.Enable", "internal/race.Acquire", "(*internal/sync.Mutex).lockSlow", "internal/sync.runtime_canSpin", "internal/sync.runtime_doSpin", "internal/sync.throw", "internal/sync.runtime_nanotime", "internal/sync.runtime_SemacquireMutex", "sync/atomic.AddInt32", "(*internal/sync.Mutex).Unlock", "internal/race.ReleaseMerge", "(*internal/sync.Mutex).unlockSlow", "internal/sync.fatal", "internal/sync.runtime_Semrelease", "sync/atomic.StoreUint32"], unfollowed := true, recurses := true, apart := false }
def FrameBackSaid : Prop := frameBackRow.holds Try.pinned (OpenSpec.ofChange frameBackSpec)

/-- ITS FALSE NEIGHBOUR: 'it returns false'. Refute it at one input. -/
def frameBackWrong : ChangeSpec := { name := "frameBack", fn := fun _ => fun
  | [d1, d2] => { results := [.lit (.bool false)], args := [d1, d2] }
  | _ => none }
def FrameBackWrongFalsely : Prop := frameBackRow.holds Try.pinned (OpenSpec.ofChange frameBackWrong)

/-- 'thrumlaw07.FrameTurned': WHATEVER THE INPUT: true; the input reads as it did. -/
def frameTurnedSpec : ChangeSpec := { name := "frameTurned", fn := fun _ => fun
  | [d1, d2, d3] => { results := [.lit (.bool true)], args := [d1, d2, d3] }
  | _ => none }
def frameTurnedRow : OpenClaim := { program := "ythhcgcaefjmekaa", sum := "81cecbbb336cb8e431812f5e8fc04e10aa7bb08a3370bb6bbcdbfa5eae9fd3b0", func := "thrum/thrumlaw07.FrameTurned", spec := "frameTurned", inPlace := ["sync/atomic.LoadUint32", "(*internal/sync.Mutex).Lock", "internal/race.Disable", "sync/atomic.CompareAndSwapInt32", "internal/race.Enable", "internal/race.Acquire", "(*internal/sync.Mutex).lockSlow", "internal/sync.runtime_canSpin", "internal/sync.runtime_doSpin", "internal/sync.throw", "internal/sync.runtime_nanotime", "internal/sync.runtime_SemacquireMutex", "sync/atomic.AddInt32", "(*internal/sync.Mutex).Unlock", "internal/race.ReleaseMerge", "(*internal/sync.Mutex).unlockSlow", "internal/sync.fatal", "internal/sync.runtime_Semrelease", "sync/atomic.StoreUint32"], unfollowed := true, recurses := true, apart := false }
def FrameTurnedSaid : Prop := frameTurnedRow.holds Try.pinned (OpenSpec.ofChange frameTurnedSpec)

/-- ITS FALSE NEIGHBOUR: 'it returns false'. Refute it at one input. -/
def frameTurnedWrong : ChangeSpec := { name := "frameTurned", fn := fun _ => fun
  | [d1, d2, d3] => { results := [.lit (.bool false)], args := [d1, d2, d3] }
  | _ => none }
def FrameTurnedWrongFalsely : Prop := frameTurnedRow.holds Try.pinned (OpenSpec.ofChange frameTurnedWrong)

/-- 'thrumlaw09.TopkScaled': WHATEVER THE INPUT: true; the input reads as it did. -/
def topkScaledSpec : ChangeSpec := { name := "topkScaled", fn := fun _ => fun
  | [d1, d2, d3] => { results := [.lit (.bool true)], args := [d1, d2, d3] }
  | _ => none }
def topkScaledRow : OpenClaim := { program := "ythhcgcaefjmekaa", sum := "81cecbbb336cb8e431812f5e8fc04e10aa7bb08a3370bb6bbcdbfa5eae9fd3b0", func := "thrum/thrumlaw09.TopkScaled", spec := "topkScaled", unfollowed := true, recurses := true, apart := false }
def TopkScaledSaid : Prop := topkScaledRow.holds Try.pinned (OpenSpec.ofChange topkScaledSpec)

/-- ITS FALSE NEIGHBOUR: 'it returns false'. Refute it at one input. -/
def topkScaledWrong : ChangeSpec := { name := "topkScaled", fn := fun _ => fun
  | [d1, d2, d3] => { results := [.lit (.bool false)], args := [d1, d2, d3] }
  | _ => none }
def TopkScaledWrongFalsely : Prop := topkScaledRow.holds Try.pinned (OpenSpec.ofChange topkScaledWrong)

/-- 'thrumlaw09.TopkOrders': WHATEVER THE INPUT: true; the input reads as it did. -/
def topkOrdersSpec : ChangeSpec := { name := "topkOrders", fn := fun _ => fun
  | [d1, d2] => { results := [.lit (.bool true)], args := [d1, d2] }
  | _ => none }
def topkOrdersRow : OpenClaim := { program := "ythhcgcaefjmekaa", sum := "81cecbbb336cb8e431812f5e8fc04e10aa7bb08a3370bb6bbcdbfa5eae9fd3b0", func := "thrum/thrumlaw09.TopkOrders", spec := "topkOrders", unfollowed := true, recurses := true, apart := false }
def TopkOrdersSaid : Prop := topkOrdersRow.holds Try.pinned (OpenSpec.ofChange topkOrdersSpec)

/-- ITS FALSE NEIGHBOUR: 'it returns false'. Refute it at one input. -/
def topkOrdersWrong : ChangeSpec := { name := "topkOrders", fn := fun _ => fun
  | [d1, d2] => { results := [.lit (.bool false)], args := [d1, d2] }
  | _ => none }
def TopkOrdersWrongFalsely : Prop := topkOrdersRow.holds Try.pinned (OpenSpec.ofChange topkOrdersWrong)

/-- 'thrumlaw09.TopkPicks': WHATEVER THE INPUT: true; the input reads as it did. -/
def topkPicksSpec : ChangeSpec := { name := "topkPicks", fn := fun _ => fun
  | [d1, d2, d3, d4] => { results := [.lit (.bool true)], args := [d1, d2, d3, d4] }
  | _ => none }
def topkPicksRow : OpenClaim := { program := "ythhcgcaefjmekaa", sum := "81cecbbb336cb8e431812f5e8fc04e10aa7bb08a3370bb6bbcdbfa5eae9fd3b0", func := "thrum/thrumlaw09.TopkPicks", spec := "topkPicks", unfollowed := true, recurses := true, apart := false }
def TopkPicksSaid : Prop := topkPicksRow.holds Try.pinned (OpenSpec.ofChange topkPicksSpec)

/-- ITS FALSE NEIGHBOUR: 'it returns false'. Refute it at one input. -/
def topkPicksWrong : ChangeSpec := { name := "topkPicks", fn := fun _ => fun
  | [d1, d2, d3, d4] => { results := [.lit (.bool false)], args := [d1, d2, d3, d4] }
  | _ => none }
def TopkPicksWrongFalsely : Prop := topkPicksRow.holds Try.pinned (OpenSpec.ofChange topkPicksWrong)

/- THE SECOND FORM. 'bulk': how many values and letters a reading holds, each counted each time it is reached (what is shared counts as often as it is met; a slice's spare places count too). A statement '..UptoSaid' is the law's where the arguments, and the package variables that the reading takes, are together of bulk at most 1048576: NARROWER than '..Said'. Prove '..Said' where nothing that the law and all that it calls make is longer than what came in: it says more and counts as full. Else prove '..UptoSaid'. A law counts once. -/
mutual
def uptoBulk {H : Type} : DataW H → Nat
  | .lit (.string bytes) => bytes.length + 1
  | .lit _ => 1
  | .nil => 1
  | .ptr d => uptoBulk d + 1
  | .slice elems spare => uptoBulkAll elems + uptoBulkAll spare + 1
  | .agg parts => uptoBulkAll parts + 1
  | .iface _ d => uptoBulk d + 1
  | .map entries => uptoBulkEntries entries + 1
  | .held _ => 1
def uptoBulkAll {H : Type} : List (DataW H) → Nat
  | [] => 0
  | d :: r => uptoBulk d + uptoBulkAll r
def uptoBulkEntries {H : Type} : List (Lit × DataW H) → Nat
  | [] => 0
  | x :: r => uptoBulkEntry x + uptoBulkEntries r
def uptoBulkEntry {H : Type} : Lit × DataW H → Nat
  | (.string bytes, d) => bytes.length + uptoBulk d + 1
  | (_, d) => uptoBulk d + 1
 end
def uptoSmall : (H : Type) → List (DataW H) → Bool := fun _ ds => decide (uptoBulkAll ds ≤ 1048576)
def OpenSpec.upto (s : _root_.Go.ChangeSpec) : _root_.Go.OpenSpec := { _root_.Go.OpenSpec.ofChange s with cond := some uptoSmall }

/-- 'thrumlaw20.StoreHalves', WHERE WHAT IT READS IS OF BULK AT MOST 1048576: true; the input reads as it did. -/
def storeHalvesUptoRow : OpenClaim := { program := "ythhcgcaefjmekaa", sum := "81cecbbb336cb8e431812f5e8fc04e10aa7bb08a3370bb6bbcdbfa5eae9fd3b0", func := "thrum/thrumlaw20.StoreHalves", spec := "storeHalves", inPlace := ["sync/atomic.LoadUint32", "(*internal/sync.Mutex).Lock", "internal/race.Disable", "sync/atomic.CompareAndSwapInt32", "internal/race.Enable", "internal/race.Acquire", "(*internal/sync.Mutex).lockSlow", "internal/sync.runtime_canSpin", "internal/sync.runtime_doSpin", "internal/sync.throw", "internal/sync.runtime_nanotime", "internal/sync.runtime_SemacquireMutex", "sync/atomic.AddInt32", "(*internal/sync.Mutex).Unlock", "internal/race.ReleaseMerge", "(*internal/sync.Mutex).unlockSlow", "internal/sync.fatal", "internal/sync.runtime_Semrelease", "sync/atomic.StoreUint32"], unfollowed := true, recurses := true, apart := false, narrowed := true }
def StoreHalvesUptoSaid : Prop := storeHalvesUptoRow.holds Try.pinned (OpenSpec.upto storeHalvesSpec)

/-- 'thrumlaw20.StoreKeeps', WHERE WHAT IT READS IS OF BULK AT MOST 1048576: true; the input reads as it did. -/
def storeKeepsUptoRow : OpenClaim := { program := "ythhcgcaefjmekaa", sum := "81cecbbb336cb8e431812f5e8fc04e10aa7bb08a3370bb6bbcdbfa5eae9fd3b0", func := "thrum/thrumlaw20.StoreKeeps", spec := "storeKeeps", inPlace := ["sync/atomic.LoadUint32", "(*internal/sync.Mutex).Lock", "internal/race.Disable", "sync/atomic.CompareAndSwapInt32", "internal/race.Enable", "internal/race.Acquire", "(*internal/sync.Mutex).lockSlow", "internal/sync.runtime_canSpin", "internal/sync.runtime_doSpin", "internal/sync.throw", "internal/sync.runtime_nanotime", "internal/sync.runtime_SemacquireMutex", "sync/atomic.AddInt32", "(*internal/sync.Mutex).Unlock", "internal/race.ReleaseMerge", "(*internal/sync.Mutex).unlockSlow", "internal/sync.fatal", "internal/sync.runtime_Semrelease", "sync/atomic.StoreUint32"], unfollowed := true, recurses := true, apart := false, narrowed := true }
def StoreKeepsUptoSaid : Prop := storeKeepsUptoRow.holds Try.pinned (OpenSpec.upto storeKeepsSpec)

/-- 'thrumlaw20.StoreNumbers', WHERE WHAT IT READS IS OF BULK AT MOST 1048576: true; the input reads as it did. -/
def storeNumbersUptoRow : OpenClaim := { program := "ythhcgcaefjmekaa", sum := "81cecbbb336cb8e431812f5e8fc04e10aa7bb08a3370bb6bbcdbfa5eae9fd3b0", func := "thrum/thrumlaw20.StoreNumbers", spec := "storeNumbers", inPlace := ["sync/atomic.LoadUint32", "(*internal/sync.Mutex).Lock", "internal/race.Disable", "sync/atomic.CompareAndSwapInt32", "internal/race.Enable", "internal/race.Acquire", "(*internal/sync.Mutex).lockSlow", "internal/sync.runtime_canSpin", "internal/sync.runtime_doSpin", "internal/sync.throw", "internal/sync.runtime_nanotime", "internal/sync.runtime_SemacquireMutex", "sync/atomic.AddInt32", "(*internal/sync.Mutex).Unlock", "internal/race.ReleaseMerge", "(*internal/sync.Mutex).unlockSlow", "internal/sync.fatal", "internal/sync.runtime_Semrelease", "sync/atomic.StoreUint32"], unfollowed := true, recurses := true, apart := false, narrowed := true }
def StoreNumbersUptoSaid : Prop := storeNumbersUptoRow.holds Try.pinned (OpenSpec.upto storeNumbersSpec)

/-- 'thrumlaw07.FrameBends', WHERE WHAT IT READS IS OF BULK AT MOST 1048576: true; the input reads as it did. -/
def frameBendsUptoRow : OpenClaim := { program := "ythhcgcaefjmekaa", sum := "81cecbbb336cb8e431812f5e8fc04e10aa7bb08a3370bb6bbcdbfa5eae9fd3b0", func := "thrum/thrumlaw07.FrameBends", spec := "frameBends", inPlace := ["sync/atomic.LoadUint32", "(*internal/sync.Mutex).Lock", "internal/race.Disable", "sync/atomic.CompareAndSwapInt32", "internal/race.Enable", "internal/race.Acquire", "(*internal/sync.Mutex).lockSlow", "internal/sync.runtime_canSpin", "internal/sync.runtime_doSpin", "internal/sync.throw", "internal/sync.runtime_nanotime", "internal/sync.runtime_SemacquireMutex", "sync/atomic.AddInt32", "(*internal/sync.Mutex).Unlock", "internal/race.ReleaseMerge", "(*internal/sync.Mutex).unlockSlow", "internal/sync.fatal", "internal/sync.runtime_Semrelease", "sync/atomic.StoreUint32"], unfollowed := true, recurses := true, apart := false, narrowed := true }
def FrameBendsUptoSaid : Prop := frameBendsUptoRow.holds Try.pinned (OpenSpec.upto frameBendsSpec)

/-- 'thrumlaw20.StoreDoes', WHERE WHAT IT READS IS OF BULK AT MOST 1048576: true; the input reads as it did. -/
def storeDoesUptoRow : OpenClaim := { program := "ythhcgcaefjmekaa", sum := "81cecbbb336cb8e431812f5e8fc04e10aa7bb08a3370bb6bbcdbfa5eae9fd3b0", func := "thrum/thrumlaw20.StoreDoes", spec := "storeDoes", inPlace := ["sync/atomic.LoadUint32", "(*internal/sync.Mutex).Lock", "internal/race.Disable", "sync/atomic.CompareAndSwapInt32", "internal/race.Enable", "internal/race.Acquire", "(*internal/sync.Mutex).lockSlow", "internal/sync.runtime_canSpin", "internal/sync.runtime_doSpin", "internal/sync.throw", "internal/sync.runtime_nanotime", "internal/sync.runtime_SemacquireMutex", "sync/atomic.AddInt32", "(*internal/sync.Mutex).Unlock", "internal/race.ReleaseMerge", "(*internal/sync.Mutex).unlockSlow", "internal/sync.fatal", "internal/sync.runtime_Semrelease", "sync/atomic.StoreUint32"], unfollowed := true, recurses := true, apart := false, narrowed := true }
def StoreDoesUptoSaid : Prop := storeDoesUptoRow.holds Try.pinned (OpenSpec.upto storeDoesSpec)

/-- 'thrumlaw07.FrameApart', WHERE WHAT IT READS IS OF BULK AT MOST 1048576: true; the input reads as it did. -/
def frameApartUptoRow : OpenClaim := { program := "ythhcgcaefjmekaa", sum := "81cecbbb336cb8e431812f5e8fc04e10aa7bb08a3370bb6bbcdbfa5eae9fd3b0", func := "thrum/thrumlaw07.FrameApart", spec := "frameApart", inPlace := ["sync/atomic.LoadUint32", "(*internal/sync.Mutex).Lock", "internal/race.Disable", "sync/atomic.CompareAndSwapInt32", "internal/race.Enable", "internal/race.Acquire", "(*internal/sync.Mutex).lockSlow", "internal/sync.runtime_canSpin", "internal/sync.runtime_doSpin", "internal/sync.throw", "internal/sync.runtime_nanotime", "internal/sync.runtime_SemacquireMutex", "sync/atomic.AddInt32", "(*internal/sync.Mutex).Unlock", "internal/race.ReleaseMerge", "(*internal/sync.Mutex).unlockSlow", "internal/sync.fatal", "internal/sync.runtime_Semrelease", "sync/atomic.StoreUint32"], unfollowed := true, recurses := true, apart := false, narrowed := true }
def FrameApartUptoSaid : Prop := frameApartUptoRow.holds Try.pinned (OpenSpec.upto frameApartSpec)

/-- 'thrumlaw20.StoreLays', WHERE WHAT IT READS IS OF BULK AT MOST 1048576: true; the input reads as it did. -/
def storeLaysUptoRow : OpenClaim := { program := "ythhcgcaefjmekaa", sum := "81cecbbb336cb8e431812f5e8fc04e10aa7bb08a3370bb6bbcdbfa5eae9fd3b0", func := "thrum/thrumlaw20.StoreLays", spec := "storeLays", inPlace := ["sync/atomic.LoadUint32", "(*internal/sync.Mutex).Lock", "internal/race.Disable", "sync/atomic.CompareAndSwapInt32", "internal/race.Enable", "internal/race.Acquire", "(*internal/sync.Mutex).lockSlow", "internal/sync.runtime_canSpin", "internal/sync.runtime_doSpin", "internal/sync.throw", "internal/sync.runtime_nanotime", "internal/sync.runtime_SemacquireMutex", "sync/atomic.AddInt32", "(*internal/sync.Mutex).Unlock", "internal/race.ReleaseMerge", "(*internal/sync.Mutex).unlockSlow", "internal/sync.fatal", "internal/sync.runtime_Semrelease", "sync/atomic.StoreUint32"], unfollowed := true, recurses := true, apart := false, narrowed := true }
def StoreLaysUptoSaid : Prop := storeLaysUptoRow.holds Try.pinned (OpenSpec.upto storeLaysSpec)

/-- 'thrumlaw20.StoreBack', WHERE WHAT IT READS IS OF BULK AT MOST 1048576: true; the input reads as it did. -/
def storeBackUptoRow : OpenClaim := { program := "ythhcgcaefjmekaa", sum := "81cecbbb336cb8e431812f5e8fc04e10aa7bb08a3370bb6bbcdbfa5eae9fd3b0", func := "thrum/thrumlaw20.StoreBack", spec := "storeBack", inPlace := ["sync/atomic.LoadUint32", "(*internal/sync.Mutex).Lock", "internal/race.Disable", "sync/atomic.CompareAndSwapInt32", "internal/race.Enable", "internal/race.Acquire", "(*internal/sync.Mutex).lockSlow", "internal/sync.runtime_canSpin", "internal/sync.runtime_doSpin", "internal/sync.throw", "internal/sync.runtime_nanotime", "internal/sync.runtime_SemacquireMutex", "sync/atomic.AddInt32", "(*internal/sync.Mutex).Unlock", "internal/race.ReleaseMerge", "(*internal/sync.Mutex).unlockSlow", "internal/sync.fatal", "internal/sync.runtime_Semrelease", "sync/atomic.StoreUint32"], unfollowed := true, recurses := true, apart := false, narrowed := true }
def StoreBackUptoSaid : Prop := storeBackUptoRow.holds Try.pinned (OpenSpec.upto storeBackSpec)

/-- 'thrumlaw09.TopkMore', WHERE WHAT IT READS IS OF BULK AT MOST 1048576: true; the input reads as it did. -/
def topkMoreUptoRow : OpenClaim := { program := "ythhcgcaefjmekaa", sum := "81cecbbb336cb8e431812f5e8fc04e10aa7bb08a3370bb6bbcdbfa5eae9fd3b0", func := "thrum/thrumlaw09.TopkMore", spec := "topkMore", unfollowed := true, recurses := true, apart := false, narrowed := true }
def TopkMoreUptoSaid : Prop := topkMoreUptoRow.holds Try.pinned (OpenSpec.upto topkMoreSpec)

/-- 'thrumlaw09.TopkGreatest', WHERE WHAT IT READS IS OF BULK AT MOST 1048576: true; the input reads as it did. -/
def topkGreatestUptoRow : OpenClaim := { program := "ythhcgcaefjmekaa", sum := "81cecbbb336cb8e431812f5e8fc04e10aa7bb08a3370bb6bbcdbfa5eae9fd3b0", func := "thrum/thrumlaw09.TopkGreatest", spec := "topkGreatest", unfollowed := true, recurses := true, apart := false, narrowed := true }
def TopkGreatestUptoSaid : Prop := topkGreatestUptoRow.holds Try.pinned (OpenSpec.upto topkGreatestSpec)

/-- 'thrumlaw07.FrameAcks', WHERE WHAT IT READS IS OF BULK AT MOST 1048576: true; the input reads as it did. -/
def frameAcksUptoRow : OpenClaim := { program := "ythhcgcaefjmekaa", sum := "81cecbbb336cb8e431812f5e8fc04e10aa7bb08a3370bb6bbcdbfa5eae9fd3b0", func := "thrum/thrumlaw07.FrameAcks", spec := "frameAcks", inPlace := ["sync/atomic.LoadUint32", "(*internal/sync.Mutex).Lock", "internal/race.Disable", "sync/atomic.CompareAndSwapInt32", "internal/race.Enable", "internal/race.Acquire", "(*internal/sync.Mutex).lockSlow", "internal/sync.runtime_canSpin", "internal/sync.runtime_doSpin", "internal/sync.throw", "internal/sync.runtime_nanotime", "internal/sync.runtime_SemacquireMutex", "sync/atomic.AddInt32", "(*internal/sync.Mutex).Unlock", "internal/race.ReleaseMerge", "(*internal/sync.Mutex).unlockSlow", "internal/sync.fatal", "internal/sync.runtime_Semrelease", "sync/atomic.StoreUint32"], unfollowed := true, recurses := true, apart := false, narrowed := true }
def FrameAcksUptoSaid : Prop := frameAcksUptoRow.holds Try.pinned (OpenSpec.upto frameAcksSpec)

/-- 'thrumlaw07.FrameBack', WHERE WHAT IT READS IS OF BULK AT MOST 1048576: true; the input reads as it did. -/
def frameBackUptoRow : OpenClaim := { program := "ythhcgcaefjmekaa", sum := "81cecbbb336cb8e431812f5e8fc04e10aa7bb08a3370bb6bbcdbfa5eae9fd3b0", func := "thrum/thrumlaw07.FrameBack", spec := "frameBack", inPlace := ["sync/atomic.LoadUint32", "(*internal/sync.Mutex).Lock", "internal/race.Disable", "sync/atomic.CompareAndSwapInt32", "internal/race.Enable", "internal/race.Acquire", "(*internal/sync.Mutex).lockSlow", "internal/sync.runtime_canSpin", "internal/sync.runtime_doSpin", "internal/sync.throw", "internal/sync.runtime_nanotime", "internal/sync.runtime_SemacquireMutex", "sync/atomic.AddInt32", "(*internal/sync.Mutex).Unlock", "internal/race.ReleaseMerge", "(*internal/sync.Mutex).unlockSlow", "internal/sync.fatal", "internal/sync.runtime_Semrelease", "sync/atomic.StoreUint32"], unfollowed := true, recurses := true, apart := false, narrowed := true }
def FrameBackUptoSaid : Prop := frameBackUptoRow.holds Try.pinned (OpenSpec.upto frameBackSpec)

/-- 'thrumlaw07.FrameTurned', WHERE WHAT IT READS IS OF BULK AT MOST 1048576: true; the input reads as it did. -/
def frameTurnedUptoRow : OpenClaim := { program := "ythhcgcaefjmekaa", sum := "81cecbbb336cb8e431812f5e8fc04e10aa7bb08a3370bb6bbcdbfa5eae9fd3b0", func := "thrum/thrumlaw07.FrameTurned", spec := "frameTurned", inPlace := ["sync/atomic.LoadUint32", "(*internal/sync.Mutex).Lock", "internal/race.Disable", "sync/atomic.CompareAndSwapInt32", "internal/race.Enable", "internal/race.Acquire", "(*internal/sync.Mutex).lockSlow", "internal/sync.runtime_canSpin", "internal/sync.runtime_doSpin", "internal/sync.throw", "internal/sync.runtime_nanotime", "internal/sync.runtime_SemacquireMutex", "sync/atomic.AddInt32", "(*internal/sync.Mutex).Unlock", "internal/race.ReleaseMerge", "(*internal/sync.Mutex).unlockSlow", "internal/sync.fatal", "internal/sync.runtime_Semrelease", "sync/atomic.StoreUint32"], unfollowed := true, recurses := true, apart := false, narrowed := true }
def FrameTurnedUptoSaid : Prop := frameTurnedUptoRow.holds Try.pinned (OpenSpec.upto frameTurnedSpec)

/-- 'thrumlaw09.TopkScaled', WHERE WHAT IT READS IS OF BULK AT MOST 1048576: true; the input reads as it did. -/
def topkScaledUptoRow : OpenClaim := { program := "ythhcgcaefjmekaa", sum := "81cecbbb336cb8e431812f5e8fc04e10aa7bb08a3370bb6bbcdbfa5eae9fd3b0", func := "thrum/thrumlaw09.TopkScaled", spec := "topkScaled", unfollowed := true, recurses := true, apart := false, narrowed := true }
def TopkScaledUptoSaid : Prop := topkScaledUptoRow.holds Try.pinned (OpenSpec.upto topkScaledSpec)

/-- 'thrumlaw09.TopkOrders', WHERE WHAT IT READS IS OF BULK AT MOST 1048576: true; the input reads as it did. -/
def topkOrdersUptoRow : OpenClaim := { program := "ythhcgcaefjmekaa", sum := "81cecbbb336cb8e431812f5e8fc04e10aa7bb08a3370bb6bbcdbfa5eae9fd3b0", func := "thrum/thrumlaw09.TopkOrders", spec := "topkOrders", unfollowed := true, recurses := true, apart := false, narrowed := true }
def TopkOrdersUptoSaid : Prop := topkOrdersUptoRow.holds Try.pinned (OpenSpec.upto topkOrdersSpec)

/-- 'thrumlaw09.TopkPicks', WHERE WHAT IT READS IS OF BULK AT MOST 1048576: true; the input reads as it did. -/
def topkPicksUptoRow : OpenClaim := { program := "ythhcgcaefjmekaa", sum := "81cecbbb336cb8e431812f5e8fc04e10aa7bb08a3370bb6bbcdbfa5eae9fd3b0", func := "thrum/thrumlaw09.TopkPicks", spec := "topkPicks", unfollowed := true, recurses := true, apart := false, narrowed := true }
def TopkPicksUptoSaid : Prop := topkPicksUptoRow.holds Try.pinned (OpenSpec.upto topkPicksSpec)

end Rows
end Go.Proofs.Ythhcgcaefjmekaa
