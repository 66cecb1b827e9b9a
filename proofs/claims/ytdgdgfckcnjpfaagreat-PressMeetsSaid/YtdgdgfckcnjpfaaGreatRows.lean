/-
  No cell of these rows narrows 'for every input' (looked for: loops, veiled, ifaces, maps, wideKeys, modest, calm, conditions, laid).
  DERIVED. THE GIVEN ROWS OF THIS SEAT. 6 by the template 'for every input the law returns true; each argument reads behind the call as it read before'; 0 by the template 'total and deterministic' (their statements: YtdgdgfckcnjpfaaGreatTotals.lean).
  GIVEN WITH THE SEED: the statements are not yours to turn. If you find one false, say at which input.
  Laid BY PROGRAM, IN A SANDBOX (cutbox-rows.mjs): the forced cells as the released guide's own fill.sh prints them over the translation 8eb21e474c047188… (all of the seat's roots in one cut). By AI agents, Wed Nov 11 2026. No macro, syntax, notation, axiom, sorry.
-/
import Derived.Test.YtdgdgfckcnjpfaaGreatChecked
import GoSem.Claim
import GoSem.ClaimJoined
import GoSem.ClaimMapViews
import Derived.JoinedTies
import Derived.KernelRfl
namespace Go.Proofs.YtdgdgfckcnjpfaaGreat
/- THE CELL 'sum', in the pinned program and in every row, IS THE sha256 OF THE DUMP (.gsa) THAT YtdgdgfckcnjpfaaGreatProg.lean LOADS. Nothing in Lean hashes anything: it is a label: what it is worth is what the hold of that sum in a sandbox is worth. -/
noncomputable def Tryz.pinned : Pinned := { name := "ytdgdgfckcnjpfaagreat", sum := "8eb21e474c047188dee6f72af7f93439e89bd1725f73758bbb6dd7efdaa5841a", checked := Tryz.checked }
namespace Rows
def none {H : Type} : Left H := { results := [], args := [] }

/-- 'thrumlaw12.PressPresses': WHATEVER THE INPUT: true; the input reads as it did. -/
def pressPressesSpec : ChangeSpec := { name := "pressPresses", fn := fun _ => fun
  | [d1, d2, d3, d4, d5, d6] => { results := [.lit (.bool true)], args := [d1, d2, d3, d4, d5, d6] }
  | _ => none }
def pressPressesRow : OpenClaim := { program := "ytdgdgfckcnjpfaagreat", sum := "8eb21e474c047188dee6f72af7f93439e89bd1725f73758bbb6dd7efdaa5841a", func := "thrum/thrumlaw12.PressPresses", spec := "pressPresses", unfollowed := true, recurses := true, named := ["math/bits.divideError", "math/bits.overflowError"], apart := false }
def PressPressesSaid : Prop := pressPressesRow.holds Tryz.pinned (OpenSpec.ofChange pressPressesSpec)

/-- ITS FALSE NEIGHBOUR: 'it returns false'. Refute it at one input. -/
def pressPressesWrong : ChangeSpec := { name := "pressPresses", fn := fun _ => fun
  | [d1, d2, d3, d4, d5, d6] => { results := [.lit (.bool false)], args := [d1, d2, d3, d4, d5, d6] }
  | _ => none }
def PressPressesWrongFalsely : Prop := pressPressesRow.holds Tryz.pinned (OpenSpec.ofChange pressPressesWrong)

/-- 'thrumlaw12.PressRounds': WHATEVER THE INPUT: true; the input reads as it did. -/
def pressRoundsSpec : ChangeSpec := { name := "pressRounds", fn := fun _ => fun
  | [d1, d2, d3] => { results := [.lit (.bool true)], args := [d1, d2, d3] }
  | _ => none }
def pressRoundsRow : OpenClaim := { program := "ytdgdgfckcnjpfaagreat", sum := "8eb21e474c047188dee6f72af7f93439e89bd1725f73758bbb6dd7efdaa5841a", func := "thrum/thrumlaw12.PressRounds", spec := "pressRounds", unfollowed := true, recurses := true, named := ["math/bits.divideError", "math/bits.overflowError"], apart := false }
def PressRoundsSaid : Prop := pressRoundsRow.holds Tryz.pinned (OpenSpec.ofChange pressRoundsSpec)

/-- ITS FALSE NEIGHBOUR: 'it returns false'. Refute it at one input. -/
def pressRoundsWrong : ChangeSpec := { name := "pressRounds", fn := fun _ => fun
  | [d1, d2, d3] => { results := [.lit (.bool false)], args := [d1, d2, d3] }
  | _ => none }
def PressRoundsWrongFalsely : Prop := pressRoundsRow.holds Tryz.pinned (OpenSpec.ofChange pressRoundsWrong)

/-- 'thrumlaw12.PressDense': WHATEVER THE INPUT: true; the input reads as it did. -/
def pressDenseSpec : ChangeSpec := { name := "pressDense", fn := fun _ => fun
  | [d1, d2] => { results := [.lit (.bool true)], args := [d1, d2] }
  | _ => none }
def pressDenseRow : OpenClaim := { program := "ytdgdgfckcnjpfaagreat", sum := "8eb21e474c047188dee6f72af7f93439e89bd1725f73758bbb6dd7efdaa5841a", func := "thrum/thrumlaw12.PressDense", spec := "pressDense", unfollowed := true, recurses := true, named := ["math/bits.divideError", "math/bits.overflowError"], apart := false }
def PressDenseSaid : Prop := pressDenseRow.holds Tryz.pinned (OpenSpec.ofChange pressDenseSpec)

/-- ITS FALSE NEIGHBOUR: 'it returns false'. Refute it at one input. -/
def pressDenseWrong : ChangeSpec := { name := "pressDense", fn := fun _ => fun
  | [d1, d2] => { results := [.lit (.bool false)], args := [d1, d2] }
  | _ => none }
def PressDenseWrongFalsely : Prop := pressDenseRow.holds Tryz.pinned (OpenSpec.ofChange pressDenseWrong)

/-- 'thrumlaw12.PressAgain': WHATEVER THE INPUT: true; the input reads as it did. -/
def pressAgainSpec : ChangeSpec := { name := "pressAgain", fn := fun _ => fun
  | [d1, d2, d3] => { results := [.lit (.bool true)], args := [d1, d2, d3] }
  | _ => none }
def pressAgainRow : OpenClaim := { program := "ytdgdgfckcnjpfaagreat", sum := "8eb21e474c047188dee6f72af7f93439e89bd1725f73758bbb6dd7efdaa5841a", func := "thrum/thrumlaw12.PressAgain", spec := "pressAgain", unfollowed := true, recurses := true, named := ["math/bits.divideError", "math/bits.overflowError"], apart := false }
def PressAgainSaid : Prop := pressAgainRow.holds Tryz.pinned (OpenSpec.ofChange pressAgainSpec)

/-- ITS FALSE NEIGHBOUR: 'it returns false'. Refute it at one input. -/
def pressAgainWrong : ChangeSpec := { name := "pressAgain", fn := fun _ => fun
  | [d1, d2, d3] => { results := [.lit (.bool false)], args := [d1, d2, d3] }
  | _ => none }
def PressAgainWrongFalsely : Prop := pressAgainRow.holds Tryz.pinned (OpenSpec.ofChange pressAgainWrong)

/-- 'thrumlaw12.PressLoosens': WHATEVER THE INPUT: true; the input reads as it did. -/
def pressLoosensSpec : ChangeSpec := { name := "pressLoosens", fn := fun _ => fun
  | [d1, d2, d3] => { results := [.lit (.bool true)], args := [d1, d2, d3] }
  | _ => none }
def pressLoosensRow : OpenClaim := { program := "ytdgdgfckcnjpfaagreat", sum := "8eb21e474c047188dee6f72af7f93439e89bd1725f73758bbb6dd7efdaa5841a", func := "thrum/thrumlaw12.PressLoosens", spec := "pressLoosens", unfollowed := true, recurses := true, named := ["math/bits.divideError", "math/bits.overflowError"], apart := false }
def PressLoosensSaid : Prop := pressLoosensRow.holds Tryz.pinned (OpenSpec.ofChange pressLoosensSpec)

/-- ITS FALSE NEIGHBOUR: 'it returns false'. Refute it at one input. -/
def pressLoosensWrong : ChangeSpec := { name := "pressLoosens", fn := fun _ => fun
  | [d1, d2, d3] => { results := [.lit (.bool false)], args := [d1, d2, d3] }
  | _ => none }
def PressLoosensWrongFalsely : Prop := pressLoosensRow.holds Tryz.pinned (OpenSpec.ofChange pressLoosensWrong)

/-- 'thrumlaw12.PressMeets': WHATEVER THE INPUT: true; the input reads as it did. -/
def pressMeetsSpec : ChangeSpec := { name := "pressMeets", fn := fun _ => fun
  | [d1, d2, d3, d4] => { results := [.lit (.bool true)], args := [d1, d2, d3, d4] }
  | _ => none }
def pressMeetsRow : OpenClaim := { program := "ytdgdgfckcnjpfaagreat", sum := "8eb21e474c047188dee6f72af7f93439e89bd1725f73758bbb6dd7efdaa5841a", func := "thrum/thrumlaw12.PressMeets", spec := "pressMeets", inPlace := ["sync/atomic.LoadUint32", "(*internal/sync.Mutex).Lock", "internal/race.Disable", "sync/atomic.CompareAndSwapInt32", "internal/race.Enable", "internal/race.Acquire", "(*internal/sync.Mutex).lockSlow", "internal/sync.runtime_canSpin", "internal/sync.runtime_doSpin", "internal/sync.throw", "internal/sync.runtime_nanotime", "internal/sync.runtime_SemacquireMutex", "sync/atomic.AddInt32", "(*internal/sync.Mutex).Unlock", "internal/race.ReleaseMerge", "(*internal/sync.Mutex).unlockSlow", "internal/sync.fatal", "internal/sync.runtime_Semrelease", "sync/atomic.StoreUint32"], unfollowed := true, recurses := true, named := ["math/bits.divideError", "math/bits.overflowError"], apart := false }
def PressMeetsSaid : Prop := pressMeetsRow.holds Tryz.pinned (OpenSpec.ofChange pressMeetsSpec)

/-- ITS FALSE NEIGHBOUR: 'it returns false'. Refute it at one input. -/
def pressMeetsWrong : ChangeSpec := { name := "pressMeets", fn := fun _ => fun
  | [d1, d2, d3, d4] => { results := [.lit (.bool false)], args := [d1, d2, d3, d4] }
  | _ => none }
def PressMeetsWrongFalsely : Prop := pressMeetsRow.holds Tryz.pinned (OpenSpec.ofChange pressMeetsWrong)

/- THE SECOND FORM. 'bulk': how many values and letters a reading holds, each counted each time it is reached (what is shared counts as often as it is met; a slice's spare places count too). A statement '..UptoSaid' is the law's where the arguments, and the package variables that the reading takes, are together of bulk at most 1048576: NARROWER than '..Said'. Prove '..Said' where nothing that the law and all that it calls make is longer than what came in: it says more and counts as full. Else prove '..UptoSaid'. A law counts once. -/
mutual
def uptoBulk {H : Type} : DataW H → Nat
  | .lit (.string bytes) => bytes.length + 1
  | .lit _ => 1
  | .nil => 1
  | .ptr d => uptoBulk d + 1
  | .slice elems spare => uptoBulkAll elems + uptoBulkAll spare + 1
  | .agg parts => uptoBulkAll parts + 1
  | .iface _ d => uptoBulk d + 1
  | .map entries => uptoBulkEntries entries + 1
  | .held _ => 1
def uptoBulkAll {H : Type} : List (DataW H) → Nat
  | [] => 0
  | d :: r => uptoBulk d + uptoBulkAll r
def uptoBulkEntries {H : Type} : List (Lit × DataW H) → Nat
  | [] => 0
  | x :: r => uptoBulkEntry x + uptoBulkEntries r
def uptoBulkEntry {H : Type} : Lit × DataW H → Nat
  | (.string bytes, d) => bytes.length + uptoBulk d + 1
  | (_, d) => uptoBulk d + 1
 end
def uptoSmall : (H : Type) → List (DataW H) → Bool := fun _ ds => decide (uptoBulkAll ds ≤ 1048576)
def OpenSpec.upto (s : _root_.Go.ChangeSpec) : _root_.Go.OpenSpec := { _root_.Go.OpenSpec.ofChange s with cond := some uptoSmall }

/-- 'thrumlaw12.PressPresses', WHERE WHAT IT READS IS OF BULK AT MOST 1048576: true; the input reads as it did. -/
def pressPressesUptoRow : OpenClaim := { program := "ytdgdgfckcnjpfaagreat", sum := "8eb21e474c047188dee6f72af7f93439e89bd1725f73758bbb6dd7efdaa5841a", func := "thrum/thrumlaw12.PressPresses", spec := "pressPresses", unfollowed := true, recurses := true, named := ["math/bits.divideError", "math/bits.overflowError"], apart := false, narrowed := true }
def PressPressesUptoSaid : Prop := pressPressesUptoRow.holds Tryz.pinned (OpenSpec.upto pressPressesSpec)

/-- 'thrumlaw12.PressRounds', WHERE WHAT IT READS IS OF BULK AT MOST 1048576: true; the input reads as it did. -/
def pressRoundsUptoRow : OpenClaim := { program := "ytdgdgfckcnjpfaagreat", sum := "8eb21e474c047188dee6f72af7f93439e89bd1725f73758bbb6dd7efdaa5841a", func := "thrum/thrumlaw12.PressRounds", spec := "pressRounds", unfollowed := true, recurses := true, named := ["math/bits.divideError", "math/bits.overflowError"], apart := false, narrowed := true }
def PressRoundsUptoSaid : Prop := pressRoundsUptoRow.holds Tryz.pinned (OpenSpec.upto pressRoundsSpec)

/-- 'thrumlaw12.PressDense', WHERE WHAT IT READS IS OF BULK AT MOST 1048576: true; the input reads as it did. -/
def pressDenseUptoRow : OpenClaim := { program := "ytdgdgfckcnjpfaagreat", sum := "8eb21e474c047188dee6f72af7f93439e89bd1725f73758bbb6dd7efdaa5841a", func := "thrum/thrumlaw12.PressDense", spec := "pressDense", unfollowed := true, recurses := true, named := ["math/bits.divideError", "math/bits.overflowError"], apart := false, narrowed := true }
def PressDenseUptoSaid : Prop := pressDenseUptoRow.holds Tryz.pinned (OpenSpec.upto pressDenseSpec)

/-- 'thrumlaw12.PressAgain', WHERE WHAT IT READS IS OF BULK AT MOST 1048576: true; the input reads as it did. -/
def pressAgainUptoRow : OpenClaim := { program := "ytdgdgfckcnjpfaagreat", sum := "8eb21e474c047188dee6f72af7f93439e89bd1725f73758bbb6dd7efdaa5841a", func := "thrum/thrumlaw12.PressAgain", spec := "pressAgain", unfollowed := true, recurses := true, named := ["math/bits.divideError", "math/bits.overflowError"], apart := false, narrowed := true }
def PressAgainUptoSaid : Prop := pressAgainUptoRow.holds Tryz.pinned (OpenSpec.upto pressAgainSpec)

/-- 'thrumlaw12.PressLoosens', WHERE WHAT IT READS IS OF BULK AT MOST 1048576: true; the input reads as it did. -/
def pressLoosensUptoRow : OpenClaim := { program := "ytdgdgfckcnjpfaagreat", sum := "8eb21e474c047188dee6f72af7f93439e89bd1725f73758bbb6dd7efdaa5841a", func := "thrum/thrumlaw12.PressLoosens", spec := "pressLoosens", unfollowed := true, recurses := true, named := ["math/bits.divideError", "math/bits.overflowError"], apart := false, narrowed := true }
def PressLoosensUptoSaid : Prop := pressLoosensUptoRow.holds Tryz.pinned (OpenSpec.upto pressLoosensSpec)

/-- 'thrumlaw12.PressMeets', WHERE WHAT IT READS IS OF BULK AT MOST 1048576: true; the input reads as it did. -/
def pressMeetsUptoRow : OpenClaim := { program := "ytdgdgfckcnjpfaagreat", sum := "8eb21e474c047188dee6f72af7f93439e89bd1725f73758bbb6dd7efdaa5841a", func := "thrum/thrumlaw12.PressMeets", spec := "pressMeets", inPlace := ["sync/atomic.LoadUint32", "(*internal/sync.Mutex).Lock", "internal/race.Disable", "sync/atomic.CompareAndSwapInt32", "internal/race.Enable", "internal/race.Acquire", "(*internal/sync.Mutex).lockSlow", "internal/sync.runtime_canSpin", "internal/sync.runtime_doSpin", "internal/sync.throw", "internal/sync.runtime_nanotime", "internal/sync.runtime_SemacquireMutex", "sync/atomic.AddInt32", "(*internal/sync.Mutex).Unlock", "internal/race.ReleaseMerge", "(*internal/sync.Mutex).unlockSlow", "internal/sync.fatal", "internal/sync.runtime_Semrelease", "sync/atomic.StoreUint32"], unfollowed := true, recurses := true, named := ["math/bits.divideError", "math/bits.overflowError"], apart := false, narrowed := true }
def PressMeetsUptoSaid : Prop := pressMeetsUptoRow.holds Tryz.pinned (OpenSpec.upto pressMeetsSpec)

end Rows
end Go.Proofs.YtdgdgfckcnjpfaaGreat
