/-
  No cell of these rows narrows 'for every input' (looked for: loops, veiled, ifaces, maps, wideKeys, modest, calm, conditions, laid).
  DERIVED. THE GIVEN ROWS OF THIS SEAT. 5 by the template 'for every input the law returns true; each argument reads behind the call as it read before'; 0 by the template 'total and deterministic' (their statements: YtnmlihfpenjeiaaGreatTotals.lean).
  GIVEN WITH THE SEED: the statements are not yours to turn. If you find one false, say at which input.
  Laid BY PROGRAM, IN A SANDBOX (cutbox-rows.mjs): the forced cells as the released guide's own fill.sh prints them over the translation 30bb6c4b230f89a7… (all of the seat's roots in one cut). By AI agents, Wed Nov 11 2026. No macro, syntax, notation, axiom, sorry.
-/
import Derived.Test.YtnmlihfpenjeiaaGreatChecked
import GoSem.Claim
import GoSem.ClaimJoined
import GoSem.ClaimMapViews
import Derived.JoinedTies
import Derived.KernelRfl
namespace Go.Proofs.YtnmlihfpenjeiaaGreat
/- THE CELL 'sum', in the pinned program and in every row, IS THE sha256 OF THE DUMP (.gsa) THAT YtnmlihfpenjeiaaGreatProg.lean LOADS. Nothing in Lean hashes anything: it is a label: what it is worth is what the hold of that sum in a sandbox is worth. -/
noncomputable def Tryz.pinned : Pinned := { name := "ytnmlihfpenjeiaagreat", sum := "30bb6c4b230f89a74f043df9ee4ef7037c2c157790b18b7b9206b921460223ae", checked := Tryz.checked }
namespace Rows
def none {H : Type} : Left H := { results := [], args := [] }

/-- 'thrumlaw18.ConfBends': WHATEVER THE INPUT: true; the input reads as it did. -/
def confBendsSpec : ChangeSpec := { name := "confBends", fn := fun _ => fun
  | [d] => { results := [.lit (.bool true)], args := [d] }
  | _ => none }
def confBendsRow : OpenClaim := { program := "ytnmlihfpenjeiaagreat", sum := "30bb6c4b230f89a74f043df9ee4ef7037c2c157790b18b7b9206b921460223ae", func := "thrum/thrumlaw18.ConfBends", spec := "confBends", unfollowed := true, recurses := true, named := ["math/bits.divideError", "math/bits.overflowError"], apart := false }
def ConfBendsSaid : Prop := confBendsRow.holds Tryz.pinned (OpenSpec.ofChange confBendsSpec)

/-- ITS FALSE NEIGHBOUR: 'it returns false'. Refute it at one input. -/
def confBendsWrong : ChangeSpec := { name := "confBends", fn := fun _ => fun
  | [d] => { results := [.lit (.bool false)], args := [d] }
  | _ => none }
def ConfBendsWrongFalsely : Prop := confBendsRow.holds Tryz.pinned (OpenSpec.ofChange confBendsWrong)

/-- 'thrumlaw18.ConfWarms': WHATEVER THE INPUT: true; the input reads as it did. -/
def confWarmsSpec : ChangeSpec := { name := "confWarms", fn := fun _ => fun
  | [d1, d2, d3] => { results := [.lit (.bool true)], args := [d1, d2, d3] }
  | _ => none }
def confWarmsRow : OpenClaim := { program := "ytnmlihfpenjeiaagreat", sum := "30bb6c4b230f89a74f043df9ee4ef7037c2c157790b18b7b9206b921460223ae", func := "thrum/thrumlaw18.ConfWarms", spec := "confWarms", unfollowed := true, recurses := true, named := ["math/bits.divideError", "math/bits.overflowError"], apart := false }
def ConfWarmsSaid : Prop := confWarmsRow.holds Tryz.pinned (OpenSpec.ofChange confWarmsSpec)

/-- ITS FALSE NEIGHBOUR: 'it returns false'. Refute it at one input. -/
def confWarmsWrong : ChangeSpec := { name := "confWarms", fn := fun _ => fun
  | [d1, d2, d3] => { results := [.lit (.bool false)], args := [d1, d2, d3] }
  | _ => none }
def ConfWarmsWrongFalsely : Prop := confWarmsRow.holds Tryz.pinned (OpenSpec.ofChange confWarmsWrong)

/-- 'thrumlaw18.ConfTells': WHATEVER THE INPUT: true; the input reads as it did. -/
def confTellsSpec : ChangeSpec := { name := "confTells", fn := fun _ => fun
  | [d1, d2, d3, d4] => { results := [.lit (.bool true)], args := [d1, d2, d3, d4] }
  | _ => none }
def confTellsRow : OpenClaim := { program := "ytnmlihfpenjeiaagreat", sum := "30bb6c4b230f89a74f043df9ee4ef7037c2c157790b18b7b9206b921460223ae", func := "thrum/thrumlaw18.ConfTells", spec := "confTells", unfollowed := true, recurses := true, named := ["math/bits.divideError", "math/bits.overflowError"], apart := false }
def ConfTellsSaid : Prop := confTellsRow.holds Tryz.pinned (OpenSpec.ofChange confTellsSpec)

/-- ITS FALSE NEIGHBOUR: 'it returns false'. Refute it at one input. -/
def confTellsWrong : ChangeSpec := { name := "confTells", fn := fun _ => fun
  | [d1, d2, d3, d4] => { results := [.lit (.bool false)], args := [d1, d2, d3, d4] }
  | _ => none }
def ConfTellsWrongFalsely : Prop := confTellsRow.holds Tryz.pinned (OpenSpec.ofChange confTellsWrong)

/-- 'thrumlaw18.ConfGrads': WHATEVER THE INPUT: true; the input reads as it did. -/
def confGradsSpec : ChangeSpec := { name := "confGrads", fn := fun _ => fun
  | [d1, d2, d3, d4] => { results := [.lit (.bool true)], args := [d1, d2, d3, d4] }
  | _ => none }
def confGradsRow : OpenClaim := { program := "ytnmlihfpenjeiaagreat", sum := "30bb6c4b230f89a74f043df9ee4ef7037c2c157790b18b7b9206b921460223ae", func := "thrum/thrumlaw18.ConfGrads", spec := "confGrads", unfollowed := true, recurses := true, named := ["math/bits.divideError", "math/bits.overflowError"], apart := false }
def ConfGradsSaid : Prop := confGradsRow.holds Tryz.pinned (OpenSpec.ofChange confGradsSpec)

/-- ITS FALSE NEIGHBOUR: 'it returns false'. Refute it at one input. -/
def confGradsWrong : ChangeSpec := { name := "confGrads", fn := fun _ => fun
  | [d1, d2, d3, d4] => { results := [.lit (.bool false)], args := [d1, d2, d3, d4] }
  | _ => none }
def ConfGradsWrongFalsely : Prop := confGradsRow.holds Tryz.pinned (OpenSpec.ofChange confGradsWrong)

/-- 'thrumlaw18.ConfSees': WHATEVER THE INPUT: true; the input reads as it did. -/
def confSeesSpec : ChangeSpec := { name := "confSees", fn := fun _ => fun
  | [d1, d2, d3, d4] => { results := [.lit (.bool true)], args := [d1, d2, d3, d4] }
  | _ => none }
def confSeesRow : OpenClaim := { program := "ytnmlihfpenjeiaagreat", sum := "30bb6c4b230f89a74f043df9ee4ef7037c2c157790b18b7b9206b921460223ae", func := "thrum/thrumlaw18.ConfSees", spec := "confSees", unfollowed := true, recurses := true, named := ["math/bits.divideError", "math/bits.overflowError"], apart := false }
def ConfSeesSaid : Prop := confSeesRow.holds Tryz.pinned (OpenSpec.ofChange confSeesSpec)

/-- ITS FALSE NEIGHBOUR: 'it returns false'. Refute it at one input. -/
def confSeesWrong : ChangeSpec := { name := "confSees", fn := fun _ => fun
  | [d1, d2, d3, d4] => { results := [.lit (.bool false)], args := [d1, d2, d3, d4] }
  | _ => none }
def ConfSeesWrongFalsely : Prop := confSeesRow.holds Tryz.pinned (OpenSpec.ofChange confSeesWrong)

/- THE SECOND FORM. 'bulk': how many values and letters a reading holds, each counted each time it is reached (what is shared counts as often as it is met; a slice's spare places count too). A statement '..UptoSaid' is the law's where the arguments, and the package variables that the reading takes, are together of bulk at most 1048576: NARROWER than '..Said'. Prove '..Said' where nothing that the law and all that it calls make is longer than what came in: it says more and counts as full. Else prove '..UptoSaid'. A law counts once. -/
mutual
def uptoBulk {H : Type} : DataW H → Nat
  | .lit (.string bytes) => bytes.length + 1
  | .lit _ => 1
  | .nil => 1
  | .ptr d => uptoBulk d + 1
  | .slice elems spare => uptoBulkAll elems + uptoBulkAll spare + 1
  | .agg parts => uptoBulkAll parts + 1
  | .iface _ d => uptoBulk d + 1
  | .map entries => uptoBulkEntries entries + 1
  | .held _ => 1
def uptoBulkAll {H : Type} : List (DataW H) → Nat
  | [] => 0
  | d :: r => uptoBulk d + uptoBulkAll r
def uptoBulkEntries {H : Type} : List (Lit × DataW H) → Nat
  | [] => 0
  | x :: r => uptoBulkEntry x + uptoBulkEntries r
def uptoBulkEntry {H : Type} : Lit × DataW H → Nat
  | (.string bytes, d) => bytes.length + uptoBulk d + 1
  | (_, d) => uptoBulk d + 1
 end
def uptoSmall : (H : Type) → List (DataW H) → Bool := fun _ ds => decide (uptoBulkAll ds ≤ 1048576)
def OpenSpec.upto (s : _root_.Go.ChangeSpec) : _root_.Go.OpenSpec := { _root_.Go.OpenSpec.ofChange s with cond := some uptoSmall }

/-- 'thrumlaw18.ConfBends', WHERE WHAT IT READS IS OF BULK AT MOST 1048576: true; the input reads as it did. -/
def confBendsUptoRow : OpenClaim := { program := "ytnmlihfpenjeiaagreat", sum := "30bb6c4b230f89a74f043df9ee4ef7037c2c157790b18b7b9206b921460223ae", func := "thrum/thrumlaw18.ConfBends", spec := "confBends", unfollowed := true, recurses := true, named := ["math/bits.divideError", "math/bits.overflowError"], apart := false, narrowed := true }
def ConfBendsUptoSaid : Prop := confBendsUptoRow.holds Tryz.pinned (OpenSpec.upto confBendsSpec)

/-- 'thrumlaw18.ConfWarms', WHERE WHAT IT READS IS OF BULK AT MOST 1048576: true; the input reads as it did. -/
def confWarmsUptoRow : OpenClaim := { program := "ytnmlihfpenjeiaagreat", sum := "30bb6c4b230f89a74f043df9ee4ef7037c2c157790b18b7b9206b921460223ae", func := "thrum/thrumlaw18.ConfWarms", spec := "confWarms", unfollowed := true, recurses := true, named := ["math/bits.divideError", "math/bits.overflowError"], apart := false, narrowed := true }
def ConfWarmsUptoSaid : Prop := confWarmsUptoRow.holds Tryz.pinned (OpenSpec.upto confWarmsSpec)

/-- 'thrumlaw18.ConfTells', WHERE WHAT IT READS IS OF BULK AT MOST 1048576: true; the input reads as it did. -/
def confTellsUptoRow : OpenClaim := { program := "ytnmlihfpenjeiaagreat", sum := "30bb6c4b230f89a74f043df9ee4ef7037c2c157790b18b7b9206b921460223ae", func := "thrum/thrumlaw18.ConfTells", spec := "confTells", unfollowed := true, recurses := true, named := ["math/bits.divideError", "math/bits.overflowError"], apart := false, narrowed := true }
def ConfTellsUptoSaid : Prop := confTellsUptoRow.holds Tryz.pinned (OpenSpec.upto confTellsSpec)

/-- 'thrumlaw18.ConfGrads', WHERE WHAT IT READS IS OF BULK AT MOST 1048576: true; the input reads as it did. -/
def confGradsUptoRow : OpenClaim := { program := "ytnmlihfpenjeiaagreat", sum := "30bb6c4b230f89a74f043df9ee4ef7037c2c157790b18b7b9206b921460223ae", func := "thrum/thrumlaw18.ConfGrads", spec := "confGrads", unfollowed := true, recurses := true, named := ["math/bits.divideError", "math/bits.overflowError"], apart := false, narrowed := true }
def ConfGradsUptoSaid : Prop := confGradsUptoRow.holds Tryz.pinned (OpenSpec.upto confGradsSpec)

/-- 'thrumlaw18.ConfSees', WHERE WHAT IT READS IS OF BULK AT MOST 1048576: true; the input reads as it did. -/
def confSeesUptoRow : OpenClaim := { program := "ytnmlihfpenjeiaagreat", sum := "30bb6c4b230f89a74f043df9ee4ef7037c2c157790b18b7b9206b921460223ae", func := "thrum/thrumlaw18.ConfSees", spec := "confSees", unfollowed := true, recurses := true, named := ["math/bits.divideError", "math/bits.overflowError"], apart := false, narrowed := true }
def ConfSeesUptoSaid : Prop := confSeesUptoRow.holds Tryz.pinned (OpenSpec.upto confSeesSpec)

end Rows
end Go.Proofs.YtnmlihfpenjeiaaGreat
