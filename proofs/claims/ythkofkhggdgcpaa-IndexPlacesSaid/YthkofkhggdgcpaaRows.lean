/-
  No cell of these rows narrows 'for every input' (looked for: loops, veiled, ifaces, maps, wideKeys, modest, calm, conditions, laid).
  DERIVED. THE GIVEN ROWS OF THIS SEAT. 3 by the template 'for every input the law returns true; each argument reads behind the call as it read before'; 0 by the template 'total and deterministic' (their statements: YthkofkhggdgcpaaTotals.lean).
  GIVEN WITH THE SEED: the statements are not yours to turn. If you find one false, say at which input.
  Laid BY PROGRAM, IN A SANDBOX (cutbox-rows.mjs): the forced cells as the released guide's own fill.sh prints them over the translation 9645afa41b72454c… (all of the seat's roots in one cut). By AI agents, Wed Nov 11 2026. No macro, syntax, notation, axiom, sorry.
-/
import Derived.Test.YthkofkhggdgcpaaChecked
import GoSem.Claim
import GoSem.ClaimJoined
import GoSem.ClaimMapViews
import Derived.JoinedTies
import Derived.KernelRfl
namespace Go.Proofs.Ythkofkhggdgcpaa
/- THE CELL 'sum', in the pinned program and in every row, IS THE sha256 OF THE DUMP (.gsa) THAT YthkofkhggdgcpaaProg.lean LOADS. Nothing in Lean hashes anything: it is a label: what it is worth is what the hold of that sum in a sandbox is worth. -/
noncomputable def Try.pinned : Pinned := { name := "ythkofkhggdgcpaa", sum := "9645afa41b72454cee8dd844d243516d8957762befe1846a6679a6cb5d381f58", checked := Try.checked }
namespace Rows
def none {H : Type} : Left H := { results := [], args := [] }

/-- 'thrumlaw06.IndexLeft': WHATEVER THE INPUT: true; the input reads as it did. -/
def indexLeftSpec : ChangeSpec := { name := "indexLeft", fn := fun _ => fun
  | [d1, d2] => { results := [.lit (.bool true)], args := [d1, d2] }
  | _ => none }
def indexLeftRow : OpenClaim := { program := "ythkofkhggdgcpaa", sum := "9645afa41b72454cee8dd844d243516d8957762befe1846a6679a6cb5d381f58", func := "thrum/thrumlaw06.IndexLeft", spec := "indexLeft", recurses := true, apart := false }
def IndexLeftSaid : Prop := indexLeftRow.holds Try.pinned (OpenSpec.ofChange indexLeftSpec)

/-- ITS FALSE NEIGHBOUR: 'it returns false'. Refute it at one input. -/
def indexLeftWrong : ChangeSpec := { name := "indexLeft", fn := fun _ => fun
  | [d1, d2] => { results := [.lit (.bool false)], args := [d1, d2] }
  | _ => none }
def IndexLeftWrongFalsely : Prop := indexLeftRow.holds Try.pinned (OpenSpec.ofChange indexLeftWrong)

/-- 'thrumlaw06.IndexMerges': WHATEVER THE INPUT: true; the input reads as it did. -/
def indexMergesSpec : ChangeSpec := { name := "indexMerges", fn := fun _ => fun
  | [d] => { results := [.lit (.bool true)], args := [d] }
  | _ => none }
def indexMergesRow : OpenClaim := { program := "ythkofkhggdgcpaa", sum := "9645afa41b72454cee8dd844d243516d8957762befe1846a6679a6cb5d381f58", func := "thrum/thrumlaw06.IndexMerges", spec := "indexMerges", recurses := true, apart := false }
def IndexMergesSaid : Prop := indexMergesRow.holds Try.pinned (OpenSpec.ofChange indexMergesSpec)

/-- ITS FALSE NEIGHBOUR: 'it returns false'. Refute it at one input. -/
def indexMergesWrong : ChangeSpec := { name := "indexMerges", fn := fun _ => fun
  | [d] => { results := [.lit (.bool false)], args := [d] }
  | _ => none }
def IndexMergesWrongFalsely : Prop := indexMergesRow.holds Try.pinned (OpenSpec.ofChange indexMergesWrong)

/-- 'thrumlaw06.IndexPlaces': WHATEVER THE INPUT: true; the input reads as it did. -/
def indexPlacesSpec : ChangeSpec := { name := "indexPlaces", fn := fun _ => fun
  | [d1, d2, d3, d4, d5] => { results := [.lit (.bool true)], args := [d1, d2, d3, d4, d5] }
  | _ => none }
def indexPlacesRow : OpenClaim := { program := "ythkofkhggdgcpaa", sum := "9645afa41b72454cee8dd844d243516d8957762befe1846a6679a6cb5d381f58", func := "thrum/thrumlaw06.IndexPlaces", spec := "indexPlaces", unfollowed := true, recurses := true, apart := false }
def IndexPlacesSaid : Prop := indexPlacesRow.holds Try.pinned (OpenSpec.ofChange indexPlacesSpec)

/-- ITS FALSE NEIGHBOUR: 'it returns false'. Refute it at one input. -/
def indexPlacesWrong : ChangeSpec := { name := "indexPlaces", fn := fun _ => fun
  | [d1, d2, d3, d4, d5] => { results := [.lit (.bool false)], args := [d1, d2, d3, d4, d5] }
  | _ => none }
def IndexPlacesWrongFalsely : Prop := indexPlacesRow.holds Try.pinned (OpenSpec.ofChange indexPlacesWrong)

/- THE SECOND FORM. 'bulk': how many values and letters a reading holds, each counted each time it is reached (what is shared counts as often as it is met; a slice's spare places count too). A statement '..UptoSaid' is the law's where the arguments, and the package variables that the reading takes, are together of bulk at most 1048576: NARROWER than '..Said'. Prove '..Said' where nothing that the law and all that it calls make is longer than what came in: it says more and counts as full. Else prove '..UptoSaid'. A law counts once. -/
mutual
def uptoBulk {H : Type} : DataW H → Nat
  | .lit (.string bytes) => bytes.length + 1
  | .lit _ => 1
  | .nil => 1
  | .ptr d => uptoBulk d + 1
  | .slice elems spare => uptoBulkAll elems + uptoBulkAll spare + 1
  | .agg parts => uptoBulkAll parts + 1
  | .iface _ d => uptoBulk d + 1
  | .map entries => uptoBulkEntries entries + 1
  | .held _ => 1
def uptoBulkAll {H : Type} : List (DataW H) → Nat
  | [] => 0
  | d :: r => uptoBulk d + uptoBulkAll r
def uptoBulkEntries {H : Type} : List (Lit × DataW H) → Nat
  | [] => 0
  | x :: r => uptoBulkEntry x + uptoBulkEntries r
def uptoBulkEntry {H : Type} : Lit × DataW H → Nat
  | (.string bytes, d) => bytes.length + uptoBulk d + 1
  | (_, d) => uptoBulk d + 1
 end
def uptoSmall : (H : Type) → List (DataW H) → Bool := fun _ ds => decide (uptoBulkAll ds ≤ 1048576)
def OpenSpec.upto (s : _root_.Go.ChangeSpec) : _root_.Go.OpenSpec := { _root_.Go.OpenSpec.ofChange s with cond := some uptoSmall }

/-- 'thrumlaw06.IndexLeft', WHERE WHAT IT READS IS OF BULK AT MOST 1048576: true; the input reads as it did. -/
def indexLeftUptoRow : OpenClaim := { program := "ythkofkhggdgcpaa", sum := "9645afa41b72454cee8dd844d243516d8957762befe1846a6679a6cb5d381f58", func := "thrum/thrumlaw06.IndexLeft", spec := "indexLeft", recurses := true, apart := false, narrowed := true }
def IndexLeftUptoSaid : Prop := indexLeftUptoRow.holds Try.pinned (OpenSpec.upto indexLeftSpec)

/-- 'thrumlaw06.IndexMerges', WHERE WHAT IT READS IS OF BULK AT MOST 1048576: true; the input reads as it did. -/
def indexMergesUptoRow : OpenClaim := { program := "ythkofkhggdgcpaa", sum := "9645afa41b72454cee8dd844d243516d8957762befe1846a6679a6cb5d381f58", func := "thrum/thrumlaw06.IndexMerges", spec := "indexMerges", recurses := true, apart := false, narrowed := true }
def IndexMergesUptoSaid : Prop := indexMergesUptoRow.holds Try.pinned (OpenSpec.upto indexMergesSpec)

/-- 'thrumlaw06.IndexPlaces', WHERE WHAT IT READS IS OF BULK AT MOST 1048576: true; the input reads as it did. -/
def indexPlacesUptoRow : OpenClaim := { program := "ythkofkhggdgcpaa", sum := "9645afa41b72454cee8dd844d243516d8957762befe1846a6679a6cb5d381f58", func := "thrum/thrumlaw06.IndexPlaces", spec := "indexPlaces", unfollowed := true, recurses := true, apart := false, narrowed := true }
def IndexPlacesUptoSaid : Prop := indexPlacesUptoRow.holds Try.pinned (OpenSpec.upto indexPlacesSpec)

end Rows
end Go.Proofs.Ythkofkhggdgcpaa
