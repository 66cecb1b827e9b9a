/- Plain facts: what the document reads as a frame. Conditions: none. -/
import Derived.Test.YtelobmiooldoaaaGreatPR4
namespace Go.Proofs.YtelobmiooldoaaaGreat.Abs
open Go Go.RowKit Go.IntWalk Crc
set_option linter.unusedVariables false
set_option linter.unnecessarySimpa false
set_option linter.unusedSimpArgs false
set_option linter.unusedSectionVars false
set_option maxRecDepth 100000

theorem bind_some {α β : Type} {m : Option α} {f : α → Option β} {b : β} (h : (m >>= f) = some b) : ∃ a, m = some a ∧ f a = some b := by
  cases m with
  | none => cases h
  | some a => exact ⟨a, rfl, h⟩
end Go.Proofs.YtelobmiooldoaaaGreat.Abs
