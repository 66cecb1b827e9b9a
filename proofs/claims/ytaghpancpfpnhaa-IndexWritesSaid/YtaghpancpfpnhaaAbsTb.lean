/- Code in an abstract state. Conditions: none. -/
import Derived.Test.YtaghpancpfpnhaaAbsTz
import Derived.Deep.LoopGhost
namespace Go.Proofs.Ytaghpancpfpnhaa.Abs
open Go Go.RowKit
set_option linter.unusedVariables false
set_option linter.unusedSimpArgs false

inductive AC where
  | skip
  | reg (ops : List AOper)
  | draw (its : List DIt)
  | seq (a b : AC)
  | cond (c : Opd) (a b : AC)
  | block (id : Nat) (a : AC)
  | loop (a : AC)
  | exit (id : Nat)
  | ret
  deriving Inhabited

/-- The machine's code as abstract code. -/
def tr (P : Program) (N : Nat) : Code → Option AC
  | .skip => some .skip
  | .region id ops draw => match trOpers P N ops (id * 100) ops.toList with
    | some as => if draw then (drawIts P ops as).map .draw else some (.reg as)
    | none => none
  | .seq a b => match tr P N a, tr P N b with
    | some x, some y => some (.seq x y)
    | _, _ => none
  | .cond c a b => match trO c, tr P N a, tr P N b with
    | some c', some x, some y => some (.cond c' x y)
    | _, _, _ => none
  | .block id a => (tr P N a).map (.block id)
  | .loop a => (tr P N a).map .loop
  | .exit id => some (.exit id)
  | .ret => some .ret
  | _ => none

inductive Kd where
  | norm
  | exit (id : Nat)
  | ret
  deriving DecidableEq

def Kd.ex : Kd → Exit
  | .norm => .normal
  | .exit id => .exit id
  | .ret => .ret

section
variable {P : Program} {N : Nat}

/-- Code from a told state: whatever comes of it is told. -/
def Ev (P : Program) (N : Nat) (c : Code) (st : St) (Q : Kd → St → Prop) : Prop :=
  ∀ E w a, a.tmps.size = N → Valid E w → StR E w st a.tmps → c.wp P (fun e a' w' => ∃ k st' E', e = k.ex ∧ Q k st' ∧ Told N E w a.defers E' w' st' a') a w

/-- The same, of whatever code stands behind an abstract one. -/
def EvC (P : Program) (N : Nat) (ac : AC) (st : St) (Q : Kd → St → Prop) : Prop := ∀ c, tr P N c = some ac → Ev P N c st Q

theorem Ev.mono {c : Code} {st : St} {Q Q' : Kd → St → Prop} (h : Ev P N c st Q) (hq : ∀ k s, Q k s → Q' k s) : Ev P N c st Q' := fun E w a h1 h2 h3 =>
  wp_mono (h E w a h1 h2 h3) fun e a' w' ⟨k, st', E', g1, g2, g3⟩ => ⟨k, st', E', g1, hq _ _ g2, g3⟩

theorem EvC.mono {ac : AC} {st : St} {Q Q' : Kd → St → Prop} (h : EvC P N ac st Q) (hq : ∀ k s, Q k s → Q' k s) : EvC P N ac st Q' := fun c hc => (h c hc).mono hq

theorem Ev_seq {a b : Code} {st : St} {Q : Kd → St → Prop} (h : Ev P N a st fun k st' => match k with | .norm => Ev P N b st' Q | k => Q k st') : Ev P N (.seq a b) st Q := by
  intro E w act h1 h2 h3
  refine wp_seq (wp_mono (h E w act h1 h2 h3) ?_)
  rintro e a' w' ⟨k, st', E', rfl, g2, g3⟩
  cases k with
  | norm =>
    simp only [Kd.ex, Exit.then]
    refine wp_mono (g2 E' w' a' g3.size g3.valid g3.str) ?_
    rintro e a2 w2 ⟨k2, st2, E2, rfl, r2, r3⟩
    exact ⟨k2, st2, E2, rfl, r2, r3.size, r3.defers.trans g3.defers, r3.valid, r3.str, g3.step.trans r3.step⟩
  | exit id => exact ⟨.exit id, st', E', rfl, g2, g3⟩
  | ret => exact ⟨.ret, st', E', rfl, g2, g3⟩

theorem Ev_block {id : Nat} {c : Code} {st : St} {Q : Kd → St → Prop} (h : Ev P N c st fun k st' => match k with | .exit i => if i = id then Q .norm st' else Q (.exit i) st' | k => Q k st') : Ev P N (.block id c) st Q := by
  intro E w act h1 h2 h3
  refine wp_block (wp_mono (h E w act h1 h2 h3) ?_)
  rintro e a' w' ⟨k, st', E', rfl, g2, g3⟩
  cases k with
  | norm => exact ⟨.norm, st', E', rfl, g2, g3⟩
  | exit i =>
    simp only [Kd.ex, Exit.inBlock]
    simp only at g2
    split
    · rename_i hi; rw [if_pos hi] at g2; exact ⟨.norm, st', E', rfl, g2, g3⟩
    · rename_i hi; rw [if_neg hi] at g2; exact ⟨.exit i, st', E', rfl, g2, g3⟩
  | ret => exact ⟨.ret, st', E', rfl, g2, g3⟩

/-- A loop: its states at its head are a family; each round leads to a lesser member, or out. -/
theorem Ev_loop {ι : Type} {c : Code} (S : ι → St) (μ : ι → Nat) {Q : Kd → St → Prop} (h : ∀ x, Ev P N c (S x) fun k st' => match k with | .norm => ∃ y, μ y < μ x ∧ (∀ E w tmps, Valid E w → StR E w st' tmps → ∃ E', Valid E' w ∧ StR E' w (S y) tmps ∧ Step E w E' w) | k => Q k st') :
    ∀ x, Ev P N (.loop c) (S x) Q := by
  intro x E w act h1 h2 h3
  refine wp_loop_ghost (fun n a' w' => ∃ y E', μ y = n ∧ Told N E w act.defers E' w' (S y) a') (μ x) ⟨x, E, rfl, h1, rfl, h2, h3, Step.refl _ _⟩ ?_
  rintro n a' w' ⟨y, E', rfl, hT⟩
  refine wp_mono (h y E' w' a' hT.size hT.valid hT.str) ?_
  rintro e a2 w2 ⟨k2, st2, E2, rfl, r2, r3⟩
  cases k2 with
  | norm =>
    simp only at r2
    obtain ⟨z, hz, hsub⟩ := r2
    obtain ⟨E3, g1, g2, g3⟩ := hsub E2 w2 a2.tmps r3.valid r3.str
    exact ⟨μ z, hz, z, E3, rfl, r3.size, r3.defers.trans hT.defers, g1, g2, (hT.step.trans r3.step).trans g3⟩
  | exit id => exact ⟨.exit id, st2, E2, rfl, r2, r3.size, r3.defers.trans hT.defers, r3.valid, r3.str, hT.step.trans r3.step⟩
  | ret => exact ⟨.ret, st2, E2, rfl, r2, r3.size, r3.defers.trans hT.defers, r3.valid, r3.str, hT.step.trans r3.step⟩

end
end Go.Proofs.Ytaghpancpfpnhaa.Abs
