/- What code comes to, worked out. Conditions: none. -/
import Derived.Test.YtaghpancpfpnhaaAbsV
namespace Go.Proofs.Ytaghpancpfpnhaa.Abs
open Go Go.RowKit
set_option linter.unusedVariables false
set_option linter.unusedSimpArgs false

/-- What code comes to: all but loops. -/
def vc (P : Program) (N : Nat) : AC → St → (Kd → St → Prop) → Prop
  | .skip, st, Q => Q .norm st
  | .reg ops, st, Q => vcOps P ops st (Q .norm)
  | .draw its, st, Q => vcDraw P its st (Q .norm)
  | .seq a b, st, Q => vc P N a st fun k s => match k with
    | .norm => vc P N b s Q
    | k => Q k s
  | .cond c a b, st, Q => match st.val c with
    | some (.d (.bool t)) => (t = true → vc P N a (st.litO c true) Q) ∧ (t = false → vc P N b (st.litO c false) Q)
    | _ => False
  | .block id a, st, Q => vc P N a st fun k s => match k with
    | .exit i => if i = id then Q .norm s else Q (.exit i) s
    | k => Q k s
  | .loop a, st, Q => EvC P N (.loop a) st Q
  | .exit id, st, Q => Q (.exit id) st
  | .ret, st, Q => Q .ret st

section
variable {P : Program} {N : Nat}

theorem vc_sound : ∀ (ac : AC) (st : St) (Q : Kd → St → Prop), vc P N ac st Q → EvC P N ac st Q
  | .skip, st, Q, h => fun c hc => by
    cases c <;> simp only [tr] at hc <;> (repeat' split at hc) <;> (try simp only [Option.map_eq_some_iff] at hc) <;> first | exact Ev_skip h | (cases hc; done) | (obtain ⟨_, _, hc⟩ := hc; cases hc; done) | (simp only [Option.some.injEq] at hc; split at hc <;> cases hc; done)
  | .reg ops, st, Q, h => fun c hc => by
    cases c <;> simp only [tr] at hc
    case region id os draw =>
      split at hc
      · rename_i as h1
        split at hc
        · simp only [Option.map_eq_some_iff] at hc
          obtain ⟨its', h2, h3⟩ := hc
          cases h3
        · rename_i hd; cases hc; cases draw
          · exact Ev_reg h1 h
          · exact absurd rfl hd
      · cases hc
    all_goals (repeat' split at hc) <;> (try simp only [Option.map_eq_some_iff] at hc) <;> first | (cases hc; done) | (obtain ⟨_, _, hc⟩ := hc; cases hc; done)
  | .draw its, st, Q, h => fun c hc => by
    cases c <;> simp only [tr] at hc
    case region id os draw =>
      split at hc
      · rename_i as h1
        split at hc
        · rename_i hd
          simp only [Option.map_eq_some_iff] at hc
          obtain ⟨its', h2, h3⟩ := hc
          cases h3
          subst hd
          exact Ev_draw h1 h2 h
        · cases hc
      · cases hc
    all_goals (repeat' split at hc) <;> (try simp only [Option.map_eq_some_iff] at hc) <;> first | (cases hc; done) | (obtain ⟨_, _, hc⟩ := hc; cases hc; done)
  | .seq a b, st, Q, h => fun c hc => by
    cases c <;> simp only [tr] at hc
    case seq x y =>
      split at hc
      · rename_i a' b' h1 h2
        cases hc
        refine Ev_seq ((vc_sound a st _ h x h1).mono fun k s hk => ?_)
        cases k with
        | norm => exact vc_sound b s Q hk y h2
        | _ => exact hk
      · cases hc
    all_goals (repeat' split at hc) <;> (try simp only [Option.map_eq_some_iff] at hc) <;> first | (cases hc; done) | (obtain ⟨_, _, hc⟩ := hc; cases hc; done) | (simp only [Option.some.injEq] at hc; split at hc <;> cases hc; done)
  | .cond o a b, st, Q, h => fun c hc => by
    cases c <;> simp only [tr] at hc
    case cond c x y =>
      split at hc
      · rename_i c' a' b' h0 h1 h2
        cases hc
        simp only [vc] at h
        split at h
        · rename_i t ht
          exact Ev_cond h0 ht (fun e => vc_sound a _ Q (h.1 e) x h1) (fun e => vc_sound b _ Q (h.2 e) y h2)
        · exact h.elim
      · cases hc
    all_goals (repeat' split at hc) <;> (try simp only [Option.map_eq_some_iff] at hc) <;> first | (cases hc; done) | (obtain ⟨_, _, hc⟩ := hc; cases hc; done) | (simp only [Option.some.injEq] at hc; split at hc <;> cases hc; done)
  | .block id a, st, Q, h => fun c hc => by
    cases c <;> simp only [tr] at hc
    case block i x =>
      simp only [Option.map_eq_some_iff] at hc
      obtain ⟨a', h1, h2⟩ := hc
      cases h2
      refine Ev_block ((vc_sound a st _ h x h1).mono fun k s hk => ?_)
      cases k <;> exact hk
    all_goals (repeat' split at hc) <;> (try simp only [Option.map_eq_some_iff] at hc) <;> first | (cases hc; done) | (obtain ⟨_, _, hc⟩ := hc; cases hc; done) | (simp only [Option.some.injEq] at hc; split at hc <;> cases hc; done)
  | .loop a, st, Q, h => h
  | .exit id, st, Q, h => fun c hc => by
    cases c <;> simp only [tr] at hc <;> (repeat' split at hc) <;> (try simp only [Option.map_eq_some_iff] at hc) <;> first | (cases hc; exact Ev_exit h) | (cases hc; done) | (obtain ⟨_, _, hc⟩ := hc; cases hc; done) | (simp only [Option.some.injEq] at hc; split at hc <;> cases hc; done)
  | .ret, st, Q, h => fun c hc => by
    cases c <;> simp only [tr] at hc <;> (repeat' split at hc) <;> (try simp only [Option.map_eq_some_iff] at hc) <;> first | (cases hc; exact Ev_ret h) | (cases hc; done) | (obtain ⟨_, _, hc⟩ := hc; cases hc; done) | (simp only [Option.some.injEq] at hc; split at hc <;> cases hc; done)

/-- A loop's states at its head are a family; each round leads to a lesser member, or out. -/
theorem loop_of {ι : Type} {a : AC} (S : ι → St) (μ : ι → Nat) {Q : Kd → St → Prop} (x : ι) {st : St} (ρ : List (Tg × Tg)) (hx : St.le ρ st (S x))
    (h : ∀ x, vc P N a (S x) fun k st' => match k with | .norm => ∃ y ρ, μ y < μ x ∧ St.le ρ st' (S y) | k => Q k st') : EvC P N (.loop a) st Q := by
  intro c hc
  cases c <;> simp only [tr] at hc
  case loop b =>
    simp only [Option.map_eq_some_iff] at hc
    obtain ⟨a', h1, h2⟩ := hc
    cases h2
    exact Ev_loop' S μ (fun x => vc_sound a (S x) _ (h x) b h1) ρ hx
  all_goals (repeat' split at hc) <;> (try simp only [Option.map_eq_some_iff] at hc) <;> first | (cases hc; done) | (obtain ⟨_, _, hc⟩ := hc; cases hc; done) | (simp only [Option.some.injEq] at hc; split at hc <;> cases hc; done)

/-- A function as abstract code: how many slots, the results, the code. -/
def fnA (P : Program) (f : FuncId) : Option (Nat × List RV × AC) :=
  match P.funcs[f]? with
  | some fn => match fn.body with
    | some c => match tr P fn.ntmps c, trRes P fn.results.toList with
      | some ac, some res => if fn.name == "runtime.NumGoroutine" then none else some (fn.ntmps, res, ac)
      | _, _ => none
    | none => none
  | none => none

theorem EvG_vc {f : FuncId} {ac : AC} {N : Nat} {res : List RV} {ps : List PV} {bx bx' : List (Tg × List PV)} {r : PV} (hf : fnA P f = some (N, res, ac)) (hl : ps.length ≤ N) (h : vc P N ac (initSt ps bx) (RetOK res r bx')) : EvG P f ps bx r bx' := by
  unfold fnA at hf
  split at hf
  · rename_i fn h1
    split at hf
    · rename_i c h2
      split at hf
      · rename_i ac' res' h3 h4
        split at hf
        · cases hf
        · rename_i h5
          cases hf
          exact EvG_of h1 h2 (by simpa using h5) h4 hl (vc_sound _ _ _ h c h3)
      · cases hf
    · cases hf
  · cases hf

end
end Go.Proofs.Ytaghpancpfpnhaa.Abs
