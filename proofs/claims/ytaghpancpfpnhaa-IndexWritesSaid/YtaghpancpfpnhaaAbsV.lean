/- Results; contracts of functions from their bodies. Conditions: none. -/
import Derived.Test.YtaghpancpfpnhaaAbsU
namespace Go.Proofs.Ytaghpancpfpnhaa.Abs
open Go Go.RowKit
set_option linter.unusedVariables false
set_option linter.unusedSimpArgs false

/-- Where a result stands: in a slot, or behind one. -/
inductive RV where
  | t (n : Nat)
  | c (n : Nat) (ag : Bool) (sz : Nat)
  deriving Inhabited

def trRes (P : Program) : List ResultVar → Option (List RV)
  | [] => some []
  | .tmp t :: r => (trRes P r).map (.t t :: ·)
  | .cell a t :: r => match P.underlying t, P.info? t, trRes P r with
    | some u, some j, some rs => some (.c a (aggT u) j.size :: rs)
    | _, _, _ => none

def resL (st : St) : List RV → Option (Prop × List PV)
  | [] => some (True, [])
  | .t n :: r => match st.get n, resL st r with
    | some p, some (c, ps) => some (c, p :: ps)
    | _, _ => none
  | .c n ag sz :: r => match st.get n with
    | some (.ptr k o) => match rop (.load ag sz (.t n)) st.val st.box, resL st r with
      | some (c', p), some (c, ps) => some (c' ∧ c, p :: ps)
      | _, _ => none
    | _ => none

/-- What a state's results are. -/
def resP (res : List RV) (st : St) : Option (Prop × PV) :=
  match resL st res with
  | some (c, [p]) => some (c, p)
  | some (c, ps) => some (c, .tup ps)
  | none => none

def resM (tmps : Array Value) : ResultVar → Sem Value
  | .tmp t => pure (tmps.getD t undef)
  | .cell a t => do loadVar t (← asAddr (tmps.getD a undef))

theorem results_eq (fn : Func) (tmps : Array Value) : results fn tmps = (do let vs ← fn.results.mapM (resM tmps); pure (if h : vs.size = 1 then vs[0] else .tuple vs)) := by
  unfold results
  congr 1

section
variable {P : Program} {N : Nat} {E : Env} {w : World} {st : St} {tmps : Array Value}

theorem resL_sound (hs : StR E w st tmps) : ∀ (l : List ResultVar) (res : List RV) (c : Prop) (ps : List PV), trRes P l = some res → resL st res = some (c, ps) → c →
    ∃ vs : List Value, VRs E w ps vs ∧ (l.mapM (resM tmps)).run P w = .ok vs w
  | [], res, c, ps, ht, hr, hc => by
    simp only [trRes, Option.some.injEq] at ht; subst ht
    simp only [resL, Option.some.injEq, Prod.mk.injEq] at hr; obtain ⟨rfl, rfl⟩ := hr
    exact ⟨[], by simp [VRs], by simp⟩
  | .tmp t :: r, res, c, ps, ht, hr, hc => by
    simp only [trRes, Option.map_eq_some_iff] at ht
    obtain ⟨rs, h1, rfl⟩ := ht
    simp only [resL] at hr
    split at hr
    · rename_i p c' ps' h2 h3
      simp only [Option.some.injEq, Prod.mk.injEq] at hr; obtain ⟨rfl, rfl⟩ := hr
      obtain ⟨vs, g1, g2⟩ := resL_sound hs r rs _ _ h1 h3 hc
      obtain ⟨u, g3, g4⟩ := hs.get h2
      refine ⟨u :: vs, by simp only [VRs]; exact ⟨u, vs, rfl, g4, g1⟩, ?_⟩
      have : tmps.getD t undef = u := by simp [Array.getD_eq_getD_getElem?, g3]
      simp only [List.mapM_cons, resM, Sem.run_bind, Sem.run_pure, Result.andThen_ok, this, g2]
    · cases hr
  | .cell a t :: r, res, c, ps, ht, hr, hc => by
    simp only [trRes] at ht
    split at ht
    · rename_i u j rs hu hj h1
      simp only [Option.some.injEq] at ht; subst ht
      simp only [resL] at hr
      split at hr
      · rename_i k o h2
        split at hr
        · rename_i c' p c2 ps' h3 h4
          simp only [Option.some.injEq, Prod.mk.injEq] at hr; obtain ⟨rfl, rfl⟩ := hr
          obtain ⟨vs, g1, g2⟩ := resL_sound hs r rs _ _ h1 h4 hc.2
          obtain ⟨vx, g3, g4⟩ := hs.get h2
          have hx : ∀ q, st.val (.t a) = some q → VR E w q vx := by
            intro q hq; simp only [St.val] at hq; rw [h2] at hq; cases hq; exact g4
          obtain ⟨v, g5, g6⟩ := load_sound hu hj hs.bxR hx h3 hc.1
          simp only [VR] at g4
          obtain ⟨b, g7, rfl⟩ := g4
          have g8 : tmps.getD a undef = .pointer (some ⟨b, o, none⟩) := by simp [Array.getD_eq_getD_getElem?, g3]
          have g9 : (loadVar t ⟨b, o, none⟩).run P w = .ok v w := by
            simp only [Instr.loadAt, Instr.sureAddr, Sem.run_bind, Sem.run_pure, Result.andThen_ok] at g5
            generalize (loadVar t ⟨b, o, none⟩).run P w = rr at g5 ⊢
            cases rr with
            | ok y w' =>
              simp only [Result.andThen_ok, Sem.run_pure, Result.ok.injEq] at g5
              obtain ⟨g5, rfl⟩ := g5
              cases g5; rfl
            | halt y w' => simp [Result.andThen] at g5
          refine ⟨v :: vs, by simp only [VRs]; exact ⟨v, vs, rfl, g6, g1⟩, ?_⟩
          simp only [List.mapM_cons, resM, Sem.run_bind, g8, asAddr, Sem.run_pure, Result.andThen_ok, g9, g2]
        · cases hr
      · cases hr
    · cases ht

theorem resP_sound {fn : Func} {res : List RV} (ht : trRes P fn.results.toList = some res) (hs : StR E w st tmps) {c : Prop} {p : PV} (hr : resP res st = some (c, p)) (hc : c) :
    ∃ v, (results fn tmps).run P w = .ok v w ∧ VR E w p v := by
  have key : ∀ c ps, resL st res = some (c, ps) → c → ∃ vs : List Value, VRs E w ps vs ∧ (results fn tmps).run P w = .ok (if h : vs.toArray.size = 1 then vs.toArray[0] else .tuple vs.toArray) w := by
    intro c ps h1 h2
    obtain ⟨vs, g1, g2⟩ := resL_sound hs _ _ _ _ ht h1 h2
    refine ⟨vs, g1, ?_⟩
    have e : fn.results = fn.results.toList.toArray := by simp
    rw [results_eq, e, List.mapM_toArray]
    simp only [Sem.run_bind, map_eq_pure_bind, g2, Result.andThen_ok, Sem.run_pure]
  unfold resP at hr
  split at hr
  · rename_i c' q h1
    simp only [Option.some.injEq, Prod.mk.injEq] at hr; obtain ⟨rfl, rfl⟩ := hr
    obtain ⟨vs, g1, g2⟩ := key _ _ h1 hc
    simp only [VRs] at g1
    obtain ⟨u, us, rfl, g3, rfl⟩ := g1
    exact ⟨u, by simpa using g2, g3⟩
  · rename_i c' ps hne h1
    simp only [Option.some.injEq, Prod.mk.injEq] at hr; obtain ⟨rfl, rfl⟩ := hr
    obtain ⟨vs, g1, g2⟩ := key _ _ h1 hc
    have hl := g1.length
    have : vs.length ≠ 1 := by
      intro e
      rw [e] at hl
      match ps, hl with
      | [q], _ => exact hne q rfl
    refine ⟨.tuple vs.toArray, ?_, by simp only [VR]; exact ⟨_, rfl, by simpa using g1⟩⟩
    rw [g2]
    simp [this]
  · cases hr

/-- What a body must come to. -/
def RetOK (res : List RV) (r : PV) (bx' : List (Tg × List PV)) (k : Kd) (st : St) : Prop :=
  (match k with | .exit _ => False | _ => True) ∧ match resP res st with
    | some (c, p) => c ∧ ∃ ρ, St.le ρ ⟨[(0, p)], st.bx⟩ ⟨[(0, r)], bx'⟩
    | none => False

theorem EvG_of {f : FuncId} {fn : Func} {c : Code} {res : List RV} {ps : List PV} {bx bx' : List (Tg × List PV)} {r : PV} (hf : P.funcs[f]? = some fn) (hb : fn.body = some c) (hn : (fn.name == "runtime.NumGoroutine") = false)
    (hr : trRes P fn.results.toList = some res) (hl : ps.length ≤ fn.ntmps) (h : Ev P fn.ntmps c (initSt ps bx) (RetOK res r bx')) : EvG P f ps bx r bx' := by
  refine ⟨⟨fn, hf, by simp [hb], hn⟩, fun E w vs hv hs hsz => ?_⟩
  refine calls_of_wp hf hb ?_
  have hs' : StR E w (initSt ps bx) (vs ++ Array.replicate (fn.ntmps - vs.size) undef) := by
    refine ⟨fun d p hm => ?_, hs.bx⟩
    obtain ⟨u, h1, h2⟩ := hs.tm d p hm
    refine ⟨u, ?_, h2⟩
    have := (Array.getElem?_eq_some_iff.1 h1).1
    rw [Array.getElem?_append_left this]; exact h1
  refine wp_mono (h E w ⟨vs ++ Array.replicate (fn.ntmps - vs.size) undef, []⟩ (by simp; omega) hv hs') ?_
  rintro e a' w' ⟨k, st', E', rfl, ⟨g0, g1⟩, g2⟩
  have fin : ∃ v, (results fn a'.tmps).run P w' = .ok v w' ∧ ∃ E2, Valid E2 w' ∧ StR E2 w' ⟨[(0, r)], bx'⟩ #[v] ∧ Step E w E2 w' := by
    split at g1
    · rename_i cnd p hres
      obtain ⟨hc, ρ, hle⟩ := g1
      obtain ⟨v, g3, g4⟩ := resP_sound hr g2.str hres hc
      have g5 : StR E' w' ⟨[(0, p)], st'.bx⟩ #[v] := by
        refine ⟨fun d q hm => ?_, g2.str.bx⟩
        simp only [List.mem_singleton] at hm; cases hm
        exact ⟨v, rfl, g4⟩
      exact ⟨v, g3, E'.ren ρ, g2.valid.ren hle.1, g5.le hle, g2.step.trans (Step.ren E' w' ρ)⟩
    · exact g1.elim
  obtain ⟨v, g3, E2, g4, g5, g6⟩ := fin
  cases k with
  | norm => exact ⟨g2.defers, v, g3, v, E2, rfl, g4, g5, g6⟩
  | ret => exact ⟨g2.defers, v, g3, v, E2, rfl, g4, g5, g6⟩
  | exit i => exact g0.elim

theorem DRs_getElem {pr : Nat → Prop} {w : World} {ds : List D} {vs : List Value} (h : DRs pr w ds vs) {d : Nat} {x : D} (hd : ds[d]? = some x) : ∃ u, vs[d]? = some u ∧ DR pr w x u := h.getElem? hd

/-- The contract over pure data from the wide one. -/
theorem EvF_of_EvG {f : FuncId} {ds : List D} {r : PV} (h : EvG P f (ds.map .d) [] r []) : EvF P f ds r := by
  refine ⟨h.1, fun pr w vs hp hd => ?_⟩
  have hv : Valid ⟨fun _ => none, fun _ => none, pr⟩ w := ⟨fun _ _ _ h => by simp at h, fun _ _ h => by simp at h, fun _ _ _ _ _ h => by simp at h, fun _ _ _ h => by simp at h, fun _ _ _ _ h => by simp at h, hp⟩
  refine (h.2 ⟨fun _ => none, fun _ => none, pr⟩ w vs hv ⟨fun d p hm => ?_, fun k cs hm => by simp [initSt] at hm⟩ (by have := hd.length; simpa using this)).mono ?_
  · obtain ⟨_, h2⟩ := mem_enum hm
    rw [Nat.sub_zero, List.getElem?_map, Option.map_eq_some_iff] at h2
    obtain ⟨x, h3, rfl⟩ := h2
    obtain ⟨u, h4, h5⟩ := hd.getElem? h3
    exact ⟨u, by simpa using h4, by simpa only [VR] using h5⟩
  · rintro e w' ⟨v, E', rfl, g1, g2, g3⟩
    obtain ⟨u, g4, g5⟩ := g2.tm 0 r (by simp)
    simp at g4; subst g4
    have hno : ∀ b, ¬ Own (⟨fun _ => none, fun _ => none, pr⟩ : Env) b := by
      rintro b (⟨t, o, h⟩ | ⟨k, h⟩) <;> simp at h
    exact ⟨v, E', rfl, g1, g5, ⟨g3.os, g3.tape, g3.output, g3.size, fun b hb => g3.frame b hb (hno b)⟩, fun b hb => (g3.own b hb).resolve_left (hno b), g3.prot,
      fun b hb => (g3.prot' b hb).elim .inl (fun h => h.elim (fun h => absurd h (hno b)) .inr)⟩

end
end Go.Proofs.Ytaghpancpfpnhaa.Abs
