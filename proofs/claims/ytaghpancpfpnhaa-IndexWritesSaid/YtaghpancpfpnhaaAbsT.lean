/- Regions in the text's order. Conditions: none. -/
import Derived.Test.YtaghpancpfpnhaaAbsS
namespace Go.Proofs.Ytaghpancpfpnhaa.Abs
open Go Go.RowKit
set_option linter.unusedVariables false
set_option linter.unusedSimpArgs false

structure AOper where
  dst : Option Nat
  guard : Option (Nat × Bool)
  n : Nat
  op : AOp
  deriving Inhabited

def trGuard (ops : Array Oper) : Option (Nat × Bool) → Option (Option (Nat × Bool))
  | none => some none
  | some (j, b) => match (ops[j]?).bind (·.dst) with
    | some t => some (some (t, b))
    | none => none

def trOper (P : Program) (N : Nat) (ops : Array Oper) (n : Nat) (o : Oper) : Option AOper :=
  if o.dst.all (fun d => decide (d < N)) = true then
    match trGuard ops o.guard, trOp P o.op with
    | some g, some a => some ⟨o.dst, g, n, a⟩
    | _, _ => none
  else none

def trOpers (P : Program) (N : Nat) (ops : Array Oper) (n : Nat) : List Oper → Option (List AOper)
  | [] => some []
  | o :: r => match trOper P N ops n o, trOpers P N ops (n + 1) r with
    | some a, some as => some (a :: as)
    | _, _ => none

/-- A slot's truth, known. -/
def St.lit (st : St) (t : Nat) (b : Bool) : St := st.put t (.d (.bool b))

/-- Operations in the text's order. -/
def vcOps (P : Program) : List AOper → St → (St → Prop) → Prop
  | [], st, K => K st
  | o :: rest, st, K => match o.guard with
    | none => stepK P o.n o.op st fun v st' => vcOps P rest (st'.putO o.dst v) K
    | some (t, b) => match st.get t with
      | some (.d (.bool g)) => (g = b → stepK P o.n o.op (st.lit t b) fun v st' => vcOps P rest (st'.putO o.dst v) K) ∧ (g = !b → vcOps P rest ((st.lit t (!b)).putO o.dst (.tup [])) K)
      | some (.tup []) => vcOps P rest (st.putO o.dst (.tup [])) K
      | _ => False

/-- A machine's state that is told, behind so much. -/
structure Told (N : Nat) (E0 : Env) (w0 : World) (d0 : List Deferred) (E : Env) (w : World) (st : St) (a : Act) : Prop where
  size : a.tmps.size = N
  defers : a.defers = d0
  valid : Valid E w
  str : StR E w st a.tmps
  step : Step E0 w0 E w

section
variable {P : Program} {N : Nat}

theorem Told.put {E0 : Env} {w0 : World} {d0 : List Deferred} {E E' : Env} {w w' : World} {st st' : St} {a : Act} (h : Told N E0 w0 d0 E w st a) {dst : Option Nat} (hd : ∀ d, dst = some d → d < N) {u : Value} {v : PV}
    (h1 : Valid E' w') (h2 : VR E' w' v u) (h3 : StR E' w' st' a.tmps) (h4 : Step E w E' w') : Told N E0 w0 d0 E' w' (st'.putO dst v) (a.put dst u) := by
  cases dst with
  | none => exact ⟨h.size, h.defers, h1, h3, h.step.trans h4⟩
  | some d =>
    refine ⟨by simp [Act.put, h.size], h.defers, h1, ?_, h.step.trans h4⟩
    exact h3.put (by rw [h.size]; exact hd d rfl) h2

theorem vr_undef {E : Env} {w : World} : VR E w (.tup []) undef := by simp only [VR]; exact ⟨#[], rfl, by simp [VRs]⟩
theorem undef_of {E : Env} {w : World} {v : Value} (h : VR E w (.tup []) v) : v = undef := by
  simp only [VR, VRs] at h
  obtain ⟨arr, rfl, h⟩ := h
  have : arr = #[] := by simpa using h
  rw [this]; rfl

theorem Told.un {E0 : Env} {w0 : World} {d0 : List Deferred} {E : Env} {w : World} {st : St} {a : Act} (h : Told N E0 w0 d0 E w st a) {dst : Option Nat} (hd : ∀ d, dst = some d → d < N) : Told N E0 w0 d0 E w (st.putO dst (.tup [])) (a.put dst undef) :=
  h.put hd h.valid vr_undef h.str (Step.refl _ _)

theorem StR.known {E : Env} {w : World} {st : St} {tmps : Array Value} (h : StR E w st tmps) {t : Nat} {u : Value} {p : PV} (ht : tmps[t]? = some u) (hp : VR E w p u) : StR E w (st.put t p) tmps := by
  refine ⟨fun d q hm => ?_, h.bx⟩
  simp only [St.put] at hm
  rcases List.mem_cons.1 hm with hm | hm
  · cases hm; exact ⟨u, ht, hp⟩
  · exact h.tm d q (mem_delL hm).2

theorem Told.lit {E0 : Env} {w0 : World} {d0 : List Deferred} {E : Env} {w : World} {st : St} {a : Act} (h : Told N E0 w0 d0 E w st a) {t : Nat} {b : Bool} (ht : a.tmps[t]? = some (.bool b)) : Told N E0 w0 d0 E w (st.lit t b) a :=
  ⟨h.size, h.defers, h.valid, h.str.known ht (by simp [VR, DR]), h.step⟩

theorem trOper_parts {ops : Array Oper} {n : Nat} {o : Oper} {ao : AOper} (h : trOper P N ops n o = some ao) :
    (∀ d, o.dst = some d → d < N) ∧ trGuard ops o.guard = some ao.guard ∧ trOp P o.op = some ao.op ∧ ao.dst = o.dst := by
  unfold trOper at h
  split at h
  · rename_i hd
    split at h
    · rename_i g a h1 h2
      simp only [Option.some.injEq] at h; subst h
      refine ⟨fun d hdd => ?_, h1, h2, rfl⟩
      rw [hdd] at hd; simpa using hd
    · cases h
  · cases h

theorem wanted_of {ops : Array Oper} {o : Oper} {t : Nat} {b g : Bool} {a : Act} (h : trGuard ops o.guard = some (some (t, b))) (ht : a.tmps[t]? = some (.bool g)) :
    Region.wanted o (yielded ops a.tmps) = (g == b) := by
  unfold trGuard at h
  split at h
  · cases h
  · rename_i j b' hg
    split at h
    · rename_i t' ht'
      simp only [Option.some.injEq, Prod.mk.injEq] at h; obtain ⟨rfl, rfl⟩ := h
      simp only [Region.wanted, hg, yielded, ht', Option.bind_some, ht]
      simp
    · cases h

theorem wanted_undef {ops : Array Oper} {o : Oper} {t : Nat} {b : Bool} {tmps : Array Value} (h : trGuard ops o.guard = some (some (t, b))) (ht : tmps[t]? = some undef) : Region.wanted o (yielded ops tmps) = false := by
  unfold trGuard at h
  split at h
  · cases h
  · rename_i j b' hg
    split at h
    · rename_i t' ht'
      simp only [Option.some.injEq, Prod.mk.injEq] at h; obtain ⟨rfl, rfl⟩ := h
      simp only [Region.wanted, hg, yielded, ht', Option.bind_some, ht]
      rfl
    · cases h

theorem vcOps_sound {E0 : Env} {w0 : World} {d0 : List Deferred} {ops : Array Oper} {Q : Exit → Act → World → Prop} {K : St → Prop} (hQ : ∀ E w st a, Told N E0 w0 d0 E w st a → K st → Q .normal a w) :
    ∀ (l : List Oper) (n : Nat) (al : List AOper), trOpers P N ops n l = some al → ∀ (E : Env) (w : World) (st : St) (a : Act), Told N E0 w0 d0 E w st a → vcOps P al st K → wpList P ops Q l a w
  | [], n, al, ht, E, w, st, a, h, hk => by
    simp only [trOpers, Option.some.injEq] at ht; subst ht
    exact hQ E w st a h hk
  | o :: l, n, al, ht, E, w, st, a, h, hk => by
    simp only [trOpers] at ht
    split at ht
    · rename_i ao as h1 h2
      simp only [Option.some.injEq] at ht; subst ht
      obtain ⟨g1, g2, g3, g4⟩ := trOper_parts h1
      have go : ∀ st, Told N E0 w0 d0 E w st a → stepK P ao.n ao.op st (fun v st' => vcOps P as (st'.putO ao.dst v) K) → o.wp P a w (wpList P ops Q l) Q := fun st h hs =>
        stepK_sound h.valid h.str g3 hs fun u w' E' p st' k1 k2 k3 k4 k5 =>
          vcOps_sound hQ l (n + 1) as h2 E' w' _ _ (by rw [g4]; exact h.put g1 k1 k2 k3 k4) k5
      simp only [vcOps] at hk
      split at hk
      · rename_i hg
        rw [hg] at g2
        have hw : Region.wanted o (yielded ops a.tmps) = true := by
          unfold trGuard at g2
          split at g2
          · rename_i hog; simp [Region.wanted, hog]
          · split at g2 <;> cases g2
        simp only [wpList, hw, if_true]
        exact .inl (go st h hk)
      · rename_i t b hg
        rw [hg] at g2
        split at hk
        · rename_i g hget
          obtain ⟨u, hu1, hu2⟩ := h.str.get hget
          simp only [VR, DR] at hu2; subst hu2
          have hw := wanted_of g2 hu1
          simp only [wpList, hw]
          by_cases hgb : g = b
          · subst hgb
            simp only [beq_self_eq_true, if_true]
            exact .inl (go _ (h.lit hu1) (hk.1 rfl))
          · have : (g == b) = false := by simpa using hgb
            simp only [this, Bool.false_eq_true, if_false]
            have hgn : g = !b := by cases g <;> cases b <;> simp_all
            rw [hgn] at hu1
            refine vcOps_sound hQ l (n + 1) as h2 E w _ _ ((h.lit hu1).un g1) ?_
            rw [g4] at hk
            exact hk.2 hgn
        · rename_i hget
          obtain ⟨u, hu1, hu2⟩ := h.str.get hget
          have := undef_of hu2; subst this
          have hw := wanted_undef g2 hu1
          simp only [wpList, hw, Bool.false_eq_true, if_false]
          rw [g4] at hk
          exact vcOps_sound hQ l (n + 1) as h2 E w _ _ (h.un g1) hk
        · exact hk.elim
    · cases ht

end
end Go.Proofs.Ytaghpancpfpnhaa.Abs
