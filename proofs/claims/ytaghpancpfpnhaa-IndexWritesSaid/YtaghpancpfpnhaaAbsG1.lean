/- Code in pieces: what is still to be run, as a list; states that tell less. Conditions: none. -/
import Derived.Test.YtaghpancpfpnhaaAbsX
import Derived.LoopN
namespace Go.Proofs.Ytaghpancpfpnhaa.Abs
open Go Go.RowKit
set_option linter.unusedVariables false
set_option linter.unusedSimpArgs false

/-- Wherever a state tells, another one tells, too (by other names, with rows that stay from now on). -/
def Sub (st st' : St) : Prop := ∀ E w tmps, Valid E w → StR E w st tmps → ∃ E', Valid E' w ∧ StR E' w st' tmps ∧ Step E w E' w

theorem Sub.refl (st : St) : Sub st st := fun E w tmps h1 h2 => ⟨E, h1, h2, Step.refl _ _⟩
theorem Sub.trans {a b c : St} (h : Sub a b) (k : Sub b c) : Sub a c := fun E w tmps h1 h2 => by
  obtain ⟨E1, g1, g2, g3⟩ := h E w tmps h1 h2
  obtain ⟨E2, g4, g5, g6⟩ := k E1 w tmps g1 g2
  exact ⟨E2, g4, g5, g3.trans g6⟩
theorem Sub.le {st st' : St} {ρ : List (Tg × Tg)} (h : St.le ρ st st') : Sub st st' := fun E w tmps h1 h2 => ⟨E.ren ρ, h1.ren h.1, h2.le h, Step.ren E w ρ⟩
theorem Sub.frz (st : St) (ts : List Tg) : Sub st (st.frz ts) := fun E w tmps h1 h2 => ⟨E.frz ts, h1.frz ts, StR.frz h1 h2 ts, Step.frz h1 ts⟩

section
variable {P : Program} {N : Nat}

theorem Told.sub {E0 : Env} {w0 : World} {d0 : List Deferred} {E : Env} {w : World} {st st' : St} {a : Act} (h : Told N E0 w0 d0 E w st a) (hs : Sub st st') : ∃ E', Told N E0 w0 d0 E' w st' a := by
  obtain ⟨E', g1, g2, g3⟩ := hs E w a.tmps h.valid h.str
  exact ⟨E', h.size, h.defers, g1, g2, h.step.trans g3⟩

theorem EvC.sub {ac : AC} {st st' : St} {Q : Kd → St → Prop} (h : EvC P N ac st' Q) (hs : Sub st st') : EvC P N ac st Q := by
  intro c hc E w a h1 h2 h3
  obtain ⟨E1, g1, g2, g3⟩ := hs E w a.tmps h2 h3
  refine wp_mono (h c hc E1 w a h1 g1 g2) ?_
  rintro e a' w' ⟨k, st2, E', r1, r2, r3⟩
  exact ⟨k, st2, E', r1, r2, r3.size, r3.defers, r3.valid, r3.str, g3.trans r3.step⟩

/-- The rest of a region's operations. -/
def EvO (P : Program) (N : Nat) (al : List AOper) (st : St) (K : St → Prop) : Prop :=
  ∀ (E0 : Env) (w0 : World) (d0 : List Deferred) (ops : Array Oper) (Q : Exit → Act → World → Prop), (∀ E w st a, Told N E0 w0 d0 E w st a → K st → Q .normal a w) →
    ∀ (l : List Oper) (n : Nat), trOpers P N ops n l = some al → ∀ E w a, Told N E0 w0 d0 E w st a → wpList P ops Q l a w

theorem EvO.sub {al : List AOper} {st st' : St} {K : St → Prop} (h : EvO P N al st' K) (hs : Sub st st') : EvO P N al st K := by
  intro E0 w0 d0 ops Q hQ l n hl E w a hT
  obtain ⟨E', hT'⟩ := hT.sub hs
  exact h E0 w0 d0 ops Q hQ l n hl E' w a hT'

theorem EvO.mono {al : List AOper} {st : St} {K K' : St → Prop} (h : EvO P N al st K) (hk : ∀ s, K s → K' s) : EvO P N al st K' :=
  fun E0 w0 d0 ops Q hQ => h E0 w0 d0 ops Q fun E w st a hT hK => hQ E w st a hT (hk _ hK)

theorem EvO_nil {st : St} {K : St → Prop} (h : K st) : EvO P N [] st K := by
  intro E0 w0 d0 ops Q hQ l n hl E w a hT
  cases l with
  | nil => exact hQ E w st a hT h
  | cons o l =>
    simp only [trOpers] at hl
    split at hl <;> cases hl

/-- One operation. -/
theorem EvO_step {o : AOper} {rest : List AOper} {st : St} {K : St → Prop} (hg : o.guard = none) (h : stepK P o.n o.op st fun v st' => EvO P N rest (st'.putO o.dst v) K) : EvO P N (o :: rest) st K := by
  intro E0 w0 d0 ops Q hQ l n hl E w a hT
  cases l with
  | nil => simp [trOpers] at hl
  | cons oo l =>
    simp only [trOpers] at hl
    split at hl
    · rename_i ao as h1 h2
      simp only [Option.some.injEq, List.cons.injEq] at hl
      obtain ⟨rfl, rfl⟩ := hl
      obtain ⟨g1, g2, g3, g4⟩ := trOper_parts h1
      rw [hg] at g2
      have hw : Region.wanted oo (yielded ops a.tmps) = true := by
        unfold trGuard at g2
        split at g2
        · rename_i hog; simp [Region.wanted, hog]
        · split at g2 <;> cases g2
      simp only [wpList, hw, if_true]
      exact .inl (stepK_sound hT.valid hT.str g3 h fun u w' E' p st' k1 k2 k3 k4 k5 => k5 E0 w0 d0 ops Q hQ l (n + 1) h2 E' w' _ (by rw [g4]; exact hT.put g1 k1 k2 k3 k4))
    · cases hl

/-- One operation that is run if a slot says so. -/
theorem EvO_guard {o : AOper} {rest : List AOper} {st : St} {K : St → Prop} {t : Nat} {b g : Bool} (hg : o.guard = some (t, b)) (ht : st.get t = some (.d (.bool g)))
    (h1 : g = b → stepK P o.n o.op (st.lit t b) fun v st' => EvO P N rest (st'.putO o.dst v) K) (h0 : g = !b → EvO P N rest ((st.lit t (!b)).putO o.dst (.tup [])) K) : EvO P N (o :: rest) st K := by
  intro E0 w0 d0 ops Q hQ l n hl E w a hT
  cases l with
  | nil => simp [trOpers] at hl
  | cons oo l =>
    simp only [trOpers] at hl
    split at hl
    · rename_i ao as h2 h3
      simp only [Option.some.injEq, List.cons.injEq] at hl
      obtain ⟨rfl, rfl⟩ := hl
      obtain ⟨g1, g2, g3, g4⟩ := trOper_parts h2
      rw [hg] at g2
      obtain ⟨u, hu1, hu2⟩ := hT.str.get ht
      simp only [VR, DR] at hu2; subst hu2
      have hw := wanted_of g2 hu1
      simp only [wpList, hw]
      by_cases hgb : g = b
      · subst hgb
        simp only [beq_self_eq_true, if_true]
        exact .inl (stepK_sound (hT.lit hu1).valid (hT.lit hu1).str g3 (h1 rfl) fun u w' E' p st' k1 k2 k3 k4 k5 => k5 E0 w0 d0 ops Q hQ l (n + 1) h3 E' w' _ (by rw [g4]; exact (hT.lit hu1).put g1 k1 k2 k3 k4))
      · have : (g == b) = false := by simpa using hgb
        simp only [this, Bool.false_eq_true, if_false]
        have hgn : g = !b := by cases g <;> cases b <;> simp_all
        have h0' := h0 hgn
        rw [hgn] at hu1
        exact h0' E0 w0 d0 ops Q hQ l (n + 1) h3 E w _ (by rw [g4]; exact (hT.lit hu1).un g1)
    · cases hl

/-- One operation whose slot was never filled. -/
theorem EvO_undef {o : AOper} {rest : List AOper} {st : St} {K : St → Prop} {t : Nat} {b : Bool} (hg : o.guard = some (t, b)) (ht : st.get t = some (.tup []))
    (h : EvO P N rest (st.putO o.dst (.tup [])) K) : EvO P N (o :: rest) st K := by
  intro E0 w0 d0 ops Q hQ l n hl E w a hT
  cases l with
  | nil => simp [trOpers] at hl
  | cons oo l =>
    simp only [trOpers] at hl
    split at hl
    · rename_i ao as h2 h3
      simp only [Option.some.injEq, List.cons.injEq] at hl
      obtain ⟨rfl, rfl⟩ := hl
      obtain ⟨g1, g2, g3, g4⟩ := trOper_parts h2
      rw [hg] at g2
      obtain ⟨u, hu1, hu2⟩ := hT.str.get ht
      have := undef_of hu2; subst this
      have hw := wanted_undef g2 hu1
      simp only [wpList, hw, Bool.false_eq_true, if_false]
      exact h E0 w0 d0 ops Q hQ l (n + 1) h3 E w _ (by rw [g4]; exact hT.un g1)
    · cases hl

/-- A loop from its head, as the machine runs it. -/
def LW (P : Program) (c : Code) (Q : Exit → Act → World → Prop) (a : Act) (w : World) : Prop :=
  ∀ (b : Frame) (k : List Item) (cs : List Frame), ∃ e a' w', Q e a' w' ∧ Arrives P (lone (b.at a (.code c :: .inLoop c :: k)) cs w) b k cs e a' w'

theorem LW_unroll {c : Code} {Q : Exit → Act → World → Prop} {a : Act} {w : World} (h : c.wp P (Exit.then (LW P c Q) Q) a w) : LW P c Q a w := by
  intro b k cs
  obtain ⟨e, a₁, w₁, hq, harr⟩ := h b (.inLoop c :: k) cs
  cases e with
  | normal =>
    obtain ⟨e₂, a₂, w₂, hq₂, harr₂⟩ := hq b k cs
    exact ⟨e₂, a₂, w₂, hq₂, .of_steps (Steps.trans harr (.one step_inLoop)) harr₂⟩
  | exit id => exact ⟨_, a₁, w₁, hq, .pass (x := .inLoop c) rfl (fun _ _ => .inl (by simp)) harr⟩
  | goto l => exact ⟨_, a₁, w₁, hq, .pass (x := .inLoop c) rfl (fun _ _ => .inl (by simp)) harr⟩
  | ret => exact ⟨_, a₁, w₁, hq, .pass (x := .inLoop c) rfl (fun _ _ => .inl (by simp)) harr⟩
  | panic ch => exact ⟨_, a₁, w₁, hq, .pass (x := .inLoop c) rfl (fun _ _ => .inl (by simp)) harr⟩
  | outgrown => exact ⟨_, a₁, w₁, hq, .pass (x := .inLoop c) rfl (fun _ _ => .inl (by simp)) harr⟩

theorem LW_loop {c : Code} {Q : Exit → Act → World → Prop} {a : Act} {w : World} (h : LW P c Q a w) : (Code.loop c).wp P Q a w := by
  intro b k cs
  obtain ⟨e, a', w', hq, harr⟩ := h b k cs
  exact ⟨e, a', w', hq, .of_steps (.one step_loop) harr⟩

theorem LW_mono {c : Code} {Q Q' : Exit → Act → World → Prop} {a : Act} {w : World} (h : LW P c Q a w) (hq : ∀ e a w, Q e a w → Q' e a w) : LW P c Q' a w :=
  fun b k cs => let ⟨e, a', w', q, r⟩ := h b k cs; ⟨e, a', w', hq _ _ _ q, r⟩

/-- A loop from its head. -/
def EvL (P : Program) (N : Nat) (ac : AC) (st : St) (Q : Kd → St → Prop) : Prop :=
  ∀ c, tr P N c = some ac → ∀ E w a, a.tmps.size = N → Valid E w → StR E w st a.tmps → LW P c (fun e a' w' => ∃ k st' E', e = k.ex ∧ Q k st' ∧ Told N E w a.defers E' w' st' a') a w

theorem EvL.sub {ac : AC} {st st' : St} {Q : Kd → St → Prop} (h : EvL P N ac st' Q) (hs : Sub st st') : EvL P N ac st Q := by
  intro c hc E w a h1 h2 h3
  obtain ⟨E1, g1, g2, g3⟩ := hs E w a.tmps h2 h3
  refine LW_mono (h c hc E1 w a h1 g1 g2) ?_
  rintro e a' w' ⟨k, st2, E', r1, r2, r3⟩
  exact ⟨k, st2, E', r1, r2, r3.size, r3.defers, r3.valid, r3.str, g3.trans r3.step⟩

theorem EvL.mono {ac : AC} {st : St} {Q Q' : Kd → St → Prop} (h : EvL P N ac st Q) (hq : ∀ k s, Q k s → Q' k s) : EvL P N ac st Q' := by
  intro c hc E w a h1 h2 h3
  refine LW_mono (h c hc E w a h1 h2 h3) ?_
  rintro e a' w' ⟨k, st2, E', r1, r2, r3⟩
  exact ⟨k, st2, E', r1, hq _ _ r2, r3⟩

theorem EvL_unroll {ac : AC} {st : St} {Q : Kd → St → Prop} (h : EvC P N ac st fun k s => match k with | .norm => EvL P N ac s Q | k => Q k s) : EvL P N ac st Q := by
  intro c hc E w a h1 h2 h3
  refine LW_unroll (wp_mono (h c hc E w a h1 h2 h3) ?_)
  rintro e a' w' ⟨k, st2, E', rfl, r2, r3⟩
  cases k with
  | norm =>
    refine LW_mono (r2 c hc E' w' a' r3.size r3.valid r3.str) ?_
    rintro e a2 w2 ⟨k, st3, E2, q1, q2, q3⟩
    exact ⟨k, st3, E2, q1, q2, q3.size, q3.defers.trans r3.defers, q3.valid, q3.str, r3.step.trans q3.step⟩
  | exit i => exact ⟨.exit i, st2, E', rfl, r2, r3⟩
  | ret => exact ⟨.ret, st2, E', rfl, r2, r3⟩

theorem EvC_loop {ac : AC} {st : St} {Q : Kd → St → Prop} (h : EvL P N ac st Q) : EvC P N (.loop ac) st Q := by
  intro c hc
  cases c <;> simp only [tr] at hc
  case loop b =>
    simp only [Option.map_eq_some_iff] at hc
    obtain ⟨a', h1, h2⟩ := hc
    cases h2
    intro E w a g1 g2 g3
    exact LW_loop (h b h1 E w a g1 g2 g3)
  all_goals (repeat' split at hc) <;> (try simp only [Option.map_eq_some_iff] at hc) <;> first | (cases hc; done) | (obtain ⟨_, _, hc⟩ := hc; cases hc; done) | (simp only [Option.some.injEq] at hc; split at hc <;> cases hc; done)

theorem vcOps_EvO : ∀ {al : List AOper} {st : St} {K : St → Prop}, vcOps P al st K → EvO P N al st K
  | [], st, K, h => EvO_nil h
  | o :: rest, st, K, h => by
    intro E0 w0 d0 ops Q hQ l n hl E w a hT
    exact vcOps_sound hQ l n _ hl E w st a hT h

end

/-- What is still to be run. -/
inductive Fr where
  | c (a : AC)
  | b (id : Nat)
  | o (x : Bool) (ops : List AOper)
  | l (a : AC)
  deriving Inhabited

/-- What comes of what is still to be run. -/
def go (P : Program) (N : Nat) (Q : Kd → St → Prop) : List Fr → Kd → St → Prop
  | [], k, st => ∃ st2, Sub st st2 ∧ Q k st2
  | .c a :: ks, k, st => match k with
    | .norm => EvC P N a st (go P N Q ks)
    | k => go P N Q ks k st
  | .o x ops :: ks, k, st => match k with
    | .norm => bif x then vcOps P ops st (go P N Q ks .norm) else EvO P N ops st (go P N Q ks .norm)
    | k => go P N Q ks k st
  | .l a :: ks, k, st => match k with
    | .norm => EvL P N a st (go P N Q ks)
    | k => go P N Q ks k st
  | .b j :: ks, k, st => match k with
    | .exit i => if i = j then go P N Q ks .norm st else go P N Q ks (.exit i) st
    | k => go P N Q ks k st

section
variable {P : Program} {N : Nat} {Q : Kd → St → Prop}

/-- May states be fitted here? Not inside a drawn region. -/
def cl : List Fr → Kd → Bool
  | [], _ => true
  | .c a :: ks, k => match k with
    | .norm => true
    | k => cl ks k
  | .o x ops :: ks, k => match k with
    | .norm => !x
    | k => cl ks k
  | .l a :: ks, k => match k with
    | .norm => true
    | k => cl ks k
  | .b j :: ks, k => match k with
    | .exit i => cl ks .norm && cl ks (.exit i)
    | k => cl ks k

theorem go_sub : ∀ {ks : List Fr} {k : Kd} {st st' : St}, cl ks k = true → go P N Q ks k st' → Sub st st' → go P N Q ks k st
  | [], k, st, st', _, ⟨st2, h1, h2⟩, hs => ⟨st2, hs.trans h1, h2⟩
  | .c a :: ks, .norm, st, st', _, h, hs => EvC.sub h hs
  | .c a :: ks, .exit i, st, st', hc, h, hs => go_sub (ks := ks) hc h hs
  | .c a :: ks, .ret, st, st', hc, h, hs => go_sub (ks := ks) hc h hs
  | .o x a :: ks, .norm, st, st', hc, h, hs => by
    cases x with
    | true => simp [cl] at hc
    | false => exact EvO.sub h hs
  | .o x a :: ks, .exit i, st, st', hc, h, hs => go_sub (ks := ks) hc h hs
  | .o x a :: ks, .ret, st, st', hc, h, hs => go_sub (ks := ks) hc h hs
  | .l a :: ks, .norm, st, st', _, h, hs => EvL.sub h hs
  | .l a :: ks, .exit i, st, st', hc, h, hs => go_sub (ks := ks) hc h hs
  | .l a :: ks, .ret, st, st', hc, h, hs => go_sub (ks := ks) hc h hs
  | .b j :: ks, .norm, st, st', hc, h, hs => go_sub (ks := ks) hc h hs
  | .b j :: ks, .exit i, st, st', hc, h, hs => by
    simp only [cl, Bool.and_eq_true] at hc
    simp only [go] at h ⊢
    split
    · rename_i hi; rw [if_pos hi] at h; exact go_sub hc.1 h hs
    · rename_i hi; rw [if_neg hi] at h; exact go_sub hc.2 h hs
  | .b j :: ks, .ret, st, st', hc, h, hs => go_sub (ks := ks) hc h hs

theorem EvC_skip {st : St} {R : Kd → St → Prop} (h : R .norm st) : EvC P N .skip st R := vc_sound .skip st R h
theorem EvC_exit {i : Nat} {st : St} {R : Kd → St → Prop} (h : R (.exit i) st) : EvC P N (.exit i) st R := vc_sound (.exit i) st R h
theorem EvC_ret {st : St} {R : Kd → St → Prop} (h : R .ret st) : EvC P N .ret st R := vc_sound .ret st R h

theorem EvC_reg {al : List AOper} {st : St} {R : Kd → St → Prop} (h : EvO P N al st (R .norm)) : EvC P N (.reg al) st R := by
  intro c hc
  cases c <;> simp only [tr] at hc
  case region id os draw =>
    split at hc
    · rename_i as h1
      split at hc
      · simp only [Option.map_eq_some_iff] at hc
        obtain ⟨its', h2, h3⟩ := hc
        cases h3
      · rename_i hd; cases hc; cases draw
        · intro E w a g1 g2 g3
          refine wp_region_list ?_
          exact h E w a.defers os _ (fun E' w' st' a' hT hk => ⟨.norm, st', E', rfl, hk, hT⟩) _ _ h1 E w a ⟨g1, rfl, g2, g3, Step.refl _ _⟩
        · exact absurd rfl hd
    · cases hc
  all_goals (repeat' split at hc) <;> (try simp only [Option.map_eq_some_iff] at hc) <;> first | (cases hc; done) | (obtain ⟨_, _, hc⟩ := hc; cases hc; done)

theorem EvC_draw {its : List DIt} {st : St} {R : Kd → St → Prop} (h : vcDraw P its st (R .norm)) : EvC P N (.draw its) st R := vc_sound (.draw its) st R h

theorem EvC_seq {x y : AC} {st : St} {R : Kd → St → Prop} (h : EvC P N x st fun k s => match k with | .norm => EvC P N y s R | k => R k s) : EvC P N (.seq x y) st R := by
  intro c hc
  cases c <;> simp only [tr] at hc
  case seq a b =>
    split at hc
    · rename_i a' b' h1 h2
      cases hc
      refine Ev_seq ((h a h1).mono fun k s hk => ?_)
      cases k with
      | norm => exact hk b h2
      | _ => exact hk
    · cases hc
  all_goals (repeat' split at hc) <;> (try simp only [Option.map_eq_some_iff] at hc) <;> first | (cases hc; done) | (obtain ⟨_, _, hc⟩ := hc; cases hc; done) | (simp only [Option.some.injEq] at hc; split at hc <;> cases hc; done)

theorem EvC_cond {o : Opd} {x y : AC} {st : St} {R : Kd → St → Prop} {t : Bool} (ht : st.val o = some (.d (.bool t))) (h1 : t = true → EvC P N x (st.litO o true) R) (h0 : t = false → EvC P N y (st.litO o false) R) : EvC P N (.cond o x y) st R := by
  intro c hc
  cases c <;> simp only [tr] at hc
  case cond c a b =>
    split at hc
    · rename_i c' a' b' g0 g1 g2
      cases hc
      exact Ev_cond g0 ht (fun e => h1 e a g1) (fun e => h0 e b g2)
    · cases hc
  all_goals (repeat' split at hc) <;> (try simp only [Option.map_eq_some_iff] at hc) <;> first | (cases hc; done) | (obtain ⟨_, _, hc⟩ := hc; cases hc; done) | (simp only [Option.some.injEq] at hc; split at hc <;> cases hc; done)

theorem EvC_block {i : Nat} {x : AC} {st : St} {R : Kd → St → Prop} (h : EvC P N x st fun k s => match k with | .exit j => if j = i then R .norm s else R (.exit j) s | k => R k s) : EvC P N (.block i x) st R := by
  intro c hc
  cases c <;> simp only [tr] at hc
  case block i x =>
    simp only [Option.map_eq_some_iff] at hc
    obtain ⟨a', h1, h2⟩ := hc
    cases h2
    refine Ev_block ((h x h1).mono fun k s hk => ?_)
    cases k <;> exact hk
  all_goals (repeat' split at hc) <;> (try simp only [Option.map_eq_some_iff] at hc) <;> first | (cases hc; done) | (obtain ⟨_, _, hc⟩ := hc; cases hc; done)

end
end Go.Proofs.Ytaghpancpfpnhaa.Abs
