/- Rules that walk code and a model of it side by side. Conditions: none. -/
import Derived.Test.YtaghpancpfpnhaaAbsG3
namespace Go.Proofs.Ytaghpancpfpnhaa.Abs
open Go Go.RowKit
set_option linter.unusedVariables false
set_option linter.unusedSimpArgs false

/-- Whatever a model comes to. -/
def Ok {β : Type} (m : Option β) (Φ : β → Prop) : Prop := ∀ r, m = some r → Φ r

/-- Another end, the same ways out. -/
def exQ (Q : Exit → Act → World → Prop) (K : Act → World → Prop) : Exit → Act → World → Prop
  | .normal => K
  | e => Q e
theorem letsOut_ex {Q : Exit → Act → World → Prop} {K : Act → World → Prop} (h : LetsOut (exQ Q K)) : LetsOut Q := h
theorem wp_ex {P : Program} {Q : Exit → Act → World → Prop} {K next : Act → World → Prop} {o : Oper} {a : Act} {w : World} (h : o.wp P a w next (exQ Q K)) : o.wp P a w next Q := h

theorem wpList_append {P : Program} {ops : Array Oper} {Q : Exit → Act → World → Prop} {l2 : List Oper} : ∀ {l1 : List Oper} {a : Act} {w : World}, wpList P ops (exQ Q (wpList P ops Q l2)) l1 a w → wpList P ops Q (l1 ++ l2) a w
  | [], a, w, h => h
  | o :: l1, a, w, h => by
    simp only [List.cons_append, wpList] at h ⊢
    split
    · rename_i hw
      rw [if_pos hw] at h
      rcases h with h | ⟨h1, h2⟩
      · exact .inl (Oper.wp_mono (fun a w hk => wpList_append hk) (wp_ex h))
      · exact .inr ⟨h1, letsOut_ex h2⟩
    · rename_i hw
      rw [if_neg hw] at h
      exact wpList_append h

theorem okI {β : Type} {m : Option β} {Φ : β → Prop} (h : Ok m Φ) : ∀ r, m = some r → Φ r := h

theorem Ok.none {β : Type} {Φ : β → Prop} : Ok (none : Option β) Φ := fun r h => by cases h
theorem Ok.mono {β : Type} {m : Option β} {Φ Ψ : β → Prop} (h : Ok m Φ) (k : ∀ r, Φ r → Ψ r) : Ok m Ψ := fun r hr => k r (h r hr)

/-- What a state's results are. -/
def resQL (st : St) : List RV → Option (List PV)
  | [] => some []
  | .t n :: r => match st.get n, resQL st r with
    | some p, some ps => some (p :: ps)
    | _, _ => none
  | .c n ag sz :: r => match st.get n with
    | some (.ptr _ _) => match rop (.load ag sz (.t n)) st.val st.box, resQL st r with
      | some (_, p), some ps => bif cck (.load ag sz (.t n)) st.val st.box then some (p :: ps) else none
      | _, _ => none
    | _ => none
def resQ (res : List RV) (st : St) : Option PV :=
  match resQL st res with
  | some [p] => some p
  | some ps => some (.tup ps)
  | none => none

theorem resQL_resL {st : St} : ∀ {res : List RV} {ps : List PV}, resQL st res = some ps → ∃ c, resL st res = some (c, ps) ∧ c
  | [], ps, h => by simp only [resQL, Option.some.injEq] at h; subst h; exact ⟨True, rfl, trivial⟩
  | .t n :: r, ps, h => by
    simp only [resQL] at h
    split at h
    · rename_i p qs h1 h2
      simp only [Option.some.injEq] at h; subst h
      obtain ⟨c, h3, h4⟩ := resQL_resL h2
      exact ⟨c, by simp only [resL, h1, h3], h4⟩
    · cases h
  | .c n ag sz :: r, ps, h => by
    simp only [resQL] at h
    split at h
    · rename_i k o h1
      split at h
      · rename_i c p qs h2 h3
        cases hb : cck (.load ag sz (.t n)) st.val st.box with
        | false => rw [hb] at h; cases h
        | true =>
          rw [hb] at h
          simp only [cond_true, Option.some.injEq] at h; subst h
          obtain ⟨c', h4, h5⟩ := resQL_resL h3
          exact ⟨c ∧ c', by simp only [resL, h1, h2, h4], cck_sound h2 hb, h5⟩
      · cases h
    · cases h

theorem resQ_resP {st : St} {res : List RV} {p : PV} (h : resQ res st = some p) : ∃ c, resP res st = some (c, p) ∧ c := by
  unfold resQ at h
  split at h
  · rename_i q h1
    simp only [Option.some.injEq] at h; subst h
    obtain ⟨c, h2, h3⟩ := resQL_resL h1
    exact ⟨c, by simp only [resP, h2], h3⟩
  · rename_i ps hne h1
    simp only [Option.some.injEq] at h; subst h
    obtain ⟨c, h2, h3⟩ := resQL_resL h1
    refine ⟨c, ?_, h3⟩
    unfold resP
    rw [h2]
    split
    · rename_i c' q e; simp only [Option.some.injEq, Prod.mk.injEq] at e; exact absurd e.2 (hne q)
    · rename_i c' qs _ e; simp only [Option.some.injEq, Prod.mk.injEq] at e; obtain ⟨rfl, rfl⟩ := e; rfl
    · rename_i e; cases e
  · cases h

/-- What a body must come to. -/
def Fnl (res : List RV) (r : PV) (bx' : List (Tg × List PV)) (k : Kd) (st : St) : Prop :=
  (match k with | .exit _ => False | _ => True) ∧ ∃ p, resQ res st = some p ∧ Sub ⟨[(0, p)], st.bx⟩ ⟨[(0, r)], bx'⟩

section
variable {P : Program} {N : Nat} {Q : Kd → St → Prop}

theorem EvG_fin {f : FuncId} {fn : Func} {c : Code} {res : List RV} {ps : List PV} {bx bx' : List (Tg × List PV)} {r : PV} (hf : P.funcs[f]? = some fn) (hb : fn.body = some c) (hn : (fn.name == "runtime.NumGoroutine") = false)
    (hr : trRes P fn.results.toList = some res) (hl : ps.length ≤ fn.ntmps) (h : Ev P fn.ntmps c (initSt ps bx) (fun k s => ∃ st2, Sub s st2 ∧ Fnl res r bx' k st2)) : EvG P f ps bx r bx' := by
  refine ⟨⟨fn, hf, by simp [hb], hn⟩, fun E w vs hv hs hsz => ?_⟩
  refine calls_of_wp hf hb ?_
  have hs' : StR E w (initSt ps bx) (vs ++ Array.replicate (fn.ntmps - vs.size) undef) := by
    refine ⟨fun d p hm => ?_, hs.bx⟩
    obtain ⟨u, h1, h2⟩ := hs.tm d p hm
    refine ⟨u, ?_, h2⟩
    have := (Array.getElem?_eq_some_iff.1 h1).1
    rw [Array.getElem?_append_left this]; exact h1
  refine wp_mono (h E w ⟨vs ++ Array.replicate (fn.ntmps - vs.size) undef, []⟩ (by simp; omega) hv hs') ?_
  rintro e a' w' ⟨k, st', E', rfl, ⟨st2, gs, g0, p, g1, g1'⟩, g2⟩
  obtain ⟨E1, g2⟩ := g2.sub gs
  have fin : ∃ v, (results fn a'.tmps).run P w' = .ok v w' ∧ ∃ E2, Valid E2 w' ∧ StR E2 w' ⟨[(0, r)], bx'⟩ #[v] ∧ Step E w E2 w' := by
    obtain ⟨cnd, hres, hc⟩ := resQ_resP g1
    obtain ⟨v, g3, g4⟩ := resP_sound hr g2.str hres hc
    have g5 : StR E1 w' ⟨[(0, p)], st2.bx⟩ #[v] := by
      refine ⟨fun d q hm => ?_, g2.str.bx⟩
      simp only [List.mem_singleton] at hm; cases hm
      exact ⟨v, rfl, g4⟩
    obtain ⟨E2, k1, k2, k3⟩ := g1' E1 w' #[v] g2.valid g5
    exact ⟨v, g3, E2, k1, k2, g2.step.trans k3⟩
  obtain ⟨v, g3, E2, g4, g5, g6⟩ := fin
  cases k with
  | norm => exact ⟨g2.defers, v, g3, v, E2, rfl, g4, g5, g6⟩
  | ret => exact ⟨g2.defers, v, g3, v, E2, rfl, g4, g5, g6⟩
  | exit i => exact g0.elim

/-- A contract from a walk of the body. -/
theorem EvG_go {f : FuncId} {ac : AC} {N : Nat} {res : List RV} {ps : List PV} {bx bx' : List (Tg × List PV)} {r : PV} (hf : fnA P f = some (N, res, ac)) (hl : ps.length ≤ N) (h : go P N (Fnl res r bx') [.c ac] .norm (initSt ps bx)) : EvG P f ps bx r bx' := by
  unfold fnA at hf
  split at hf
  · rename_i fn h1
    split at hf
    · rename_i c h2
      split at hf
      · rename_i ac' res' h3 h4
        split at hf
        · cases hf
        · rename_i h5
          cases hf
          exact EvG_fin h1 h2 (by simpa using h5) h4 hl (h c h3)
      · cases hf
    · cases hf
  · cases hf

/-- The same, of data alone. -/
theorem EvF_go {f : FuncId} {ac : AC} {N : Nat} {res : List RV} {ds : List D} {r : PV} (hf : fnA P f = some (N, res, ac)) (hl : (ds.map PV.d).length ≤ N) (h : go P N (Fnl res r []) [.c ac] .norm (initSt (ds.map .d) [])) : EvF P f ds r :=
  EvF_of_EvG (EvG_go hf hl h)

variable {β γ : Type} {m m1 m2 : Option β} {R : β → Kd → St → Prop} {ks ks' : List Fr} {k k' : Kd} {st st' : St}

theorem Avk (n : Nat) (ks' : List Fr) (k' : Kd) (st' : St) (next : Ok m fun r => go P N (R r) ks' k' st') (h : advF n ks k st st' = some (ks', k', st') := by kernel_rfl) : Ok m fun r => go P N (R r) ks k st :=
  next.mono fun _ hr => advF_sound h hr
theorem Av (n : Nat) (ks' : List Fr) (st' : St) (next : Ok m fun r => go P N (R r) ks' .norm st') (h : advF n ks k st st' = some (ks', .norm, st') := by kernel_rfl) : Ok m fun r => go P N (R r) ks k st :=
  next.mono fun _ hr => advF_sound h hr

/-- Steps without a fit. -/
theorem Ae (n : Nat) (ks' : List Fr) (st' : St) (next : Ok m fun r => go P N (R r) ks' .norm st') (h : adv n ks k st = some (ks', .norm, st') := by kernel_rfl) : Ok m fun r => go P N (R r) ks k st :=
  next.mono fun _ hr => adv_sound h hr

theorem L_guard {p : Prop} [Decidable p] (next : p → Ok m fun r => go P N (R r) ks k st) : Ok (if p then m else none) fun r => go P N (R r) ks k st := by
  intro r hr
  split at hr
  · rename_i h; exact next h r hr
  · cases hr

theorem Sub_lit {t : Nat} {b : Bool} (h : st.get t = some (.d (.bool b))) : Sub st (st.lit t b) := by
  intro E w tmps h1 h2
  obtain ⟨u, g1, g2⟩ := h2.get h
  exact ⟨E, h1, h2.known g1 g2, Step.refl _ _⟩

/-- A slot's truth: both ways. -/
theorem L_split (t : Nat) {b : Bool} {p : Prop} [Decidable p] (hb : b = decide p) (h1 : p → Ok m1 fun r => go P N (R r) ks k (st.lit t true)) (h0 : ¬ p → Ok m2 fun r => go P N (R r) ks k (st.lit t false)) (hv : st.get t = some (.d (.bool b)) := by kernel_rfl) (hc : cl ks k = true := by kernel_rfl) :
    Ok (if p then m1 else m2) fun r => go P N (R r) ks k st := by
  intro r hr
  have hs := Sub_lit hv
  by_cases hp : p
  · rw [if_pos hp] at hr
    rw [hb, decide_eq_true hp] at hs
    exact go_sub hc (h1 hp r hr) hs
  · rw [if_neg hp] at hr
    rw [hb, decide_eq_false hp] at hs
    exact go_sub hc (h0 hp r hr) hs

theorem decT {b : Bool} : b = decide (b = true) := by cases b <;> rfl
theorem decF {b : Bool} : (!b) = decide (b = false) := by cases b <;> rfl
theorem decN {p : Prop} [Decidable p] : (!(decide p)) = decide (¬ p) := by by_cases h : p <;> simp [h]
theorem decE {x y : Int} : (x == y) = decide (x = y) := by by_cases h : x = y <;> simp [h]
theorem decNe {x y : Int} : (x != y) = decide (x ≠ y) := by by_cases h : x = y <;> simp [h]
theorem decB {x y : Bool} : (x == y) = decide (x = y) := by cases x <;> cases y <;> rfl
theorem decBn {x y : Bool} : (!(x == y)) = decide (x ≠ y) := by cases x <;> cases y <;> rfl

/-- A value by another name. -/
theorem L_rw {α : Type} (F : α → St) {a b : α} (h : a = b) (next : Ok m fun r => go P N (R r) ks k (F b)) : Ok m fun r => go P N (R r) ks k (F a) := h ▸ next

/-- A guard that says yes. -/
def gok : Option (Nat × Bool) → St → Prop
  | none, _ => True
  | some (t, b), st => st.get t = some (.d (.bool b))
def gst : Option (Nat × Bool) → St → St
  | none, st => st
  | some (t, b), st => st.lit t b

theorem ops_step {q : Bool} {dst : Option Nat} {g : Option (Nat × Bool)} {n : Nat} {op : AOp} {r : List AOper} (hg : gok g st) (h : stepK P n op (gst g st) fun v s => go P N Q (.o q r :: ks) .norm (s.putO dst v)) : go P N Q (.o q (⟨dst, g, n, op⟩ :: r) :: ks) .norm st := by
  cases g with
  | none =>
    cases q
    · exact EvO_step rfl h
    · simp only [go, cond_true, vcOps]; exact h
  | some tb =>
    obtain ⟨t, b⟩ := tb
    have hg' : st.get t = some (.d (.bool b)) := hg
    cases q
    · exact EvO_guard rfl hg' (fun _ => h) (fun e => by cases b <;> cases e)
    · simp only [go, cond_true, vcOps, hg']
      exact ⟨fun _ => h, fun e => by cases b <;> cases e⟩

theorem stepR {n : Nat} {op : AOp} {c : Prop} {v : PV} {K : PV → St → Prop} (h : rop op st.val st.box = some (c, v)) (hc : c) (hK : K v st) : stepK P n op st K := by
  unfold stepK; rw [h]; exact ⟨hc, hK⟩
theorem stepW {n : Nat} {op : AOp} {c : Prop} {v : PV} {st' : St} {K : PV → St → Prop} (h0 : rop op st.val st.box = none) (h : wop (16 * n + 15) op st = some (c, v, st')) (hc : c) (hK : K v st') : stepK P n op st K := by
  unfold stepK; rw [h0]; simp only; rw [h]; exact ⟨hc, hK⟩

/-- A list that is looked at. -/
def rowE : Option PV → Option (List D)
  | some (.d (.lst es)) => some es
  | some (.sl _ _ _ es) => some es
  | some .nils => some []
  | _ => none

section ops
variable {α : Type} {enc : α → D} {l : List α} {q : Bool} {dst : Option Nat} {g : Option (Nat × Bool)} {n : Nat} {r : List AOper} {x y i : Opd} {sz : Nat}

theorem L_len (hg : gok g st) (h : rowE ((gst g st).val x) = some (l.map enc)) (next : Ok m fun b => go P N (R b) (.o q r :: ks) .norm ((gst g st).putO dst (.d (.int .i64 (l.length : Int))))) :
    Ok m fun b => go P N (R b) (.o q (⟨dst, g, n, .len x⟩ :: r) :: ks) .norm st := by
  refine next.mono fun b hb => ops_step hg ?_
  unfold rowE at h
  split at h
  · rename_i es hx
    simp only [Option.some.injEq] at h; subst h
    exact stepR (c := True) (by simp only [rop, hx, List.length_map]) trivial hb
  · rename_i t s o es hx
    simp only [Option.some.injEq] at h; subst h
    exact stepR (c := True) (by simp only [rop, hx, List.length_map]) trivial hb
  · rename_i hx
    simp only [Option.some.injEq] at h
    have : l = [] := by cases l <;> simp at h; rfl
    subst this
    exact stepR (c := True) (v := .d (.int .i64 0)) (by simp only [rop, hx]) trivial hb
  · cases h

/-- An element of a list. -/
def at' {α : Type} [Inhabited α] (l : List α) (i : Int) : α := l.getD i.toNat default

theorem getD'_map [Inhabited α] {i : Int} (h0 : 0 ≤ i) (h1 : i < (l.length : Int)) : getD' (l.map enc) i.toNat = enc (at' l i) := by
  unfold getD' at'
  have : i.toNat < l.length := by omega
  simp [this]

theorem L_idxD [Inhabited α] {ki : IntKind} {iv : Int} (hg : gok g st) (hx : (gst g st).val x = some (.d (.lst (l.map enc)))) (hi : ix (gst g st).val i = some (ki, iv)) (hs : ∀ y : α, (enc y).sz = sz)
    (next : 0 ≤ iv ∧ iv < (l.length : Int) → Ok m fun b => go P N (R b) (.o q r :: ks) .norm ((gst g st).putO dst (.d (.cp (enc (at' l iv)).cells 0)))) :
    Ok (if 0 ≤ iv ∧ iv < (l.length : Int) then m else none) fun b => go P N (R b) (.o q (⟨dst, g, n, .idxA sz x i⟩ :: r) :: ks) .norm st := by
  intro b hb
  split at hb
  · rename_i hc
    refine ops_step hg (stepR (v := .d (.cp (enc (at' l iv)).cells 0)) (c := 0 ≤ iv ∧ iv < ((l.map enc).length : Int) ∧ (enc (at' l iv)).sz = sz) ?_ ⟨hc.1, by rw [List.length_map]; exact hc.2, hs _⟩ (next hc b hb))
    simp only [rop, hx, hi, getD'_map hc.1 hc.2]
  · cases hb

theorem L_idxO [Inhabited α] {t : Tg} {off : Nat} {ki : IntKind} {iv : Int} (hg : gok g st) (hx : (gst g st).val x = some (.sl t sz off (l.map enc))) (hi : ix (gst g st).val i = some (ki, iv))
    (next : 0 ≤ iv ∧ iv < (l.length : Int) → Ok m fun b => go P N (R b) (.o q r :: ks) .norm ((gst g st).putO dst (.ep t sz (off + iv.toNat) none (some (enc (at' l iv)))))) :
    Ok (if 0 ≤ iv ∧ iv < (l.length : Int) then m else none) fun b => go P N (R b) (.o q (⟨dst, g, n, .idxA sz x i⟩ :: r) :: ks) .norm st := by
  intro b hb
  split at hb
  · rename_i hc
    refine ops_step hg (stepR (v := .ep t sz (off + iv.toNat) none (some (enc (at' l iv)))) (c := 0 ≤ iv ∧ iv < ((l.map enc).length : Int)) ?_ ⟨hc.1, by rw [List.length_map]; exact hc.2⟩ (next hc b hb))
    simp only [rop, hx, hi, getD'_map hc.1 hc.2, if_true]
  · cases hb

/-- Is there room in memory for so many? -/
def room (B n : Nat) : Prop := n ≤ 140737488355328 ∧ n * B ≤ 140737488355328
instance (B n : Nat) : Decidable (room B n) := inferInstanceAs (Decidable (_ ∧ _))

theorem L_app {t : Tg} {off el B : Nat} {l2 : List α} (hg : gok g st) (hx : (gst g st).val x = some (.sl t sz off (l.map enc))) (hy : ((gst g st).val y).bind (lstOf sz) = some (l2.map enc)) (hs : ∀ y : α, (enc y).sz = sz)
    (next : room B (l ++ l2).length → Ok m fun b => go P N (R b) (.o q r :: ks) .norm ((((gst g st).rebind t).rebind (.s (16 * n + 15))).putO dst (.sl (.s (16 * n + 15)) sz 0 ((l ++ l2).map enc)))) :
    Ok (if room B (l ++ l2).length then m else none) fun b => go P N (R b) (.o q (⟨dst, g, n, .app el sz B x y⟩ :: r) :: ks) .norm st := by
  intro b hb
  split at hb
  · rename_i hc
    refine ops_step hg (stepW (v := .sl (.s (16 * n + 15)) sz 0 (l.map enc ++ l2.map enc)) (st' := ((gst g st).rebind t).rebind (.s (16 * n + 15))) rfl
      (c := (l.map enc).length + (l2.map enc).length ≤ 140737488355328 ∧ ((l.map enc).length + (l2.map enc).length) * B ≤ 140737488355328 ∧ (∀ e ∈ l2.map enc, e.sz = sz)) ?_ ?_ ?_)
    · simp only [wop, hx, hy, if_true]
    · rw [room, List.length_append] at hc
      refine ⟨by simpa using hc.1, by simpa using hc.2, fun e he => ?_⟩
      obtain ⟨z, _, rfl⟩ := List.mem_map.1 he
      exact hs z
    · rw [← List.map_append]; exact next hc b hb
  · cases hb

theorem L_appN {el B : Nat} {l2 : List α} (hg : gok g st) (hx : (gst g st).val x = some .nils) (hy : ((gst g st).val y).bind (lstOf sz) = some (l2.map enc)) (hs : ∀ y : α, (enc y).sz = sz)
    (next : room B l2.length → Ok m fun b => go P N (R b) (.o q r :: ks) .norm ((((gst g st).rebind (.s (16 * n + 15))).rebind (.s (16 * n + 15))).putO dst (.sl (.s (16 * n + 15)) sz 0 (l2.map enc)))) :
    Ok (if room B l2.length then m else none) fun b => go P N (R b) (.o q (⟨dst, g, n, .app el sz B x y⟩ :: r) :: ks) .norm st := by
  intro b hb
  split at hb
  · rename_i hc
    refine ops_step hg (stepW (v := .sl (.s (16 * n + 15)) sz 0 (l2.map enc)) (st' := ((gst g st).rebind (.s (16 * n + 15))).rebind (.s (16 * n + 15))) rfl
      (c := (l2.map enc).length ≤ 140737488355328 ∧ (l2.map enc).length * B ≤ 140737488355328 ∧ (∀ e ∈ l2.map enc, e.sz = sz)) ?_ ?_ (next hc b hb))
    · simp only [wop, hx, hy]
    · refine ⟨by simpa using hc.1, by simpa using hc.2, fun e he => ?_⟩
      obtain ⟨z, _, rfl⟩ := List.mem_map.1 he
      exact hs z
  · cases hb

/-- A bound of a cut. -/
def bnd (f : Opd → Option PV) : Option Opd → Option (Option Int)
  | none => some none
  | some o => (ix f o).map fun r => some r.2
/-- May a list be cut so? -/
def cutOk (a b : Option Int) (n : Nat) : Prop := 0 ≤ a.getD 0 ∧ a.getD 0 ≤ b.getD n ∧ b.getD n ≤ n
instance (a b : Option Int) (n : Nat) : Decidable (cutOk a b n) := inferInstanceAs (Decidable (_ ∧ _ ∧ _))
/-- The cut. -/
def cut' {α : Type} (l : List α) (a b : Option Int) : List α := (l.take (b.getD l.length).toNat).drop (a.getD 0).toNat

theorem cut_map {a b : Option Int} : cutL (l.map enc) (a.getD 0).toNat (b.getD (l.length : Int)).toNat = (cut' l a b).map enc := by
  simp only [cutL, cut', List.map_take, List.map_drop]

theorem bnd_bound {f : Opd → Option PV} {o : Option Opd} {a : Option Int} {d : Nat} (h : bnd f o = some a) : bound f o d = some (a, (a.getD d).toNat) := by
  cases o with
  | none => simp only [bnd, Option.some.injEq] at h; subst h; simp [bound]
  | some o =>
    simp only [bnd, Option.map_eq_some_iff] at h
    obtain ⟨r, h1, h2⟩ := h
    subst h2
    simp [bound, h1]

theorem cutOk_inB {a b : Option Int} {n : Nat} (h : cutOk a b n) : inB b 0 n ∧ inB a 0 (b.getD n).toNat := by
  obtain ⟨h1, h2, h3⟩ := h
  cases a <;> cases b <;> simp [inB] at * <;> omega

theorem L_cutD {lo hi : Option Opd} {a b : Option Int} (hg : gok g st) (hx : (gst g st).val x = some (.d (.lst (l.map enc)))) (hlo : bnd (gst g st).val lo = some a) (hhi : bnd (gst g st).val hi = some b) (hs : ∀ y : α, (enc y).sz = sz)
    (next : cutOk a b l.length → Ok m fun c => go P N (R c) (.o q r :: ks) .norm ((gst g st).putO dst (.d (.lst ((cut' l a b).map enc))))) :
    Ok (if cutOk a b l.length then m else none) fun c => go P N (R c) (.o q (⟨dst, g, n, .sliceS sz x lo hi none⟩ :: r) :: ks) .norm st := by
  intro z hz
  split at hz
  · rename_i hc
    have hc' := cutOk_inB hc
    refine ops_step hg (stepR (v := .d (.lst ((cut' l a b).map enc))) (c := inB b 0 (l.map enc).length ∧ inB a 0 (b.getD (l.map enc).length).toNat ∧ ∀ e ∈ l.map enc, e.sz = sz) ?_ ?_ (next hc z hz))
    · have e := cut_map (enc := enc) (l := l) (a := a) (b := b)
      rw [← e]
      have := bnd_bound (d := 0) hlo
      simp only [rop, hx, bnd_bound (d := 0) hlo, bnd_bound (d := (l.map enc).length) hhi]
      simp only [List.length_map, Int.natCast_zero]
    · rw [List.length_map]
      refine ⟨hc'.1, hc'.2, fun e he => ?_⟩
      obtain ⟨z, _, rfl⟩ := List.mem_map.1 he
      exact hs z
  · cases hz

theorem L_cutO {t : Tg} {off : Nat} {lo hi : Option Opd} {a b : Option Int} (hg : gok g st) (hx : (gst g st).val x = some (.sl t sz off (l.map enc))) (hlo : bnd (gst g st).val lo = some a) (hhi : bnd (gst g st).val hi = some b)
    (next : cutOk a b l.length → Ok m fun c => go P N (R c) (.o q r :: ks) .norm ((gst g st).putO dst (.sl t sz (off + (a.getD 0).toNat) ((cut' l a b).map enc)))) :
    Ok (if cutOk a b l.length then m else none) fun c => go P N (R c) (.o q (⟨dst, g, n, .sliceS sz x lo hi none⟩ :: r) :: ks) .norm st := by
  intro z hz
  split at hz
  · rename_i hc
    have hc' := cutOk_inB hc
    refine ops_step hg (stepR (v := .sl t sz (off + (a.getD 0).toNat) ((cut' l a b).map enc)) (c := inB b 0 (l.map enc).length ∧ inB a 0 (b.getD (l.map enc).length).toNat) ?_ ?_ (next hc z hz))
    · rw [← cut_map (enc := enc) (l := l) (a := a) (b := b)]
      simp only [rop, hx, bnd_bound (d := 0) hlo, bnd_bound (d := (l.map enc).length) hhi]
      simp only [List.length_map, Int.natCast_zero, if_true]
    · rw [List.length_map]; exact hc'
  · cases hz

/-- A new row of zeros. -/
theorem L_mk {el B : Nat} {z : D} {z0 : α} {lo co : Opd} {k1 k2 : IntKind} {a b : Int} (hg : gok g st) (hl : ix (gst g st).val lo = some (k1, a)) (hc : ix (gst g st).val co = some (k2, b)) (hz : z = enc z0)
    (next : 0 ≤ a ∧ a ≤ b ∧ b ≤ 140737488355328 ∧ b * (B : Int) ≤ 140737488355328 → Ok m fun c => go P N (R c) (.o q r :: ks) .norm (((gst g st).rebind (.s (16 * n + 15))).putO dst (.sl (.s (16 * n + 15)) sz 0 ((List.replicate a.toNat z0).map enc)))) :
    Ok (if 0 ≤ a ∧ a ≤ b ∧ b ≤ 140737488355328 ∧ b * (B : Int) ≤ 140737488355328 then m else none) fun c => go P N (R c) (.o q (⟨dst, g, n, .mkS el sz B z lo co⟩ :: r) :: ks) .norm st := by
  intro w hw
  split at hw
  · rename_i h
    refine ops_step hg (stepW (v := .sl (.s (16 * n + 15)) sz 0 ((List.replicate a.toNat z0).map enc)) (st' := (gst g st).rebind (.s (16 * n + 15))) rfl (c := 0 ≤ a ∧ a ≤ b ∧ b ≤ 140737488355328 ∧ b * (B : Int) ≤ 140737488355328) ?_ h (next h w hw))
    simp only [wop, hl, hc, List.map_replicate, hz]
  · cases hw

/-- A row's element is written. -/
theorem L_sto {t : Tg} {s i : Nat} {f : Option Nat} {e : Option D} {p : PV} {d : D} (hg : gok g st) (ha : (gst g st).val x = some (.ep t s i f e)) (hx : (gst g st).val y = some p) (hd : p.toD = some d)
    (hc : t ∉ p.tags ∧ f.getD 0 + sz ≤ s ∧ (f = none → sz = s) ∧ 0 < sz) (hs : d.sz = sz) (next : Ok m fun c => go P N (R c) (.o q r :: ks) .norm ((((gst g st).frz p.tags).map (updF t s i (updEs f d))).putO dst .unk)) :
    Ok m fun c => go P N (R c) (.o q (⟨dst, g, n, .store sz x y⟩ :: r) :: ks) .norm st := by
  refine next.mono fun z hz => ops_step hg (stepW (v := .unk) (st' := ((gst g st).frz p.tags).map (updF t s i (updEs f d))) rfl (c := d.sz = sz) ?_ hs hz)
  simp only [wop, ha, hx, hd, if_pos hc]

theorem set_map {i : Nat} {v : α} : updEs none (enc v) (l.map enc) i = (l.set i v).map enc := by simp [updEs, List.map_set]

/-- A reading operation whose terms are to be shown. -/
theorem L_rd {op : AOp} {c : Prop} [Decidable c] {v : PV} (hg : gok g st) (h : rop op (gst g st).val (gst g st).box = some (c, v)) (next : c → Ok m fun b => go P N (R b) (.o q r :: ks) .norm ((gst g st).putO dst v)) :
    Ok (if c then m else none) fun b => go P N (R b) (.o q (⟨dst, g, n, op⟩ :: r) :: ks) .norm st := by
  intro b hb
  split at hb
  · rename_i hc; exact ops_step hg (stepR h hc (next hc b hb))
  · cases hb

end ops

/-- A call of a function over data: what is handed in stays the caller's. -/
theorem L_call {mc : Option γ} {kk : γ → Option β} {enR : γ → PV} {ds : List D} {q : Bool} {dst : Option Nat} {g : Option (Nat × Bool)} {n f : Nat} {args : List Opd} {r : List AOper} (hm : ∀ v, mc = some v → EvF P f ds (enR v)) (hg : gok g st)
    (h1 : (valsO (gst g st).val args).bind (PV.toDBL (gst g st).box) = some ds) (h2 : ∀ v, (enR v).rok = true) (h3 : ∀ v, (enR v).noLst)
    (next : ∀ v, Ok (kk v) fun b => go P N (R b) (.o q r :: ks) .norm (((gst g st).rebinds n (enR v).tags).putO dst ((enR v).mapT (retag n)))) :
    Ok (mc >>= kk) fun b => go P N (R b) (.o q (⟨dst, g, n, .call f args⟩ :: r) :: ks) .norm st := by
  intro b hb
  obtain ⟨v, hv, hk⟩ := Option.bind_eq_some_iff.1 hb
  exact ops_step hg (show stepK P n (.call f args) (gst g st) _ from (by
    unfold stepK
    simp only [rop, wop, callK]
    exact use_F (hm v hv) h1 (h2 v) (h3 v) (next v b hk)))

/-- The same, where the result may lead to what was handed in: that stays as it is from now on. -/
theorem L_callZ {mc : Option γ} {kk : γ → Option β} {enR : γ → PV} {ds : List D} (F : List Tg) {q : Bool} {dst : Option Nat} {g : Option (Nat × Bool)} {n f : Nat} {args : List Opd} {r : List AOper} (hm : ∀ v, mc = some v → EvF P f ds (enR v)) (hg : gok g st)
    (h1 : (valsO (gst g st).val args).bind PV.toDL = some ds) (hF : (valsO (gst g st).val args).map PV.tagsL = some F) (h2 : ∀ v, (enR v).rok = true)
    (next : ∀ v, Ok (kk v) fun b => go P N (R b) (.o q r :: ks) .norm ((((gst g st).frz F).rebinds n (enR v).tags).putO dst ((enR v).mapT (retag n)))) :
    Ok (mc >>= kk) fun b => go P N (R b) (.o q (⟨dst, g, n, .call f args⟩ :: r) :: ks) .norm st := by
  intro b hb
  obtain ⟨v, hv, hk⟩ := Option.bind_eq_some_iff.1 hb
  exact ops_step hg (show stepK P n (.call f args) (gst g st) _ from (by
    unfold stepK
    simp only [rop, wop, callK]
    exact use_Z F (hm v hv) h1 hF (h2 v) (next v b hk)))

/-- Calls of a closure. -/
theorem L_callv {mc : Option γ} {kk : γ → Option β} {enR : γ → PV} {ds : List D} {q : Bool} {dst : Option Nat} {g : Option (Nat × Bool)} {n f : Nat} {x : Opd} {a b as : List PV} {args : List Opd} {r : List AOper} (hm : ∀ v, mc = some v → EvF P f ds (enR v)) (hg : gok g st)
    (hx : (gst g st).val x = some (.clo (.func f) a b) ∨ ∃ a' b', (gst g st).val x = some (.d (.clo (.func f) a' b')) ∧ a = a'.map .d ∧ b = b'.map .d) (h0 : valsO (gst g st).val args = some as)
    (h1 : PV.toDBL (gst g st).box (a ++ as ++ b) = some ds) (h2 : ∀ v, (enR v).rok = true) (h3 : ∀ v, (enR v).noLst)
    (next : ∀ v, Ok (kk v) fun b => go P N (R b) (.o q r :: ks) .norm (((gst g st).rebinds n (enR v).tags).putO dst ((enR v).mapT (retag n)))) :
    Ok (mc >>= kk) fun b => go P N (R b) (.o q (⟨dst, g, n, .callv x args⟩ :: r) :: ks) .norm st := by
  intro z hz
  obtain ⟨v, hv, hk⟩ := Option.bind_eq_some_iff.1 hz
  refine ops_step hg ?_
  unfold stepK
  simp only [rop, wop, callK]
  rcases hx with hx | ⟨a', b', hx, rfl, rfl⟩
  · rw [hx, h0]; exact ⟨ds, enR v, hm v hv, h2 v, .inl ⟨h1, h3 v, next v z hk⟩⟩
  · rw [hx, h0]; exact ⟨ds, enR v, hm v hv, h2 v, .inl ⟨h1, h3 v, next v z hk⟩⟩

/-- What comes of the first part, and what of the rest. -/
theorem go_app : ∀ {fs : List Fr} {k : Kd} {st : St} {R1 : Kd → St → Prop}, go P N R1 fs k st → (∀ k s, R1 k s → go P N Q ks k s) → (∀ k, cl ks k = true) → go P N Q (fs ++ ks) k st
  | [], k, st, R1, ⟨s2, h1, h2⟩, hq, hc => go_sub (hc k) (hq _ _ h2) h1
  | .c a :: fs, k, st, R1, h, hq, hc => by
    cases k with
    | norm => exact EvC.mono h fun k s hk => go_app hk hq hc
    | exit i => exact go_app (fs := fs) h hq hc
    | ret => exact go_app (fs := fs) h hq hc
  | .l a :: fs, k, st, R1, h, hq, hc => by
    cases k with
    | norm => exact EvL.mono h fun k s hk => go_app hk hq hc
    | exit i => exact go_app (fs := fs) h hq hc
    | ret => exact go_app (fs := fs) h hq hc
  | .o x a :: fs, k, st, R1, h, hq, hc => by
    cases k with
    | norm =>
      cases x with
      | false => exact EvO.mono h fun s hk => go_app hk hq hc
      | true => exact vcOps_mono h fun s hk => go_app hk hq hc
    | exit i => exact go_app (fs := fs) h hq hc
    | ret => exact go_app (fs := fs) h hq hc
  | .b j :: fs, k, st, R1, h, hq, hc => by
    cases k with
    | norm => exact go_app (fs := fs) h hq hc
    | ret => exact go_app (fs := fs) h hq hc
    | exit i =>
      simp only [go, List.cons_append] at h ⊢
      split
      · rename_i e; rw [if_pos e] at h; exact go_app h hq hc
      · rename_i e; rw [if_neg e] at h; exact go_app h hq hc

/-- What comes of a piece that ends in one way. -/
def PostN {γ : Type} (k1 : Kd) (S' : γ → St) (v : γ) : Kd → St → Prop := fun k s => k = k1 ∧ Sub s (S' v)
/-- What comes of a piece that ends so, or gives back at once. -/
def PostR {ρ γ : Type} (QR : ρ → Kd → St → Prop) (k1 : Kd) (S' : γ → St) : Sum ρ γ → Kd → St → Prop
  | .inl r => fun k s => k = .ret ∧ QR r .ret s
  | .inr v => fun k s => k = k1 ∧ Sub s (S' v)

/-- A piece that ends in one way: a loop, or ways that meet again. -/
theorem L_piece {mj : Option γ} {kk : γ → Option β} {fs : List Fr} {k1 : Kd} {S0 : St} {S' : γ → St} (hj : Ok mj fun v => go P N (PostN k1 S' v) fs .norm S0)
    (next : ∀ v, Ok (kk v) fun b => go P N (R b) ks k1 (S' v)) (hfit : fit st S0 = some S0 := by kernel_rfl) (h0 : cl fs .norm = true := by kernel_rfl) (hc : ∀ k, cl ks k = true := by intro k; cases k <;> rfl) : Ok (mj >>= kk) fun b => go P N (R b) (fs ++ ks) .norm st := by
  intro b hb
  obtain ⟨v, hv, hk⟩ := Option.bind_eq_some_iff.1 hb
  have h1 : go P N (PostN k1 S' v) fs .norm st := go_sub h0 (hj v hv) (fit_sub hfit)
  exact go_app h1 (fun k s ⟨e, hs⟩ => by subst e; exact go_sub (hc _) (next v b hk) hs) hc

theorem L_pieceR {ρ : Type} {mj : Option (Sum ρ γ)} {kf : Sum ρ γ → Option β} {fs : List Fr} {QR : ρ → Kd → St → Prop} {k1 : Kd} {S0 : St} {S' : γ → St}
    (hj : Ok mj fun v => go P N (PostR QR k1 S' v) fs .norm S0)
    (hr : ∀ r, Ok (kf (.inl r)) fun b => ∀ s, QR r .ret s → go P N (R b) ks .ret s)
    (next : ∀ v, Ok (kf (.inr v)) fun b => go P N (R b) ks k1 (S' v)) (hfit : fit st S0 = some S0 := by kernel_rfl) (h0 : cl fs .norm = true := by kernel_rfl) (hc : ∀ k, cl ks k = true := by intro k; cases k <;> rfl) : Ok (mj >>= kf) fun b => go P N (R b) (fs ++ ks) .norm st := by
  intro b hb
  obtain ⟨e, he, hk⟩ := Option.bind_eq_some_iff.1 hb
  have h1 := go_sub h0 (hj _ he) (fit_sub hfit)
  cases e with
  | inl r => exact go_app h1 (fun k s ⟨e, hs⟩ => by subst e; exact hr r b hk s hs) hc
  | inr v => exact go_app h1 (fun k s ⟨e, hs⟩ => by subst e; exact go_sub (hc _) (next v b hk) hs) hc

/-- Ways that meet again. -/
theorem L_join {mj : Option γ} {kk : γ → Option β} (fs ks : List Fr) (S' : γ → St) (hj : Ok mj fun v => go P N (PostN .norm S' v) fs .norm st)
    (next : ∀ v, Ok (kk v) fun b => go P N (R b) ks .norm (S' v)) (hc : ∀ k, cl ks k = true := by intro k; cases k <;> rfl) : Ok (mj >>= kk) fun b => go P N (R b) (fs ++ ks) .norm st := by
  intro b hb
  obtain ⟨v, hv, hk⟩ := Option.bind_eq_some_iff.1 hb
  exact go_app (hj v hv) (fun k s ⟨e, hs⟩ => by subst e; exact go_sub (hc _) (next v b hk) hs) hc
theorem L_joinR {ρ : Type} {mj : Option (Sum ρ γ)} {kf : Sum ρ γ → Option β} {QR : ρ → Kd → St → Prop} (fs ks : List Fr) (S' : γ → St)
    (hj : Ok mj fun v => go P N (PostR QR .norm S' v) fs .norm st) (hr : ∀ r, Ok (kf (.inl r)) fun b => ∀ s, QR r .ret s → go P N (R b) ks .ret s)
    (next : ∀ v, Ok (kf (.inr v)) fun b => go P N (R b) ks .norm (S' v)) (hc : ∀ k, cl ks k = true := by intro k; cases k <;> rfl) : Ok (mj >>= kf) fun b => go P N (R b) (fs ++ ks) .norm st := by
  intro b hb
  obtain ⟨e, he, hk⟩ := Option.bind_eq_some_iff.1 hb
  cases e with
  | inl r => exact go_app (hj _ he) (fun k s ⟨e, hs⟩ => by subst e; exact hr r b hk s hs) hc
  | inr v => exact go_app (hj _ he) (fun k s ⟨e, hs⟩ => by subst e; exact go_sub (hc _) (next v b hk) hs) hc

/-- A round is done. -/
theorem L_again {mb : Option β} {st0 : St} (h : ∀ r, mb = some r → go P N (R r) ks k st0) (hfit : fit st st0 = some st0 := by kernel_rfl) (hc : cl ks k = true := by kernel_rfl) : Ok mb fun r => go P N (R r) ks k st :=
  fun r hr => go_sub hc (h r hr) (fit_sub hfit)

theorem EvO_append : ∀ {a b : List AOper} {st : St} {K : St → Prop}, EvO P N a st (fun s => EvO P N b s K) → EvO P N (a ++ b) st K := by
  intro a b st K h E0 w0 d0 ops Q hQ l n hl E w act hT
  suffices ∀ (a : List AOper) (l : List Oper) (n : Nat), trOpers P N ops n l = some (a ++ b) → ∃ l1 l2, l = l1 ++ l2 ∧ trOpers P N ops n l1 = some a ∧ trOpers P N ops (n + l1.length) l2 = some b by
    obtain ⟨l1, l2, rfl, h1, h2⟩ := this a l n hl
    have := h E0 w0 d0 ops (exQ Q (wpList P ops Q l2)) (fun E' w' s' a' hT' hK => hK E0 w0 d0 ops Q hQ l2 _ h2 E' w' a' hT') l1 n h1 E w act hT
    exact wpList_append this
  intro a
  induction a with
  | nil => intro l n hl; exact ⟨[], l, rfl, rfl, by simpa using hl⟩
  | cons x a ih =>
    intro l n hl
    cases l with
    | nil => simp [trOpers] at hl
    | cons o l =>
      simp only [trOpers] at hl
      split at hl
      · rename_i ao as h1 h2
        simp only [Option.some.injEq, List.cons_append, List.cons.injEq] at hl
        obtain ⟨rfl, rfl⟩ := hl
        obtain ⟨l1, l2, rfl, h3, h4⟩ := ih l (n + 1) h2
        exact ⟨o :: l1, l2, rfl, by simp only [trOpers, h1, h3], by rw [List.length_cons, show n + (l1.length + 1) = n + 1 + l1.length by omega]; exact h4⟩
      · cases hl

/-- The first operations of some. -/
theorem L_take (j : Nat) (o1 o2 : List AOper) {os : List AOper} (next : Ok m fun r => go P N (R r) (.o false o1 :: .o false o2 :: ks) .norm st) (h1 : os.take j = o1 := by kernel_rfl) (h2 : os.drop j = o2 := by kernel_rfl) : Ok m fun r => go P N (R r) (.o false os :: ks) .norm st := by
  refine next.mono fun r hr => ?_
  have e : os = o1 ++ o2 := by rw [← h1, ← h2, List.take_append_drop]
  rw [e]
  exact EvO_append hr

/-- The end of a piece. -/
theorem L_end {v : γ} {k1 : Kd} {S' : γ → St} (h : fit st (S' v) = some (S' v) := by kernel_rfl) : Ok (some v) fun v => go P N (PostN k1 S' v) [] k1 st := by
  intro r hr
  cases hr
  exact ⟨st, Sub.refl st, rfl, fit_sub h⟩
theorem L_endR {ρ : Type} {QR : ρ → Kd → St → Prop} {v : γ} {k1 : Kd} {S' : γ → St} (h : fit st (S' v) = some (S' v) := by kernel_rfl) : Ok (some (Sum.inr v)) fun v => go P N (PostR QR k1 S' v) [] k1 st := by
  intro r hr
  cases hr
  exact ⟨st, Sub.refl st, rfl, fit_sub h⟩

/-- The end of a function. -/
def finB (res : List RV) (r : PV) (bx' : List (Tg × List PV)) (st : St) : Option St := match resQ res st with
  | some p => fit ⟨[(0, p)], st.bx⟩ ⟨[(0, r)], bx'⟩
  | none => none
theorem L_ret {v : γ} {k1 : Kd} {res : List RV} {enR : γ → PV} {bx' : γ → List (Tg × List PV)} (hk : (match k1 with | .exit _ => false | _ => true) = true := by rfl) (h : finB res (enR v) (bx' v) st = some ⟨[(0, enR v)], bx' v⟩ := by kernel_rfl) : Ok (some v) fun v => go P N (Fnl res (enR v) (bx' v)) [] k1 st := by
  intro r hr
  cases hr
  refine ⟨st, Sub.refl st, by cases k1 <;> simp_all, ?_⟩
  unfold finB at h
  split at h
  · rename_i p hp; exact ⟨p, hp, fit_sub h⟩
  · cases h
/-- A function's end inside a piece. -/
theorem L_retR {ρ : Type} {v : ρ} {k1 : Kd} {S' : γ → St} {res : List RV} {enR : ρ → PV} {bx' : ρ → List (Tg × List PV)} (h : finB res (enR v) (bx' v) st = some ⟨[(0, enR v)], bx' v⟩ := by kernel_rfl) :
    Ok (some (Sum.inl v)) fun v => go P N (PostR (fun r => Fnl res (enR r) (bx' r)) k1 S' v) [] .ret st := by
  intro r hr
  cases hr
  refine ⟨st, Sub.refl st, rfl, trivial, ?_⟩
  unfold finB at h
  split at h
  · rename_i p hp; exact ⟨p, hp, fit_sub h⟩
  · cases h
/-- What was given back at once is given back. -/
theorem L_thru {ρ : Type} {res : List RV} {enR : ρ → PV} {bx' : ρ → List (Tg × List PV)} {ks : List Fr} : ∀ r, Ok (some r) fun b => ∀ s, Fnl res (enR r) (bx' r) .ret s → go P N (Fnl res (enR b) (bx' b)) ks .ret s := by
  intro r b hb s hs
  cases hb
  induction ks with
  | nil => exact ⟨s, Sub.refl s, hs⟩
  | cons f ks ih => cases f <;> exact ih
theorem L_thruR {ρ : Type} {res : List RV} {enR : ρ → PV} {bx' : ρ → List (Tg × List PV)} {k1 : Kd} {S' : γ → St} {ks : List Fr} : ∀ r, Ok (some (Sum.inl r)) fun b => ∀ s, Fnl res (enR r) (bx' r) .ret s →
    go P N (PostR (fun r => Fnl res (enR r) (bx' r)) k1 S' b) ks .ret s := by
  intro r b hb s hs
  cases hb
  induction ks with
  | nil => exact ⟨s, Sub.refl s, rfl, hs⟩
  | cons f ks ih => cases f <;> exact ih

end

/-- A list as a datum. -/
def enL {α : Type} (f : α → D) (l : List α) : D := .lst (l.map f)
theorem flat_map_of {α : Type} {f : α → D} {l : List α} (h : ∀ x, (f x).flatD) : ∀ e ∈ l.map f, e.flatD := by
  intro e he
  obtain ⟨x, _, rfl⟩ := List.mem_map.1 he
  exact h x
end Go.Proofs.Ytaghpancpfpnhaa.Abs
