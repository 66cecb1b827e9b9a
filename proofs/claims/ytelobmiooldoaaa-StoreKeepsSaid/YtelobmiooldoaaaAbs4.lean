/- Rules for code. Conditions: none. -/
import Derived.Test.YtelobmiooldoaaaAbs3
import Derived.IntWalk
namespace Go.Proofs.Ytelobmiooldoaaa.Abs
open Go Go.RowKit
set_option linter.unusedVariables false
set_option linter.unusedSimpArgs false

section
variable {P : Program} {N : Nat} {E : Env} {w : World} {st : St} {tmps : Array Value}

/-- Code from a state that tells less. -/
theorem Ev_le {c : Code} {st st' : St} {Q : Kd → St → Prop} (ρ : List (Tg × Tg)) (h : St.le ρ st st') (hc : Ev P N c st' Q) : Ev P N c st Q := by
  intro E w a h1 h2 h3
  refine wp_mono (hc (E.ren ρ) w a h1 (h2.ren h.1) (h3.le h)) ?_
  rintro e a' w' ⟨k, st2, E', g1, g2, g3⟩
  exact ⟨k, st2, E', g1, g2, Tld.from (Step.ren E w ρ) g3⟩

/-- A loop, by names. -/
theorem Ev_loop' {ι : Type} {c : Code} (S : ι → St) (μ : ι → Nat) {Q : Kd → St → Prop} (h : ∀ x, Ev P N c (S x) fun k st' => match k with | .norm => ∃ y ρ, μ y < μ x ∧ St.le ρ st' (S y) | k => Q k st')
    {x : ι} {st : St} (ρ : List (Tg × Tg)) (hx : St.le ρ st (S x)) : Ev P N (.loop c) st Q :=
  Ev_le ρ hx (Ev_loop S μ (fun x => (h x).mono fun k s hk => by
    cases k with
    | norm =>
      obtain ⟨y, ρ, g1, g2⟩ := hk
      exact ⟨y, g1, fun E w tmps k1 k2 => ⟨E.ren ρ, k1.ren g2.1, k2.le g2, Step.ren E w ρ⟩⟩
    | _ => exact hk) x)

theorem Ev_skip {st : St} {Q : Kd → St → Prop} (h : Q .norm st) : Ev P N .skip st Q := fun E w a h1 h2 h3 => wp_skip ⟨.norm, st, E, rfl, h, Tld.refl h1 h2 h3⟩
theorem Ev_exit {id : Nat} {st : St} {Q : Kd → St → Prop} (h : Q (.exit id) st) : Ev P N (.exit id) st Q := fun E w a h1 h2 h3 => wp_exit ⟨.exit id, st, E, rfl, h, Tld.refl h1 h2 h3⟩
theorem Ev_ret {st : St} {Q : Kd → St → Prop} (h : Q .ret st) : Ev P N .ret st Q := fun E w a h1 h2 h3 => wp_ret ⟨.ret, st, E, rfl, h, Tld.refl h1 h2 h3⟩

theorem Ev_reg {id : Nat} {ops : Array Oper} {al : List AOper} {st : St} {Q : Kd → St → Prop} (ht : trOpers P N ops (id * 100) ops.toList = some al) (h : vcOps P al st (Q .norm)) : Ev P N (.region id ops false) st Q := by
  intro E w a h1 h2 h3
  refine wp_region_list ?_
  exact vcOps_sound (E0 := E) (w0 := w) (d0 := a.defers) (fun E' w' st' a' hT hk => ⟨.norm, st', E', rfl, hk, hT.tld⟩) _ _ al ht E w st a ⟨h1, rfl, h2, h3, Step.refl _ _⟩ h

/-- An operand's truth, known. -/
def St.litO (st : St) (o : Opd) (b : Bool) : St := match o with
  | .t n => st.lit n b
  | .c _ => st

/-- A choice. -/
theorem Ev_cond {c : Operand} {o : Opd} {x y : Code} {st : St} {Q : Kd → St → Prop} (hc : trO c = some o) {b : Bool} (hb : st.val o = some (.d (.bool b))) (hx : b = true → Ev P N x (st.litO o true) Q) (hy : b = false → Ev P N y (st.litO o false) Q) : Ev P N (.cond c x y) st Q := by
  intro E w a h1 h2 h3
  have hv := trO_sound hc h3 hb
  simp only [VR, DR] at hv
  have hl : StR E w (st.litO o b) a.tmps := by
    cases o with
    | c p => exact h3
    | t n =>
      obtain ⟨u, g1, g2⟩ := h3.get (show st.get n = some (.d (.bool b)) from hb)
      exact h3.known g1 g2
  exact wp_cond_split hv (fun h => hx h E w a h1 h2 (by rw [h] at hl; exact hl)) (fun h => hy h E w a h1 h2 (by rw [h] at hl; exact hl))

theorem Ev_draw {id : Nat} {ops : Array Oper} {al : List AOper} {its : List DIt} {st : St} {Q : Kd → St → Prop} (ht : trOpers P N ops (id * 100) ops.toList = some al) (hd : drawIts P ops al = some its) (h : vcDraw P its st (Q .norm)) : Ev P N (.region id ops true) st Q := by
  intro E w a h1 h2 h3
  simp only [drawIts] at hd
  split at hd
  · rename_i hc
    simp only [Option.some.injEq] at hd; subst hd
    simp only [Bool.and_eq_true] at hc
    have hS := stat_of hc.2
    refine wp_region_any hc.1 ?_
    have hv : Valid E { w with drawn := w.drawn + 1 } := ⟨h2.row_lt, h2.box_lt, h2.row_row, h2.box_box, h2.row_box, h2.prot_lt⟩
    have hs : StR E { w with drawn := w.drawn + 1 } st a.tmps := h3.keep (fun _ h => h) (fun _ _ => rfl) (fun _ _ h => ⟨h, rfl⟩) (fun _ _ h => ⟨h, rfl⟩)
    have hT : Told N E w a.defers E { w with drawn := w.drawn + 1 } st a := ⟨h1, rfl, hv, hs, ⟨rfl, rfl, rfl, Nat.le_refl _, (by first | exact Nat.le_refl _ | exact Nat.le_succ _), fun _ _ _ => rfl, fun _ h => .inl h, fun _ h => h, fun _ h => .inl h, fun _ _ h => h⟩⟩
    have hun : ∀ i, i < ops.size → (Array.replicate ops.size false).getD i true = false := fun i hi => by
      simp [Array.getD_eq_getD_getElem?, Array.getElem?_replicate, hi]
    refine sim_any (tb := ancs ops ops.size) hS ht (K := Q .norm) (fun E' w' st' a' hT hk => ⟨.norm, st', E', rfl, hk, hT.tld⟩) ops.size _ [] _ a _ a E st rfl ?_ h ?_
    · exact ⟨hT, fun i hi hl => (by rw [hun i hi] at hl; cases hl), fun i hi => (by simp at hi), fun i hi hl => (by rw [hun i hi] at hl; cases hl), by simp, rfl, rfl, fun _ _ => rfl, fun i o hi => (by simp at hi)⟩
    · unfold unl
      exact Nat.le_trans (List.length_filter_le _ _) (by simp)
  · cases hd

theorem Ev_draws {id : Nat} {ops : Array Oper} {al : List AOper} {l : List (List DIt)} {st : St} {Q : Kd → St → Prop} (ht : trOpers P N ops (id * 100) ops.toList = some al) (hd : drawsIts P ops al = some l) (h : ∀ its ∈ l, vcDraw P its st (Q .norm)) : Ev P N (.region id ops true) st Q := by
  intro E w a h1 h2 h3
  simp only [drawsIts] at hd
  split at hd
  · rename_i hc
    simp only [Option.some.injEq] at hd; subst hd
    simp only [Bool.and_eq_true] at hc
    have hM := mstat_of hc.2.2
    refine wp_region_any hc.1 ?_
    have hv : Valid E { w with drawn := w.drawn + 1 } := ⟨h2.row_lt, h2.box_lt, h2.row_row, h2.box_box, h2.row_box, h2.prot_lt⟩
    have hs : StR E { w with drawn := w.drawn + 1 } st a.tmps := h3.keep (fun _ h => h) (fun _ _ => rfl) (fun _ _ h => ⟨h, rfl⟩) (fun _ _ h => ⟨h, rfl⟩)
    have hT : Told N E w a.defers E { w with drawn := w.drawn + 1 } st a := ⟨h1, rfl, hv, hs, ⟨rfl, rfl, rfl, Nat.le_refl _, (by first | exact Nat.le_refl _ | exact Nat.le_succ _), fun _ _ _ => rfl, fun _ h => .inl h, fun _ h => h, fun _ h => .inl h, fun _ _ h => h⟩⟩
    have hun : ∀ i, i < ops.size → (Array.replicate ops.size false).getD i true = false := fun i hi => by
      simp [Array.getD_eq_getD_getElem?, Array.getElem?_replicate, hi]
    obtain ⟨c0, hc0⟩ := List.exists_mem_of_ne_nil _ hM.ne
    refine sim_many hM ht (K := Q .norm) (fun E' w' st' a' hT hk => ⟨.norm, st', E', rfl, hk, hT.tld⟩) ops.size [] _ a _ ⟨c0, hc0, List.nil_prefix⟩ (fun i hi => ?_) (fun c hc' _ => ⟨[], c.ord, rfl, a, E, st, ?_, h _ (List.mem_map_of_mem hc')⟩) ?_
    · have hlt : i < ops.size := (hM.stat c0 hc0).lt (i, true) ((mem_sync (hM.seq c0 hc0)).2 ((hM.all c0 hc0 i).2 hi))
      rw [hun i hlt]; simp
    · exact ⟨hT, fun i hi hl => (by rw [hun i hi] at hl; cases hl), fun i hi => (by simp at hi), fun i hi hl => (by rw [hun i hi] at hl; cases hl), by simp, rfl, rfl, fun _ _ => rfl, fun i o hi => (by simp at hi)⟩
    · unfold unl
      exact Nat.le_trans (List.length_filter_le _ _) (by simp)
  · cases hd

end
end Go.Proofs.Ytelobmiooldoaaa.Abs
/- Results; contracts of functions from their bodies. Conditions: none. -/
namespace Go.Proofs.Ytelobmiooldoaaa.Abs
open Go Go.RowKit
set_option linter.unusedVariables false
set_option linter.unusedSimpArgs false

/-- Where a result stands: in a slot, or behind one. -/
inductive RV where
  | t (n : Nat)
  | c (n : Nat) (ag : Bool) (sz : Nat)
  deriving Inhabited

def trRes (P : Program) : List ResultVar → Option (List RV)
  | [] => some []
  | .tmp t :: r => (trRes P r).map (.t t :: ·)
  | .cell a t :: r => match P.underlying t, P.info? t, trRes P r with
    | some u, some j, some rs => some (.c a (aggT u) j.size :: rs)
    | _, _, _ => none

def resL (st : St) : List RV → Option (Prop × List PV)
  | [] => some (True, [])
  | .t n :: r => match st.get n, resL st r with
    | some p, some (c, ps) => some (c, p :: ps)
    | _, _ => none
  | .c n ag sz :: r => match st.get n with
    | some (.ptr k o) => match rop (.load ag sz (.t n)) st.val st.box, resL st r with
      | some (c', p), some (c, ps) => some (c' ∧ c, p :: ps)
      | _, _ => none
    | _ => none

/-- What a state's results are. -/
def resP (res : List RV) (st : St) : Option (Prop × PV) :=
  match resL st res with
  | some (c, [p]) => some (c, p)
  | some (c, ps) => some (c, .tup ps)
  | none => none

def resM (tmps : Array Value) : ResultVar → Sem Value
  | .tmp t => pure (tmps.getD t undef)
  | .cell a t => do loadVar t (← asAddr (tmps.getD a undef))

theorem results_eq (fn : Func) (tmps : Array Value) : results fn tmps = (do let vs ← fn.results.mapM (resM tmps); pure (if h : vs.size = 1 then vs[0] else .tuple vs)) := by
  unfold results
  congr 1

section
variable {P : Program} {N : Nat} {E : Env} {w : World} {st : St} {tmps : Array Value}

theorem resL_sound (hs : StR E w st tmps) : ∀ (l : List ResultVar) (res : List RV) (c : Prop) (ps : List PV), trRes P l = some res → resL st res = some (c, ps) → c →
    ∃ vs : List Value, VRs E w ps vs ∧ (l.mapM (resM tmps)).run P w = .ok vs w
  | [], res, c, ps, ht, hr, hc => by
    simp only [trRes, Option.some.injEq] at ht; subst ht
    simp only [resL, Option.some.injEq, Prod.mk.injEq] at hr; obtain ⟨rfl, rfl⟩ := hr
    exact ⟨[], by simp [VRs], by simp⟩
  | .tmp t :: r, res, c, ps, ht, hr, hc => by
    simp only [trRes, Option.map_eq_some_iff] at ht
    obtain ⟨rs, h1, rfl⟩ := ht
    simp only [resL] at hr
    split at hr
    · rename_i p c' ps' h2 h3
      simp only [Option.some.injEq, Prod.mk.injEq] at hr; obtain ⟨rfl, rfl⟩ := hr
      obtain ⟨vs, g1, g2⟩ := resL_sound hs r rs _ _ h1 h3 hc
      obtain ⟨u, g3, g4⟩ := hs.get h2
      refine ⟨u :: vs, by simp only [VRs]; exact ⟨u, vs, rfl, g4, g1⟩, ?_⟩
      have : tmps.getD t undef = u := by simp [Array.getD_eq_getD_getElem?, g3]
      simp only [List.mapM_cons, resM, Sem.run_bind, Sem.run_pure, Result.andThen_ok, this, g2]
    · cases hr
  | .cell a t :: r, res, c, ps, ht, hr, hc => by
    simp only [trRes] at ht
    split at ht
    · rename_i u j rs hu hj h1
      simp only [Option.some.injEq] at ht; subst ht
      simp only [resL] at hr
      split at hr
      · rename_i k o h2
        split at hr
        · rename_i c' p c2 ps' h3 h4
          simp only [Option.some.injEq, Prod.mk.injEq] at hr; obtain ⟨rfl, rfl⟩ := hr
          obtain ⟨vs, g1, g2⟩ := resL_sound hs r rs _ _ h1 h4 hc.2
          obtain ⟨vx, g3, g4⟩ := hs.get h2
          have hx : ∀ q, st.val (.t a) = some q → VR E w q vx := by
            intro q hq; simp only [St.val] at hq; rw [h2] at hq; cases hq; exact g4
          obtain ⟨v, g5, g6⟩ := load_sound hu hj hs.bxR hx h3 hc.1
          have hM : k.isM = false := by
            cases hm : k.isM with
            | false => rfl
            | true => simp [rop, St.val, h2, hm] at h3
          simp only [VR] at g4
          obtain ⟨b, g7, rfl⟩ := g4
          rw [boxV_p hM] at g3 g5
          have g8 : tmps.getD a undef = .pointer (some ⟨b, o, none⟩) := by simp [Array.getD_eq_getD_getElem?, g3]
          have g9 : (loadVar t ⟨b, o, none⟩).run P w = .ok v w := by
            simp only [Instr.loadAt, Instr.sureAddr, Sem.run_bind, Sem.run_pure, Result.andThen_ok] at g5
            generalize (loadVar t ⟨b, o, none⟩).run P w = rr at g5 ⊢
            cases rr with
            | ok y w' =>
              simp only [Result.andThen_ok, Sem.run_pure, Result.ok.injEq] at g5
              obtain ⟨g5, rfl⟩ := g5
              cases g5; rfl
            | halt y w' => simp [Result.andThen] at g5
          refine ⟨v :: vs, by simp only [VRs]; exact ⟨v, vs, rfl, g6, g1⟩, ?_⟩
          simp only [List.mapM_cons, resM, Sem.run_bind, g8, asAddr, Sem.run_pure, Result.andThen_ok, g9, g2]
        · cases hr
      · cases hr
    · cases ht

theorem resP_sound {fn : Func} {res : List RV} (ht : trRes P fn.results.toList = some res) (hs : StR E w st tmps) {c : Prop} {p : PV} (hr : resP res st = some (c, p)) (hc : c) :
    ∃ v, (results fn tmps).run P w = .ok v w ∧ VR E w p v := by
  have key : ∀ c ps, resL st res = some (c, ps) → c → ∃ vs : List Value, VRs E w ps vs ∧ (results fn tmps).run P w = .ok (if h : vs.toArray.size = 1 then vs.toArray[0] else .tuple vs.toArray) w := by
    intro c ps h1 h2
    obtain ⟨vs, g1, g2⟩ := resL_sound hs _ _ _ _ ht h1 h2
    refine ⟨vs, g1, ?_⟩
    have e : fn.results = fn.results.toList.toArray := by simp
    rw [results_eq, e, List.mapM_toArray]
    simp only [Sem.run_bind, map_eq_pure_bind, g2, Result.andThen_ok, Sem.run_pure]
  unfold resP at hr
  split at hr
  · rename_i c' q h1
    simp only [Option.some.injEq, Prod.mk.injEq] at hr; obtain ⟨rfl, rfl⟩ := hr
    obtain ⟨vs, g1, g2⟩ := key _ _ h1 hc
    simp only [VRs] at g1
    obtain ⟨u, us, rfl, g3, rfl⟩ := g1
    exact ⟨u, by simpa using g2, g3⟩
  · rename_i c' ps hne h1
    simp only [Option.some.injEq, Prod.mk.injEq] at hr; obtain ⟨rfl, rfl⟩ := hr
    obtain ⟨vs, g1, g2⟩ := key _ _ h1 hc
    have hl := g1.length
    have : vs.length ≠ 1 := by
      intro e
      rw [e] at hl
      match ps, hl with
      | [q], _ => exact hne q rfl
    refine ⟨.tuple vs.toArray, ?_, by simp only [VR]; exact ⟨_, rfl, by simpa using g1⟩⟩
    rw [g2]
    simp [this]
  · cases hr

/-- What a body must come to. -/
def RetOK (res : List RV) (r : PV) (bx' : List (Tg × List PV)) (k : Kd) (st : St) : Prop :=
  (match k with | .exit _ => False | _ => True) ∧ match resP res st with
    | some (c, p) => c ∧ ∃ ρ, St.le ρ ⟨[(0, p)], st.bx⟩ ⟨[(0, r)], bx'⟩
    | none => False

/-- The blocks of what was put off are shut. -/
def shut : List Nat → World → World
  | [], w => w
  | D :: l, w => shut l (w.putObj D (.deferred none))

theorem shut_drawn : ∀ (l : List Nat) (w : World), (shut l w).drawn = w.drawn
  | [], w => rfl
  | D :: l, w => by rw [shut, shut_drawn l]; rfl

theorem shut_spec : ∀ (l : List Nat) (w : World), (shut l w).os = w.os ∧ (shut l w).tape = w.tape ∧ (shut l w).output = w.output ∧ (shut l w).heap.size = w.heap.size ∧ ∀ b, b ∉ l → (shut l w).heap[b]? = w.heap[b]?
  | [], w => ⟨rfl, rfl, rfl, rfl, fun _ _ => rfl⟩
  | D :: l, w => by
    obtain ⟨h1, h2, h3, h4, h5⟩ := shut_spec l (w.putObj D (.deferred none))
    refine ⟨h1, h2, h3, by rw [shut, h4]; simp, fun b hb => ?_⟩
    simp only [List.mem_cons, not_or] at hb
    rw [shut, h5 b hb.2, World.putObj_heap_other hb.1]

theorem leaves_shut {fn : Func} {tmps : Array Value} {R : Ending → World → Prop} : ∀ (l : List Nat) (w : World), l.Nodup → (∀ D ∈ l, w.heap[D]? = some (.deferred (some []))) →
    (∃ v, (results fn tmps).run P (shut l w) = .ok v (shut l w) ∧ R (.returned v) (shut l w)) → LeavesInM Fence.wide 0 P fn tmps R (l.map mark) .returning w
  | [], w, _, _, h => h
  | D :: l, w, hn, hd, h => by
    have hn' := List.nodup_cons.1 hn
    refine ⟨by simp, .inl ⟨D, w.putObj D (.deferred none), rfl, run_takeDeferred (hd D (by simp)), ?_⟩⟩
    refine leaves_shut l _ hn'.2 (fun D' hD' => ?_) h
    rw [World.putObj_heap_other (fun e => by subst e; exact hn'.1 hD')]
    exact hd D' (by simp [hD'])

theorem calls_of_marks {f : FuncId} {fn : Func} {c : Code} {args : Array Value} {w : World} {R : Ending → World → Prop} (hf : P.funcs[f]? = some fn) (hb : fn.body = some c)
    (h : c.wp P (fun e a' w' => (e = .normal ∨ e = .ret) ∧ ∃ l : List Nat, a'.defers = l.map mark ∧ l.Nodup ∧ (∀ D ∈ l, w'.heap[D]? = some (.deferred (some []))) ∧ ∃ v, (results fn a'.tmps).run P (shut l w') = .ok v (shut l w') ∧ R (.returned v) (shut l w'))
      { tmps := args ++ Array.replicate (fn.ntmps - args.size) undef, defers := [] } w) : Calls P f args w R := by
  refine callsIn_wide.1 (callsIn_of_wp_marks (n := 0) hf hb trivial (wpIn_wide.2 (wp_mono h ?_)))
  rintro e a' w' ⟨he, l, h1, h2, h3, h4⟩
  have := leaves_shut (P := P) (fn := fn) (tmps := a'.tmps) (R := R) l w' h2 h3 h4
  rcases he with rfl | rfl <;> (simp only [bodyPostM, h1]; exact this)

/-- A told state, its blocks of what was put off shut. -/
theorem Tld.shut {N : Nat} {E0 E : Env} {w0 w : World} {st : St} {a : Act} (h : Tld N E0 w0 [] E w st a) : ∃ l : List Nat, a.defers = l.map mark ∧ l.Nodup ∧ (∀ D ∈ l, w.heap[D]? = some (.deferred (some []))) ∧
    Valid E (shut l w) ∧ StR E (shut l w) st a.tmps ∧ Step E0 w0 E (Abs.shut l w) := by
  obtain ⟨l, h1, h2, h3⟩ := h.defers.ex
  obtain ⟨s1, s2, s3, s4, s5⟩ := shut_spec l w
  have hq : Quiet w (Abs.shut l w) := ⟨by rw [s4]; exact Nat.le_refl _, fun b c el fr hb => by
    rw [s5 b (fun hm => by have := (h3 b hm).2.1; rw [hb] at this; cases this)]; exact hb, fun b es ck hb => by
    rw [s5 b (fun hm => by have := (h3 b hm).2.1; rw [hb] at this; cases this)]; exact hb⟩
  exact ⟨l, by simpa using h1, h2, fun D hD => (h3 D hD).2.1, h.valid.calm hq, h.str.calm hq, h.step.turn s1 s2 s3 (by rw [s4]; exact Nat.le_refl _) (by rw [shut_drawn]; exact Nat.le_refl _) fun b hb => s5 b fun hm => by have := (h3 b hm).1; omega⟩

theorem EvG_of {f : FuncId} {fn : Func} {c : Code} {res : List RV} {ps : List PV} {bx bx' : List (Tg × List PV)} {r : PV} (hf : P.funcs[f]? = some fn) (hb : fn.body = some c) (hn : (fn.name == "runtime.NumGoroutine") = false)
    (hr : trRes P fn.results.toList = some res) (hl : ps.length ≤ fn.ntmps) (h : Ev P fn.ntmps c (initSt ps bx) (RetOK res r bx')) : EvG P f ps bx r bx' := by
  refine ⟨⟨fn, hf, by simp [hb], hn⟩, fun E w vs hv hs hsz => ?_⟩
  refine calls_of_marks hf hb ?_
  have hs' : StR E w (initSt ps bx) (vs ++ Array.replicate (fn.ntmps - vs.size) undef) := by
    refine ⟨fun d p hm => ?_, hs.bx⟩
    obtain ⟨u, h1, h2⟩ := hs.tm d p hm
    refine ⟨u, ?_, h2⟩
    have := (Array.getElem?_eq_some_iff.1 h1).1
    rw [Array.getElem?_append_left this]; exact h1
  refine wp_mono (h E w ⟨vs ++ Array.replicate (fn.ntmps - vs.size) undef, []⟩ (by simp; omega) hv hs') ?_
  rintro e a' w1 ⟨k, st', E', rfl, ⟨g0, g1⟩, g3⟩
  obtain ⟨l, hl1, hl2, hl3, hv2, hstr2, hstep2⟩ := g3.shut
  obtain ⟨w', hw'⟩ : ∃ w', shut l w1 = w' := ⟨_, rfl⟩
  rw [hw'] at hv2 hstr2 hstep2
  have g2 : Told fn.ntmps E w a'.defers E' w' st' a' := ⟨g3.size, rfl, hv2, hstr2, hstep2⟩
  have fin : ∃ v, (results fn a'.tmps).run P w' = .ok v w' ∧ ∃ E2, Valid E2 w' ∧ StR E2 w' ⟨[(0, r)], bx'⟩ #[v] ∧ Step E w E2 w' := by
    split at g1
    · rename_i cnd p hres
      obtain ⟨hc, ρ, hle⟩ := g1
      obtain ⟨v, g3, g4⟩ := resP_sound hr g2.str hres hc
      have g5 : StR E' w' ⟨[(0, p)], st'.bx⟩ #[v] := by
        refine ⟨fun d q hm => ?_, g2.str.bx⟩
        simp only [List.mem_singleton] at hm; cases hm
        exact ⟨v, rfl, g4⟩
      exact ⟨v, g3, E'.ren ρ, g2.valid.ren hle.1, g5.le hle, g2.step.trans (Step.ren E' w' ρ)⟩
    · exact g1.elim
  obtain ⟨v, g3, E2, g4, g5, g6⟩ := fin
  cases k with
  | norm => exact ⟨.inl rfl, l, hl1, hl2, hl3, v, by rw [hw']; exact g3, v, E2, rfl, by rw [hw']; exact g4, by rw [hw']; exact g5, by rw [hw']; exact g6⟩
  | ret => exact ⟨.inr rfl, l, hl1, hl2, hl3, v, by rw [hw']; exact g3, v, E2, rfl, by rw [hw']; exact g4, by rw [hw']; exact g5, by rw [hw']; exact g6⟩
  | exit i => exact g0.elim

theorem DRs_getElem {pr : Nat → Prop} {w : World} {ds : List D} {vs : List Value} (h : DRs pr w ds vs) {d : Nat} {x : D} (hd : ds[d]? = some x) : ∃ u, vs[d]? = some u ∧ DR pr w x u := h.getElem? hd

/-- The contract over pure data from the wide one. -/
theorem EvF_of_EvG {f : FuncId} {ds : List D} {r : PV} (h : EvG P f (ds.map .d) [] r []) : EvF P f ds r := by
  refine ⟨h.1, fun pr w vs hp hd => ?_⟩
  have hv : Valid ⟨fun _ => none, fun _ => none, pr⟩ w := ⟨fun _ _ _ h => by simp at h, fun _ _ h => by simp at h, fun _ _ _ _ _ h => by simp at h, fun _ _ _ h => by simp at h, fun _ _ _ _ h => by simp at h, hp⟩
  refine (h.2 ⟨fun _ => none, fun _ => none, pr⟩ w vs hv ⟨fun d p hm => ?_, fun k cs hm => by simp [initSt] at hm⟩ (by have := hd.length; simpa using this)).mono ?_
  · obtain ⟨_, h2⟩ := mem_enum hm
    rw [Nat.sub_zero, List.getElem?_map, Option.map_eq_some_iff] at h2
    obtain ⟨x, h3, rfl⟩ := h2
    obtain ⟨u, h4, h5⟩ := hd.getElem? h3
    exact ⟨u, by simpa using h4, by simpa only [VR] using h5⟩
  · rintro e w' ⟨v, E', rfl, g1, g2, g3⟩
    obtain ⟨u, g4, g5⟩ := g2.tm 0 r (by simp)
    simp at g4; subst g4
    have hno : ∀ b, ¬ Own (⟨fun _ => none, fun _ => none, pr⟩ : Env) b := by
      rintro b (⟨t, o, h⟩ | ⟨k, h⟩) <;> simp at h
    exact ⟨v, E', rfl, g1, g5, ⟨⟨g3.os, g3.tape, g3.output, g3.size, fun b hb => g3.frame b hb (hno b)⟩, g3.drawn⟩, fun b hb => (g3.own b hb).resolve_left (hno b), g3.prot,
      fun b hb => (g3.prot' b hb).elim .inl (fun h => h.elim (fun h => absurd h (hno b)) .inr)⟩

end
end Go.Proofs.Ytelobmiooldoaaa.Abs

/- What code comes to, worked out. Conditions: none. -/
namespace Go.Proofs.Ytelobmiooldoaaa.Abs
open Go Go.RowKit
set_option linter.unusedVariables false
set_option linter.unusedSimpArgs false

/-- What code comes to: all but loops. -/
def vc (P : Program) (N : Nat) : AC → St → (Kd → St → Prop) → Prop
  | .skip, st, Q => Q .norm st
  | .reg ops, st, Q => vcOps P ops st (Q .norm)
  | .draw its, st, Q => vcDraw P its st (Q .norm)
  | .draws l, st, Q => ∀ its ∈ l, vcDraw P its st (Q .norm)
  | .seq a b, st, Q => vc P N a st fun k s => match k with
    | .norm => vc P N b s Q
    | k => Q k s
  | .cond c a b, st, Q => match st.val c with
    | some (.d (.bool t)) => (t = true → vc P N a (st.litO c true) Q) ∧ (t = false → vc P N b (st.litO c false) Q)
    | _ => False
  | .block id a, st, Q => vc P N a st fun k s => match k with
    | .exit i => if i = id then Q .norm s else Q (.exit i) s
    | k => Q k s
  | .loop a, st, Q => EvC P N (.loop a) st Q
  | .rng g p d its, st, Q => EvC P N (.rng g p d its) st Q
  | .exit id, st, Q => Q (.exit id) st
  | .ret, st, Q => Q .ret st

section
variable {P : Program} {N : Nat}

theorem vc_sound : ∀ (ac : AC) (st : St) (Q : Kd → St → Prop), vc P N ac st Q → EvC P N ac st Q
  | .skip, st, Q, h => fun c hc => by
    cases c <;> simp only [tr] at hc <;> (repeat' split at hc) <;> first | (rcases drawAC_cases hc with ⟨_, h, _⟩ | ⟨_, h, _⟩ <;> cases h; done) | (simp only [Option.map_eq_some_iff] at hc; obtain ⟨_, _, hc⟩ := hc; cases hc; done) | exact Ev_skip h | (cases hc; done) | (obtain ⟨_, _, hc⟩ := hc; cases hc; done) | (simp only [Option.some.injEq] at hc; split at hc <;> cases hc; done)
  | .reg ops, st, Q, h => fun c hc => by
    cases c <;> simp only [tr] at hc
    case region id os draw =>
      split at hc
      · rename_i as h1
        split at hc
        · rcases drawAC_cases hc with ⟨its', h3, h2⟩ | ⟨its', h3, h2⟩ <;> cases h3
        · rename_i hd; cases hc; cases draw
          · exact Ev_reg h1 h
          · exact absurd rfl hd
      · cases hc
    all_goals (repeat' split at hc) <;> first | (rcases drawAC_cases hc with ⟨_, h, _⟩ | ⟨_, h, _⟩ <;> cases h; done) | (simp only [Option.map_eq_some_iff] at hc; obtain ⟨_, _, hc⟩ := hc; cases hc; done) | (cases hc; done) | (obtain ⟨_, _, hc⟩ := hc; cases hc; done)
  | .draw its, st, Q, h => fun c hc => by
    cases c <;> simp only [tr] at hc
    case region id os draw =>
      split at hc
      · rename_i as h1
        split at hc
        · rename_i hd
          rcases drawAC_cases hc with ⟨its', h3, h2⟩ | ⟨its', h3, h2⟩ <;> cases h3
          subst hd
          exact Ev_draw h1 h2 h
        · cases hc
      · cases hc
    all_goals (repeat' split at hc) <;> first | (rcases drawAC_cases hc with ⟨_, h, _⟩ | ⟨_, h, _⟩ <;> cases h; done) | (simp only [Option.map_eq_some_iff] at hc; obtain ⟨_, _, hc⟩ := hc; cases hc; done) | (cases hc; done) | (obtain ⟨_, _, hc⟩ := hc; cases hc; done)
  | .draws its, st, Q, h => fun c hc => by
    cases c <;> simp only [tr] at hc
    case region id os draw =>
      split at hc
      · rename_i as h1
        split at hc
        · rename_i hd
          rcases drawAC_cases hc with ⟨its', h3, h2⟩ | ⟨its', h3, h2⟩ <;> cases h3
          subst hd
          exact Ev_draws h1 h2 h
        · cases hc
      · cases hc
    all_goals (repeat' split at hc) <;> first | (rcases drawAC_cases hc with ⟨_, h, _⟩ | ⟨_, h, _⟩ <;> cases h; done) | (simp only [Option.map_eq_some_iff] at hc; obtain ⟨_, _, hc⟩ := hc; cases hc; done) | (cases hc; done) | (obtain ⟨_, _, hc⟩ := hc; cases hc; done)
  | .seq a b, st, Q, h => fun c hc => by
    cases c <;> simp only [tr] at hc
    case seq x y =>
      split at hc
      · rename_i a' b' h1 h2
        cases hc
        refine Ev_seq ((vc_sound a st _ h x h1).mono fun k s hk => ?_)
        cases k with
        | norm => exact vc_sound b s Q hk y h2
        | _ => exact hk
      · cases hc
    all_goals (repeat' split at hc) <;> first | (rcases drawAC_cases hc with ⟨_, h, _⟩ | ⟨_, h, _⟩ <;> cases h; done) | (simp only [Option.map_eq_some_iff] at hc; obtain ⟨_, _, hc⟩ := hc; cases hc; done) | (cases hc; done) | (obtain ⟨_, _, hc⟩ := hc; cases hc; done) | (simp only [Option.some.injEq] at hc; split at hc <;> cases hc; done)
  | .cond o a b, st, Q, h => fun c hc => by
    cases c <;> simp only [tr] at hc
    case cond c x y =>
      split at hc
      · rename_i c' a' b' h0 h1 h2
        cases hc
        simp only [vc] at h
        split at h
        · rename_i t ht
          exact Ev_cond h0 ht (fun e => vc_sound a _ Q (h.1 e) x h1) (fun e => vc_sound b _ Q (h.2 e) y h2)
        · exact h.elim
      · cases hc
    all_goals (repeat' split at hc) <;> first | (rcases drawAC_cases hc with ⟨_, h, _⟩ | ⟨_, h, _⟩ <;> cases h; done) | (simp only [Option.map_eq_some_iff] at hc; obtain ⟨_, _, hc⟩ := hc; cases hc; done) | (cases hc; done) | (obtain ⟨_, _, hc⟩ := hc; cases hc; done) | (simp only [Option.some.injEq] at hc; split at hc <;> cases hc; done)
  | .block id a, st, Q, h => fun c hc => by
    cases c <;> simp only [tr] at hc
    case block i x =>
      simp only [Option.map_eq_some_iff] at hc
      obtain ⟨a', h1, h2⟩ := hc
      cases h2
      refine Ev_block ((vc_sound a st _ h x h1).mono fun k s hk => ?_)
      cases k <;> exact hk
    all_goals (repeat' split at hc) <;> first | (rcases drawAC_cases hc with ⟨_, h, _⟩ | ⟨_, h, _⟩ <;> cases h; done) | (simp only [Option.map_eq_some_iff] at hc; obtain ⟨_, _, hc⟩ := hc; cases hc; done) | (cases hc; done) | (obtain ⟨_, _, hc⟩ := hc; cases hc; done) | (simp only [Option.some.injEq] at hc; split at hc <;> cases hc; done)
  | .loop a, st, Q, h => h
  | .rng g p d its, st, Q, h => h
  | .exit id, st, Q, h => fun c hc => by
    cases c <;> simp only [tr] at hc <;> (repeat' split at hc) <;> first | (rcases drawAC_cases hc with ⟨_, h, _⟩ | ⟨_, h, _⟩ <;> cases h; done) | (simp only [Option.map_eq_some_iff] at hc; obtain ⟨_, _, hc⟩ := hc; cases hc; done) | (cases hc; exact Ev_exit h) | (cases hc; done) | (obtain ⟨_, _, hc⟩ := hc; cases hc; done) | (simp only [Option.some.injEq] at hc; split at hc <;> cases hc; done)
  | .ret, st, Q, h => fun c hc => by
    cases c <;> simp only [tr] at hc <;> (repeat' split at hc) <;> first | (rcases drawAC_cases hc with ⟨_, h, _⟩ | ⟨_, h, _⟩ <;> cases h; done) | (simp only [Option.map_eq_some_iff] at hc; obtain ⟨_, _, hc⟩ := hc; cases hc; done) | (cases hc; exact Ev_ret h) | (cases hc; done) | (obtain ⟨_, _, hc⟩ := hc; cases hc; done) | (simp only [Option.some.injEq] at hc; split at hc <;> cases hc; done)

/-- A loop's states at its head are a family; each round leads to a lesser member, or out. -/
theorem loop_of {ι : Type} {a : AC} (S : ι → St) (μ : ι → Nat) {Q : Kd → St → Prop} (x : ι) {st : St} (ρ : List (Tg × Tg)) (hx : St.le ρ st (S x))
    (h : ∀ x, vc P N a (S x) fun k st' => match k with | .norm => ∃ y ρ, μ y < μ x ∧ St.le ρ st' (S y) | k => Q k st') : EvC P N (.loop a) st Q := by
  intro c hc
  cases c <;> simp only [tr] at hc
  case loop b =>
    simp only [Option.map_eq_some_iff] at hc
    obtain ⟨a', h1, h2⟩ := hc
    cases h2
    exact Ev_loop' S μ (fun x => vc_sound a (S x) _ (h x) b h1) ρ hx
  all_goals (repeat' split at hc) <;> first | (rcases drawAC_cases hc with ⟨_, h, _⟩ | ⟨_, h, _⟩ <;> cases h; done) | (simp only [Option.map_eq_some_iff] at hc; obtain ⟨_, _, hc⟩ := hc; cases hc; done) | (cases hc; done) | (obtain ⟨_, _, hc⟩ := hc; cases hc; done) | (simp only [Option.some.injEq] at hc; split at hc <;> cases hc; done)

/-- A function as abstract code: how many slots, the results, the code. -/
def fnA (P : Program) (f : FuncId) : Option (Nat × List RV × AC) :=
  match P.funcs[f]? with
  | some fn => match fn.body with
    | some c => match tr P fn.ntmps c, trRes P fn.results.toList with
      | some ac, some res => if fn.name == "runtime.NumGoroutine" then none else some (fn.ntmps, res, ac)
      | _, _ => none
    | none => none
  | none => none

theorem EvG_vc {f : FuncId} {ac : AC} {N : Nat} {res : List RV} {ps : List PV} {bx bx' : List (Tg × List PV)} {r : PV} (hf : fnA P f = some (N, res, ac)) (hl : ps.length ≤ N) (h : vc P N ac (initSt ps bx) (RetOK res r bx')) : EvG P f ps bx r bx' := by
  unfold fnA at hf
  split at hf
  · rename_i fn h1
    split at hf
    · rename_i c h2
      split at hf
      · rename_i ac' res' h3 h4
        split at hf
        · cases hf
        · rename_i h5
          cases hf
          exact EvG_of h1 h2 (by simpa using h5) h4 hl (vc_sound _ _ _ h c h3)
      · cases hf
    · cases hf
  · cases hf

end
end Go.Proofs.Ytelobmiooldoaaa.Abs

/- Rules by which a walk in an abstract state is worked out. Conditions: none. -/
namespace Go.Proofs.Ytelobmiooldoaaa.Abs
open Go Go.RowKit
set_option linter.unusedVariables false
set_option linter.unusedSimpArgs false

/-- Two ways on, by a truth. -/
def gsplit (g b : Bool) (A B : Prop) : Prop := (g = b → A) ∧ (g = !b → B)
theorem gs_tt {A B : Prop} : gsplit true true A B = A := by simp [gsplit]
theorem gs_ff {A B : Prop} : gsplit false false A B = A := by simp [gsplit]
theorem gs_tf {A B : Prop} : gsplit true false A B = B := by simp [gsplit]
theorem gs_ft {A B : Prop} : gsplit false true A B = B := by simp [gsplit]
theorem gs_any {g b : Bool} {A B : Prop} : gsplit g b A B = ((g = b → A) ∧ (g = !b → B)) := rfl

section
variable {P : Program} {N n : Nat} {tm : List (Nat × PV)} {bx : List (Tg × List PV)} {Q : Kd → St → Prop} {K : St → Prop}

theorem w_skip : vc P N .skip ⟨tm, bx⟩ Q = Q .norm ⟨tm, bx⟩ := rfl
theorem w_reg {ops : List AOper} : vc P N (.reg ops) ⟨tm, bx⟩ Q = vcOps P ops ⟨tm, bx⟩ (Q .norm) := rfl
theorem w_draw {its : List DIt} : vc P N (.draw its) ⟨tm, bx⟩ Q = vcDraw P its ⟨tm, bx⟩ (Q .norm) := rfl
theorem w_dN : vcDraw P [] ⟨tm, bx⟩ K = K ⟨tm, bx⟩ := rfl
theorem w_dR {dst : Option Nat} {op : AOp} {stay : List AOper} {rest : List DIt} : vcDraw P (⟨⟨dst, none, n, op⟩, false, stay⟩ :: rest) ⟨tm, bx⟩ K = match rop op (St.val ⟨tm, bx⟩) (St.box ⟨tm, bx⟩) with
    | some (c, v) => c ∧ (HoldsAll stay (St.putO ⟨tm, bx⟩ dst v) ∧ vcDraw P rest (St.putO ⟨tm, bx⟩ dst v) K)
    | none => False := rfl
theorem w_dS {dst : Option Nat} {op : AOp} {stay : List AOper} {rest : List DIt} : vcDraw P (⟨⟨dst, none, n, op⟩, true, stay⟩ :: rest) ⟨tm, bx⟩ K = stepK P n op ⟨tm, bx⟩ fun v st' => (fun st2 => HoldsAll stay st2 ∧ vcDraw P rest st2 K) (st'.putO dst v) := rfl
theorem w_dRg {dst : Option Nat} {t : Nat} {b : Bool} {op : AOp} {stay : List AOper} {rest : List DIt} : vcDraw P (⟨⟨dst, some (t, b), n, op⟩, false, stay⟩ :: rest) ⟨tm, bx⟩ K = match getL t tm with
    | some (.d (.bool g)) => gsplit g b (vcDraw P (⟨⟨dst, none, n, op⟩, false, stay⟩ :: rest) (St.lit ⟨tm, bx⟩ t b) K) (HoldsAll stay (St.putO (St.lit ⟨tm, bx⟩ t (!b)) dst (.tup [])) ∧ vcDraw P rest (St.putO (St.lit ⟨tm, bx⟩ t (!b)) dst (.tup [])) K)
    | some (.tup []) => HoldsAll stay (St.putO ⟨tm, bx⟩ dst (.tup [])) ∧ vcDraw P rest (St.putO ⟨tm, bx⟩ dst (.tup [])) K
    | _ => False := rfl
theorem w_dSg {dst : Option Nat} {t : Nat} {b : Bool} {op : AOp} {stay : List AOper} {rest : List DIt} : vcDraw P (⟨⟨dst, some (t, b), n, op⟩, true, stay⟩ :: rest) ⟨tm, bx⟩ K = match getL t tm with
    | some (.d (.bool g)) => gsplit g b (vcDraw P (⟨⟨dst, none, n, op⟩, true, stay⟩ :: rest) (St.lit ⟨tm, bx⟩ t b) K) (HoldsAll stay (St.putO (St.lit ⟨tm, bx⟩ t (!b)) dst (.tup [])) ∧ vcDraw P rest (St.putO (St.lit ⟨tm, bx⟩ t (!b)) dst (.tup [])) K)
    | some (.tup []) => HoldsAll stay (St.putO ⟨tm, bx⟩ dst (.tup [])) ∧ vcDraw P rest (St.putO ⟨tm, bx⟩ dst (.tup [])) K
    | _ => False := rfl
theorem w_hN {st : St} : HoldsAll [] st = True := rfl
theorem w_hC {o : AOper} {r : List AOper} : HoldsAll (o :: r) ⟨tm, bx⟩ = (Holds o ⟨tm, bx⟩ ∧ HoldsAll r ⟨tm, bx⟩) := rfl
theorem w_h {dst : Option Nat} {op : AOp} : Holds ⟨dst, none, n, op⟩ ⟨tm, bx⟩ = match rop op (St.val ⟨tm, bx⟩) (St.box ⟨tm, bx⟩) with
    | some (c, v) => c ∧ (match dst with
      | some d => onlyL d v tm
      | none => True)
    | none => False := rfl
theorem w_hg {dst : Option Nat} {t : Nat} {b : Bool} {op : AOp} : Holds ⟨dst, some (t, b), n, op⟩ ⟨tm, bx⟩ = match getL t tm with
    | some (.d (.bool g)) => gsplit g b (match rop op (St.val ⟨tm, bx⟩) (St.box ⟨tm, bx⟩) with
      | some (c, v) => c ∧ (match dst with
        | some d => onlyL d v tm
        | none => True)
      | none => False) (match dst with
      | some d => onlyL d (.tup []) tm
      | none => True)
    | some (.tup []) => (match dst with
      | some d => onlyL d (.tup []) tm
      | none => True)
    | _ => False := rfl
theorem w_seq {a b : AC} : vc P N (.seq a b) ⟨tm, bx⟩ Q = vc P N a ⟨tm, bx⟩ fun k s => match k with
    | .norm => vc P N b s Q
    | k => Q k s := rfl
theorem w_cond {c : Opd} {a b : AC} : vc P N (.cond c a b) ⟨tm, bx⟩ Q = match St.val ⟨tm, bx⟩ c with
    | some (.d (.bool t)) => gsplit t true (vc P N a (St.litO ⟨tm, bx⟩ c true) Q) (vc P N b (St.litO ⟨tm, bx⟩ c false) Q)
    | _ => False := rfl
theorem w_block {id : Nat} {a : AC} : vc P N (.block id a) ⟨tm, bx⟩ Q = vc P N a ⟨tm, bx⟩ fun k s => match k with
    | .exit i => if i = id then Q .norm s else Q (.exit i) s
    | k => Q k s := rfl
theorem w_loop {a : AC} : vc P N (.loop a) ⟨tm, bx⟩ Q = EvC P N (.loop a) ⟨tm, bx⟩ Q := rfl
theorem w_exit {id : Nat} : vc P N (.exit id) ⟨tm, bx⟩ Q = Q (.exit id) ⟨tm, bx⟩ := rfl
theorem w_ret : vc P N .ret ⟨tm, bx⟩ Q = Q .ret ⟨tm, bx⟩ := rfl

theorem w_nil : vcOps P [] ⟨tm, bx⟩ K = K ⟨tm, bx⟩ := rfl
theorem w_op {dst : Option Nat} {op : AOp} {rest : List AOper} : vcOps P (⟨dst, none, n, op⟩ :: rest) ⟨tm, bx⟩ K = stepK P n op ⟨tm, bx⟩ fun v st' => vcOps P rest (st'.putO dst v) K := rfl
theorem w_opg {dst : Option Nat} {t : Nat} {b : Bool} {op : AOp} {rest : List AOper} : vcOps P (⟨dst, some (t, b), n, op⟩ :: rest) ⟨tm, bx⟩ K = match getL t tm with
    | some (.d (.bool g)) => gsplit g b (stepK P n op (St.lit ⟨tm, bx⟩ t b) fun v st' => vcOps P rest (st'.putO dst v) K) (vcOps P rest (St.putO (St.lit ⟨tm, bx⟩ t (!b)) dst (.tup [])) K)
    | some (.tup []) => vcOps P rest (St.putO ⟨tm, bx⟩ dst (.tup [])) K
    | _ => False := rfl
theorem w_step {op : AOp} {K : PV → St → Prop} : stepK P n op ⟨tm, bx⟩ K = match rop op (St.val ⟨tm, bx⟩) (St.box ⟨tm, bx⟩) with
    | some (c, v) => c ∧ K v ⟨tm, bx⟩
    | none => match wop (16 * n + 15) op ⟨tm, bx⟩ with
      | some (c, v, st') => c ∧ K v st'
      | none => callK P n op ⟨tm, bx⟩ K := rfl
theorem w_putO {d : Nat} {v : PV} : St.putO ⟨tm, bx⟩ (some d) v = ⟨(d, v) :: delL d tm, bx⟩ := rfl
theorem w_putN {v : PV} : St.putO ⟨tm, bx⟩ none v = ⟨tm, bx⟩ := rfl
theorem w_put {d : Nat} {v : PV} : St.put ⟨tm, bx⟩ d v = ⟨(d, v) :: delL d tm, bx⟩ := rfl
theorem w_delO {d : Nat} : St.delO ⟨tm, bx⟩ (some d) = ⟨delL d tm, bx⟩ := rfl
theorem w_delN : St.delO ⟨tm, bx⟩ none = ⟨tm, bx⟩ := rfl
theorem w_get {d : Nat} : St.get ⟨tm, bx⟩ d = getL d tm := rfl
theorem w_valT {d : Nat} : St.val ⟨tm, bx⟩ (.t d) = getL d tm := rfl
theorem w_valC {p : PV} : St.val ⟨tm, bx⟩ (.c p) = some p := rfl
theorem w_box {k : Tg} : St.box ⟨tm, bx⟩ k = getB k bx := rfl
theorem w_init {ps : List PV} : initSt ps bx = ⟨enum 0 ps, bx⟩ := rfl
theorem w_rebind {t : Tg} : St.rebind ⟨tm, bx⟩ t = ⟨mapLT (killF t) tm, delB t (mapLB (killF t) bx)⟩ := rfl

theorem ab_add {k : IntKind} {x y : Int} : absBin .add .int (.d (.int k x)) (.d (.int k y)) = some (True, .d (.int k (k.wrap (x + y)))) := by simp [absBin, iRes]
theorem ab_sub {k : IntKind} {x y : Int} : absBin .sub .int (.d (.int k x)) (.d (.int k y)) = some (True, .d (.int k (k.wrap (x - y)))) := by simp [absBin, iRes]
theorem ab_mul {k : IntKind} {x y : Int} : absBin .mul .int (.d (.int k x)) (.d (.int k y)) = some (True, .d (.int k (k.wrap (x * y)))) := by simp [absBin, iRes]
theorem ab_and {k : IntKind} {x y : Int} : absBin .and .int (.d (.int k x)) (.d (.int k y)) = some (True, .d (.int k (bAnd k x y))) := by simp [absBin, iRes]
theorem ab_or {k : IntKind} {x y : Int} : absBin .or .int (.d (.int k x)) (.d (.int k y)) = some (True, .d (.int k (bOr k x y))) := by simp [absBin, iRes]
theorem ab_xor {k : IntKind} {x y : Int} : absBin .xor .int (.d (.int k x)) (.d (.int k y)) = some (True, .d (.int k (bXor k x y))) := by simp [absBin, iRes]
theorem ab_andNot {k : IntKind} {x y : Int} : absBin .andNot .int (.d (.int k x)) (.d (.int k y)) = some (True, .d (.int k (bAndNot k x y))) := by simp [absBin, iRes]
theorem ab_eql {k : IntKind} {x y : Int} : absBin .eql .int (.d (.int k x)) (.d (.int k y)) = some (True, .d (.bool (x == y))) := by simp [absBin, iRes]
theorem ab_neq {k : IntKind} {x y : Int} : absBin .neq .int (.d (.int k x)) (.d (.int k y)) = some (True, .d (.bool (x != y))) := by simp [absBin, iRes]
theorem ab_lss {k : IntKind} {x y : Int} : absBin .lss .int (.d (.int k x)) (.d (.int k y)) = some (True, .d (.bool (decide (x < y)))) := by simp [absBin, iRes]
theorem ab_leq {k : IntKind} {x y : Int} : absBin .leq .int (.d (.int k x)) (.d (.int k y)) = some (True, .d (.bool (decide (x ≤ y)))) := by simp [absBin, iRes]
theorem ab_gtr {k : IntKind} {x y : Int} : absBin .gtr .int (.d (.int k x)) (.d (.int k y)) = some (True, .d (.bool (decide (x > y)))) := by simp [absBin, iRes]
theorem ab_geq {k : IntKind} {x y : Int} : absBin .geq .int (.d (.int k x)) (.d (.int k y)) = some (True, .d (.bool (decide (x ≥ y)))) := by simp [absBin, iRes]
theorem ab_quo {k : IntKind} {x y : Int} : absBin .quo .int (.d (.int k x)) (.d (.int k y)) = some (y ≠ 0, .d (.int k (k.wrap (x.tdiv y)))) := by simp [absBin, iRes]
theorem ab_rem {k : IntKind} {x y : Int} : absBin .rem .int (.d (.int k x)) (.d (.int k y)) = some (y ≠ 0, .d (.int k (x.tmod y))) := by simp [absBin, iRes]
theorem ab_shl {k j : IntKind} {x y : Int} : absBin .shl .int (.d (.int k x)) (.d (.int j y)) = some (0 ≤ y, .d (.int k (sShl k x y))) := rfl
theorem ab_shr {k j : IntKind} {x y : Int} : absBin .shr .int (.d (.int k x)) (.d (.int j y)) = some (0 ≤ y, .d (.int k (sShr k x y))) := rfl
theorem ab_beql {x y : Bool} : absBin .eql .bool (.d (.bool x)) (.d (.bool y)) = some (True, .d (.bool (x == y))) := rfl
theorem ab_bneq {x y : Bool} : absBin .neq .bool (.d (.bool x)) (.d (.bool y)) = some (True, .d (.bool (!(x == y)))) := rfl
theorem an_1 {es : List D} {t k : Tg} {sz off o i : Nat} {f : Option Nat} {e : Option D} {fn : Fn} {a b : List PV} {x y : List D} : absBin .eql .slice (.d (.lst es)) .nils = none := rfl
theorem an_2 {es : List D} {t k : Tg} {sz off o i : Nat} {f : Option Nat} {e : Option D} {fn : Fn} {a b : List PV} {x y : List D} : absBin .eql .slice (.sl t sz off es) .nils = none := rfl
theorem an_3 {es : List D} {t k : Tg} {sz off o i : Nat} {f : Option Nat} {e : Option D} {fn : Fn} {a b : List PV} {x y : List D} : absBin .eql .slice .nils .nils = some (True, .d (.bool true)) := rfl
theorem an_4 {es : List D} {t k : Tg} {sz off o i : Nat} {f : Option Nat} {e : Option D} {fn : Fn} {a b : List PV} {x y : List D} : absBin .eql .ptr (.d .nilptr) (.d .nilptr) = some (True, .d (.bool true)) := rfl
theorem an_6 {es : List D} {t k : Tg} {sz off o i : Nat} {f : Option Nat} {e : Option D} {fn : Fn} {a b : List PV} {x y : List D} : absBin .eql .ptr (.ep t sz i f e) (.d .nilptr) = some (True, .d (.bool false)) := rfl
theorem an_7 {es : List D} {t k : Tg} {sz off o i : Nat} {f : Option Nat} {e : Option D} {fn : Fn} {a b : List PV} {x y : List D} : absBin .eql .ptr (.d (.cp es o)) (.d .nilptr) = some (True, .d (.bool false)) := rfl
theorem an_8 {es : List D} {t k : Tg} {sz off o i : Nat} {f : Option Nat} {e : Option D} {fn : Fn} {a b : List PV} {x y : List D} : absBin .eql .func (.d .nilfn) (.d .nilfn) = some (True, .d (.bool true)) := rfl
theorem an_9 {es : List D} {t k : Tg} {sz off o i : Nat} {f : Option Nat} {e : Option D} {fn : Fn} {a b : List PV} {x y : List D} : absBin .eql .func (.clo fn a b) (.d .nilfn) = some (True, .d (.bool false)) := rfl
theorem an_10 {es : List D} {t k : Tg} {sz off o i : Nat} {f : Option Nat} {e : Option D} {fn : Fn} {a b : List PV} {x y : List D} : absBin .eql .func (.d (.clo fn x y)) (.d .nilfn) = some (True, .d (.bool false)) := rfl
theorem an_11 {es : List D} {t k : Tg} {sz off o i : Nat} {f : Option Nat} {e : Option D} {fn : Fn} {a b : List PV} {x y : List D} : absBin .neq .slice (.d (.lst es)) .nils = none := rfl
theorem an_12 {es : List D} {t k : Tg} {sz off o i : Nat} {f : Option Nat} {e : Option D} {fn : Fn} {a b : List PV} {x y : List D} : absBin .neq .slice (.sl t sz off es) .nils = none := rfl
theorem an_13 {es : List D} {t k : Tg} {sz off o i : Nat} {f : Option Nat} {e : Option D} {fn : Fn} {a b : List PV} {x y : List D} : absBin .neq .slice .nils .nils = some (True, .d (.bool false)) := rfl
theorem an_14 {es : List D} {t k : Tg} {sz off o i : Nat} {f : Option Nat} {e : Option D} {fn : Fn} {a b : List PV} {x y : List D} : absBin .neq .ptr (.d .nilptr) (.d .nilptr) = some (True, .d (.bool false)) := rfl
theorem an_16 {es : List D} {t k : Tg} {sz off o i : Nat} {f : Option Nat} {e : Option D} {fn : Fn} {a b : List PV} {x y : List D} : absBin .neq .ptr (.ep t sz i f e) (.d .nilptr) = some (True, .d (.bool true)) := rfl
theorem an_17 {es : List D} {t k : Tg} {sz off o i : Nat} {f : Option Nat} {e : Option D} {fn : Fn} {a b : List PV} {x y : List D} : absBin .neq .ptr (.d (.cp es o)) (.d .nilptr) = some (True, .d (.bool true)) := rfl
theorem an_18 {es : List D} {t k : Tg} {sz off o i : Nat} {f : Option Nat} {e : Option D} {fn : Fn} {a b : List PV} {x y : List D} : absBin .neq .func (.d .nilfn) (.d .nilfn) = some (True, .d (.bool false)) := rfl
theorem an_19 {es : List D} {t k : Tg} {sz off o i : Nat} {f : Option Nat} {e : Option D} {fn : Fn} {a b : List PV} {x y : List D} : absBin .neq .func (.clo fn a b) (.d .nilfn) = some (True, .d (.bool true)) := rfl
theorem an_20 {es : List D} {t k : Tg} {sz off o i : Nat} {f : Option Nat} {e : Option D} {fn : Fn} {a b : List PV} {x y : List D} : absBin .neq .func (.d (.clo fn x y)) (.d .nilfn) = some (True, .d (.bool true)) := rfl
theorem an_str {x y : ByteArray} : absBin .eql .str (.d (.str x)) (.d (.str y)) = some (True, .d (.bool (x.toList == y.toList))) := rfl
theorem an_strn {x y : ByteArray} : absBin .neq .str (.d (.str x)) (.d (.str y)) = some (True, .d (.bool (!(x.toList == y.toList)))) := rfl
theorem sz_22 {k : IntKind} {n : Int} {b : Bool} {j : FloatKind} {m : Nat} {s : ByteArray} {es cs : List D} {x : D} {fn : Fn} : D.sz (.int k n) = 1 := rfl
theorem sz_23 {k : IntKind} {n : Int} {b : Bool} {j : FloatKind} {m : Nat} {s : ByteArray} {es cs : List D} {x : D} {fn : Fn} : D.sz (.bool b) = 1 := rfl
theorem sz_24 {k : IntKind} {n : Int} {b : Bool} {j : FloatKind} {m : Nat} {s : ByteArray} {es cs : List D} {x : D} {fn : Fn} : D.sz (.flt j m) = 1 := rfl
theorem sz_25 {k : IntKind} {n : Int} {b : Bool} {j : FloatKind} {m : Nat} {s : ByteArray} {es cs : List D} {x : D} {fn : Fn} : D.sz (.str s) = 1 := rfl
theorem sz_26 {k : IntKind} {n : Int} {b : Bool} {j : FloatKind} {m : Nat} {s : ByteArray} {es cs : List D} {x : D} {fn : Fn} : D.sz (.lst es) = 1 := rfl
theorem sz_27 {k : IntKind} {n : Int} {b : Bool} {j : FloatKind} {m : Nat} {s : ByteArray} {es cs : List D} {x : D} {fn : Fn} : D.sz (.agg es) = es.length := rfl
theorem sz_28 {k : IntKind} {n : Int} {b : Bool} {j : FloatKind} {m : Nat} {s : ByteArray} {es cs : List D} {x : D} {fn : Fn} : D.sz (.ifc m x) = 1 := rfl
theorem sz_29 {k : IntKind} {n : Int} {b : Bool} {j : FloatKind} {m : Nat} {s : ByteArray} {es cs : List D} {x : D} {fn : Fn} : D.sz .nilif = 1 := rfl
theorem sz_30 {k : IntKind} {n : Int} {b : Bool} {j : FloatKind} {m : Nat} {s : ByteArray} {es cs : List D} {x : D} {fn : Fn} : D.sz .nilptr = 1 := rfl
theorem sz_31 {k : IntKind} {n : Int} {b : Bool} {j : FloatKind} {m : Nat} {s : ByteArray} {es cs : List D} {x : D} {fn : Fn} : D.sz .nilfn = 1 := rfl
theorem sz_32 {k : IntKind} {n : Int} {b : Bool} {j : FloatKind} {m : Nat} {s : ByteArray} {es cs : List D} {x : D} {fn : Fn} : D.sz .nilmap = 1 := rfl
theorem sz_33 {k : IntKind} {n : Int} {b : Bool} {j : FloatKind} {m : Nat} {s : ByteArray} {es cs : List D} {x : D} {fn : Fn} : D.sz (.clo fn es cs) = 1 := rfl
theorem sz_34 {k : IntKind} {n : Int} {b : Bool} {j : FloatKind} {m : Nat} {s : ByteArray} {es cs : List D} {x : D} {fn : Fn} : D.sz (.cp es m) = 1 := rfl
theorem w_lit {t : Nat} {b : Bool} : St.lit ⟨tm, bx⟩ t b = ⟨(t, .d (.bool b)) :: delL t tm, bx⟩ := rfl
theorem w_litT {t : Nat} {b : Bool} : St.litO ⟨tm, bx⟩ (.t t) b = ⟨(t, .d (.bool b)) :: delL t tm, bx⟩ := rfl
theorem w_litC {p : PV} {b : Bool} : St.litO ⟨tm, bx⟩ (.c p) b = ⟨tm, bx⟩ := rfl
theorem w_frzN : St.frz ⟨tm, bx⟩ [] = ⟨tm, bx⟩ := rfl
theorem w_frzC {t : Tg} {ts : List Tg} : St.frz ⟨tm, bx⟩ (t :: ts) = ⟨mapLT (frzF (t :: ts)) tm, mapLB (frzF (t :: ts)) bx⟩ := rfl
theorem w_map {f : PV → PV} : St.map ⟨tm, bx⟩ f = ⟨mapLT f tm, mapLB f bx⟩ := rfl
theorem w_setBox {k : Tg} {cs : List PV} : St.setBox ⟨tm, bx⟩ k cs = ⟨tm, (k, cs) :: delB k bx⟩ := rfl
theorem w_rebindsN : St.rebinds ⟨tm, bx⟩ n [] = ⟨tm, bx⟩ := rfl
theorem w_rebindsC {j : Nat} {ts : List Tg} : St.rebinds ⟨tm, bx⟩ n (.s j :: ts) = (St.rebinds ⟨tm, bx⟩ n ts).rebind (.s (16 * n + j)) := rfl
theorem w_rebindsU {u : Tg} {ts : List Tg} : St.rebinds ⟨tm, bx⟩ n (.up u :: ts) = St.rebinds ⟨tm, bx⟩ n ts := rfl
theorem w_give {ρ : List (Tg × Tg)} {bx' : List (Tg × List PV)} : St.give ⟨tm, bx⟩ ρ n bx' = ⟨mapLT (killG (ρ.map Prod.snd)) tm, sgB ρ n bx' ++ dropB (ρ.map Prod.snd) (mapLB (killG (ρ.map Prod.snd)) bx)⟩ := rfl

/-- A call of a function that is named. -/
def callF (P : Program) (n f : Nat) (args : List Opd) (st : St) (K : PV → St → Prop) : Prop :=
  (match valsO st.val args with
    | some ps => callWith P n f ps st K ∨ callIn P f ps st K
    | none => False) ∨ callGive P n f args st K
theorem w_callF {f : Nat} {args : List Opd} {K : PV → St → Prop} : callK P n (.call f args) ⟨tm, bx⟩ K = callF P n f args ⟨tm, bx⟩ K := rfl
theorem w_callB {op : BinOp} {bt : BT} {x y : Opd} {K : PV → St → Prop} : callK P n (.bin op bt x y) ⟨tm, bx⟩ K = match ambNil op bt (St.val ⟨tm, bx⟩ x) (St.val ⟨tm, bx⟩ y) with
    | some (e, es) => (es ≠ [] → K (.d (.bool (!e))) ⟨tm, bx⟩) ∧ (es = [] → ∀ b, K (.d (.bool b)) ⟨tm, bx⟩)
    | none => False := rfl
theorem w_callV {x : Opd} {args : List Opd} {K : PV → St → Prop} : callK P n (.callv x args) ⟨tm, bx⟩ K = ((match St.val ⟨tm, bx⟩ x, valsO (St.val ⟨tm, bx⟩) args with
    | some (.d (.clo (.func g) a b)), some ps => callWith P n g (a.map .d ++ ps ++ b.map .d) ⟨tm, bx⟩ K
    | some (.clo (.func g) a b), some ps => callWith P n g (a ++ ps ++ b) ⟨tm, bx⟩ K
    | _, _ => False) ∨ (match St.val ⟨tm, bx⟩ x with
    | some (.clo (.func g) _ _) => callGiveA P n g (cloArgs g x args) ⟨tm, bx⟩ K
    | _ => False)) := rfl

/-- A call by a contract over data: what is handed in stays the caller's. -/
theorem use_F {f : Nat} {args : List Opd} {st : St} {ds : List D} {r : PV} {K : PV → St → Prop} (h : EvF P f ds r) (h1 : (valsO st.val args).bind (PV.toDBL st.box) = some ds) (h2 : r.rok = true) (h3 : r.noLst) (hK : K (r.mapT (retag n)) (st.rebinds n r.tags)) : callF P n f args st K := by
  obtain ⟨ps, g1, g2⟩ := Option.bind_eq_some_iff.1 h1
  refine .inl ?_
  rw [g1]
  exact .inl ⟨ds, r, h, h2, .inl ⟨g2, h3, hK⟩⟩
/-- The same: what is handed in (the rows F) stays as it is from now on. -/
theorem use_Z {f : Nat} {args : List Opd} {st : St} {ds : List D} {r : PV} {K : PV → St → Prop} (F : List Tg) (h : EvF P f ds r) (h1 : (valsO st.val args).bind PV.toDL = some ds) (hF : (valsO st.val args).map PV.tagsL = some F) (h2 : r.rok = true) (hK : K (r.mapT (retag n)) ((st.frz F).rebinds n r.tags)) : callF P n f args st K := by
  obtain ⟨ps, g1, g2⟩ := Option.bind_eq_some_iff.1 h1
  rw [g1] at hF
  simp only [Option.map_some, Option.some.injEq] at hF; subst hF
  refine .inl ?_
  rw [g1]
  exact .inl ⟨ds, r, h, h2, .inr ⟨g2, hK⟩⟩
/-- A call that is handed rows and boxes. -/
theorem use_G {f : Nat} {args : List Opd} {st : St} {ps : List PV} {bx : List (Tg × List PV)} {r : PV} {bx' : List (Tg × List PV)} {K : PV → St → Prop} (h : EvG P f ps bx r bx') (ρ : List (Tg × Tg)) (F : List Tg) (h1 : (ρ.map Prod.snd).Nodup) (h2 : upIn ρ bx = true) (h3 : r.gok ρ = true) (h4 : gokB ρ bx' = true)
    (h5 : match valsO ((st.frz F).rebinds n (r.tags ++ tagsB bx')).val args with
      | some as => PV.leL (gvR ρ) (gvB ρ) as ps
      | none => False) (h6 : leBx (gvR ρ) (gvB ρ) ((st.frz F).rebinds n (r.tags ++ tagsB bx')) bx)
    (hK : K (r.mapT (sgF ρ n)) (((st.frz F).rebinds n (r.tags ++ tagsB bx')).give ρ n bx')) : callF P n f args st K := by
  split at h5
  · rename_i as g1
    exact .inr ⟨ps, bx, r, bx', ρ, F, as, h, h1, h2, h3, h4, g1, h6, .inl h5, hK⟩
  · exact h5.elim
/-- The same: data that are handed in stay the caller's. -/
theorem use_B {f : Nat} {args : List Opd} {st : St} {ps : List PV} {bx : List (Tg × List PV)} {r : PV} {bx' : List (Tg × List PV)} {K : PV → St → Prop} (h : EvG P f ps bx r bx') (ρ : List (Tg × Tg)) (h1 : (ρ.map Prod.snd).Nodup) (h2 : upIn ρ bx = true) (h3 : r.gok ρ = true) (h4 : gokB ρ bx' = true)
    (h5 : match valsO (st.rebinds n (r.tags ++ tagsB bx')).val args with
      | some as => argsB (ρ.map Prod.snd) (gvR ρ) (gvB ρ) as ps
      | none => False) (h6 : leBx (gvR ρ) (gvB ρ) (st.rebinds n (r.tags ++ tagsB bx')) bx) (h8 : r.noLst) (h9 : noLstB bx')
    (hK : K (r.mapT (sgF ρ n)) ((st.rebinds n (r.tags ++ tagsB bx')).give ρ n bx')) : callF P n f args st K := by
  split at h5
  · rename_i as g1
    exact .inr ⟨ps, bx, r, bx', ρ, [], as, h, h1, h2, h3, h4, g1, h6, .inr ⟨h5, h8, h9⟩, hK⟩
  · exact h5.elim

/-- One result. -/
theorem ret1 {m : Nat} {r p : PV} (ρ : List (Tg × Tg)) (hg : getL m tm = some p) (hle : St.le ρ ⟨[(0, p)], bx⟩ ⟨[(0, r)], []⟩) : RetOK [.t m] r [] .ret ⟨tm, bx⟩ := by
  refine ⟨trivial, ?_⟩
  simp only [resP, resL, St.get, hg]
  exact ⟨trivial, ρ, hle⟩
/-- Results of any number. -/
theorem retN {res : List RV} {r p : PV} {c : Prop} (ρ : List (Tg × Tg)) (hg : resP res ⟨tm, bx⟩ = some (c, p)) (hc : c) (hle : St.le ρ ⟨[(0, p)], bx⟩ ⟨[(0, r)], []⟩) : RetOK res r [] .ret ⟨tm, bx⟩ := by
  refine ⟨trivial, ?_⟩
  simp only [hg]
  exact ⟨hc, ρ, hle⟩

/-- Rows of whole numbers. -/
abbrev ints (k : IntKind) (l : List Int) : List D := l.map (D.int k)

theorem getD_ints {k : IntKind} {l : List Int} {i : Nat} (h : i < l.length) : getD' (ints k l) i = .int k (l.getD i 0) := by
  simp [getD', ints, h]
theorem getD_ints' {k : IntKind} {l : List Int} {i : Int} (h0 : 0 ≤ i) (h : i < (l.length : Int)) : getD' (ints k l) i.toNat = .int k (l.getD i.toNat 0) := getD_ints (by omega)
theorem cells_int {k : IntKind} {x : Int} : D.cells (.int k x) = [.int k x] := rfl
theorem getD_one {x : D} : getD' [x] 0 = x := rfl
theorem len_ints {k : IntKind} {l : List Int} : (ints k l).length = l.length := by simp [ints]
theorem sz_ints {k : IntKind} {l : List Int} : ∀ e ∈ ints k l, e.sz = 1 := by
  intro e he; simp only [ints, List.mem_map] at he; obtain ⟨x, _, rfl⟩ := he; rfl
theorem flat_ints {k : IntKind} {l : List Int} : ∀ e ∈ ints k l, e.flatD := by
  intro e he; simp only [ints, List.mem_map] at he; obtain ⟨x, _, rfl⟩ := he; simp [D.flatD]

/-- A loop, with what holds of the members met. -/
theorem loop_inv {ι : Type} {a : AC} {P : Program} {N : Nat} {Q : Kd → St → Prop} (S : ι → St) (I : ι → Prop) (μ : ι → Nat) (x : ι) (h0 : I x) {st : St} (ρ : List (Tg × Tg)) (hx : St.le ρ st (S x))
    (h : ∀ x, I x → vc P N a (S x) fun k st' => match k with | .norm => ∃ y ρ, (I y ∧ μ y < μ x) ∧ St.le ρ st' (S y) | k => Q k st') : EvC P N (.loop a) st Q :=
  loop_of (ι := {x // I x}) (fun x => S x.1) (fun x => μ x.1) ⟨x, h0⟩ ρ hx fun x => by
    have := h x.1 x.2
    refine (?_ : (fun (R : Kd → St → Prop) => vc P N a (S x.1) R) _)
    refine cast (congrArg (fun R => vc P N a (S x.1) R) ?_) this
    funext k st'
    cases k with
    | norm =>
      simp only
      apply propext
      constructor
      · rintro ⟨y, ρ, ⟨h1, h2⟩, h3⟩; exact ⟨⟨y, h1⟩, ρ, h2, h3⟩
      · rintro ⟨⟨y, h1⟩, ρ, h2, h3⟩; exact ⟨y, ρ, ⟨h1, h2⟩, h3⟩
    | _ => rfl

end
end Go.Proofs.Ytelobmiooldoaaa.Abs
