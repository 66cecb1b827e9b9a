/- The computed part of a walk: many steps at once, up to what cannot be computed. Conditions: none. -/
import Derived.Test.YtaghpancpfpnhaaAbsG1
namespace Go.Proofs.Ytaghpancpfpnhaa.Abs
open Go Go.RowKit
set_option linter.unusedVariables false
set_option linter.unusedSimpArgs false

/-- Are an operation's terms sure, by computing? -/
def cck (op : AOp) (f : Opd → Option PV) (bx : Tg → Option (List PV)) : Bool :=
  match op with
  | .mov _ | .convI _ _ | .nilck _ | .mkif _ _ | .mkfn _ _ _ | .fieldA _ _ | .extract _ _ | .len _ | .lenS _ | .build _ _ | .mnmx _ _ _ | .tass _ _ _ | .un _ _ | .pick _ _ _ => true
  | .bin op bt x y => match op with
    | .quo | .rem => match f y with
      | some (.d (.int _ n)) => decide (n ≠ 0)
      | _ => false
    | .shl | .shr => match f y with
      | some (.d (.int _ n)) => decide (0 ≤ n)
      | _ => false
    | _ => true
  | .field ag off sz x => match f x with
    | some (.d (.agg cs)) => bif ag then decide (off + sz ≤ cs.length) else decide (off < cs.length)
    | some (.agg cs) => bif ag then decide (off + sz ≤ cs.length) else decide (off < cs.length)
    | _ => false
  | .load ag sz a => match f a with
    | some (.ptr k o) => match bx k with
      | some cs => bif ag then decide (o + sz ≤ cs.length) else decide (o < cs.length)
      | none => false
    | some (.ep t sz' i g (some e)) => bif ag then decide (g.getD 0 + sz ≤ e.cells.length) else decide (g.getD 0 < e.cells.length)
    | some (.d (.cp cs g)) => bif ag then decide (g + sz ≤ cs.length) else decide (g < cs.length)
    | _ => false
  | .idxAr _ len _ i => match ix f i with
    | some (_, n) => decide (0 ≤ n) && decide (n < (len : Int))
    | none => false
  | _ => false

theorem nilTest_true {bt : BT} {a : PV} {c : Prop} {n : Bool} (h : nilTest bt a = some (c, n)) : c := by
  unfold nilTest at h
  split at h <;> first | (cases h; trivial) | (cases h)

theorem sRes_true {op : BinOp} {x y : ByteArray} {c : Prop} {v : D} (h : sRes op x y = some (c, v)) : c := by
  cases op <;> first | (cases h; trivial) | cases h

theorem cck_sound {op : AOp} {f : Opd → Option PV} {bx : Tg → Option (List PV)} {c : Prop} {v : PV} (hr : rop op f bx = some (c, v)) (hc : cck op f bx = true) : c := by
  cases op with
  | mov x => simp only [rop, Option.some.injEq, Prod.mk.injEq] at hr; obtain ⟨rfl, _⟩ := hr; trivial
  | convI k x => simp only [rop] at hr; split at hr <;> first | (simp only [Option.some.injEq, Prod.mk.injEq] at hr; obtain ⟨rfl, _⟩ := hr; trivial) | cases hr
  | nilck x => simp only [rop] at hr; split at hr <;> first | (simp only [Option.some.injEq, Prod.mk.injEq] at hr; obtain ⟨rfl, _⟩ := hr; trivial) | cases hr
  | mkif t x => simp only [rop] at hr; split at hr <;> first | (simp only [Option.some.injEq, Prod.mk.injEq] at hr; obtain ⟨rfl, _⟩ := hr; trivial) | cases hr
  | mkfn fn a b => simp only [rop] at hr; split at hr <;> first | (simp only [Option.some.injEq, Prod.mk.injEq] at hr; obtain ⟨rfl, _⟩ := hr; trivial) | cases hr
  | fieldA o x => simp only [rop] at hr; split at hr <;> first | (simp only [Option.some.injEq, Prod.mk.injEq] at hr; obtain ⟨rfl, _⟩ := hr; trivial) | cases hr
  | len x => simp only [rop] at hr; split at hr <;> first | (simp only [Option.some.injEq, Prod.mk.injEq] at hr; obtain ⟨rfl, _⟩ := hr; trivial) | cases hr
  | lenS x => simp only [rop] at hr; split at hr <;> first | (simp only [Option.some.injEq, Prod.mk.injEq] at hr; obtain ⟨rfl, _⟩ := hr; trivial) | cases hr
  | mnmx m x y => simp only [rop] at hr; split at hr <;> first | (simp only [Option.some.injEq, Prod.mk.injEq] at hr; obtain ⟨rfl, _⟩ := hr; trivial) | cases hr
  | pick a b d => simp only [rop] at hr; split at hr <;> first | (simp only [Option.some.injEq, Prod.mk.injEq] at hr; obtain ⟨rfl, _⟩ := hr; trivial) | cases hr
  | extract x j =>
    simp only [rop] at hr
    split at hr
    · split at hr
      · simp only [Option.some.injEq, Prod.mk.injEq] at hr; obtain ⟨rfl, _⟩ := hr; trivial
      · cases hr
    · cases hr
  | tass x t ok =>
    simp only [rop] at hr
    split at hr
    · split at hr
      · simp only [Option.some.injEq, Prod.mk.injEq] at hr; obtain ⟨rfl, _⟩ := hr; trivial
      · cases hr
    · split at hr
      · simp only [Option.some.injEq, Prod.mk.injEq] at hr; obtain ⟨rfl, _⟩ := hr; trivial
      · cases hr
    · cases hr
  | build z parts =>
    simp only [rop] at hr
    split at hr
    · simp only [Option.map_eq_some_iff, Prod.mk.injEq] at hr; obtain ⟨_, _, rfl, _⟩ := hr; trivial
    · cases hr
  | un op x =>
    simp only [rop] at hr
    split at hr
    · unfold absUn at hr
      split at hr <;> first | (simp only [Option.some.injEq, Prod.mk.injEq] at hr; obtain ⟨rfl, _⟩ := hr; trivial) | cases hr
    · cases hr
  | bin op bt x y =>
    simp only [rop] at hr
    split at hr
    · rename_i a b h1 h2
      unfold absBin at hr
      split at hr
      · rename_i k x k' y
        simp only [cck, h2] at hc
        split at hr
        · simp only [Option.some.injEq, Prod.mk.injEq] at hr; obtain ⟨rfl, _⟩ := hr; simpa using hc
        · simp only [Option.some.injEq, Prod.mk.injEq] at hr; obtain ⟨rfl, _⟩ := hr; simpa using hc
        · split at hr
          · simp only [Option.map_eq_some_iff, Prod.mk.injEq] at hr
            obtain ⟨q, h3, h4, _⟩ := hr
            subst h4
            cases op <;> simp only [iRes, Option.some.injEq] at h3 <;> first | (subst h3; trivial) | (subst h3; simpa using hc) | cases h3
          · cases hr
      · split at hr <;> first | (simp only [Option.some.injEq, Prod.mk.injEq] at hr; obtain ⟨rfl, _⟩ := hr; trivial) | cases hr
      · simp only [Option.map_eq_some_iff, Prod.mk.injEq] at hr
        obtain ⟨q, h3, h4, _⟩ := hr
        subst h4
        exact sRes_true h3
      · split at hr
        · rename_i g1 g2; simp only [Option.some.injEq, Prod.mk.injEq] at hr; obtain ⟨rfl, _⟩ := hr; exact nilTest_true g1
        · rename_i g1 g2; simp only [Option.some.injEq, Prod.mk.injEq] at hr; obtain ⟨rfl, _⟩ := hr; exact nilTest_true g1
        · cases hr
    · cases hr
  | field ag off sz x =>
    simp only [rop] at hr
    simp only [cck] at hc
    split at hr
    · rename_i cs h1
      rw [h1] at hc
      cases ag <;> simp at hr hc <;> exact hr.1.mp hc
    · rename_i cs h1
      rw [h1] at hc
      cases ag <;> simp at hr hc <;> exact hr.1.mp hc
    · cases hr
  | load ag sz a =>
    simp only [rop] at hr
    simp only [cck] at hc
    split at hr
    · rename_i k o h1
      rw [h1] at hc
      split at hr
      · rename_i cs h2
        simp only [h2] at hc
        cases ag <;> simp at hr hc <;> exact hr.1.mp hc
      · cases hr
    · rename_i t sz' i g e h1
      rw [h1] at hc
      cases ag <;> simp at hr hc <;> exact hr.1.mp hc
    · rename_i cs g h1
      rw [h1] at hc
      cases ag <;> simp at hr hc <;> exact hr.1.mp hc
    · cases hr
  | idxAr sz len x i =>
    simp only [rop] at hr
    simp only [cck] at hc
    split at hr
    · rename_i h1 h2
      rw [h2] at hc
      simp at hr hc; exact hr.1.mp hc
    · rename_i h1 h2
      rw [h2] at hc
      simp at hr hc; exact hr.1.mp hc
    · rename_i h1 h2
      rw [h2] at hc
      simp at hr hc; exact hr.1.mp hc
    · cases hr
  | _ => simp [cck] at hc

/-- Are a writing operation's terms sure, by computing? -/
def wck (op : AOp) (st : St) : Bool :=
  match op with
  | .alloc _ _ _ | .box _ _ => true
  | .bslice _ sz parts => match (valsO st.val parts).bind PV.toDL with
    | some es => es.all fun e => e.sz == sz
    | none => false
  | .store sz a x => match st.val a, st.val x with
    | some (.ptr k o), some p => match st.box k with
      | some cs => decide (o + sz ≤ cs.length) && p.cells.length == sz
      | none => false
    | _, _ => false
  | _ => false

theorem wck_sound {site : Nat} {op : AOp} {st st' : St} {c : Prop} {v : PV} (hr : wop site op st = some (c, v, st')) (hc : wck op st = true) : c := by
  cases op with
  | alloc e s z => simp only [wop, Option.some.injEq, Prod.mk.injEq] at hr; obtain ⟨rfl, _⟩ := hr; trivial
  | box e x =>
    simp only [wop] at hr
    split at hr
    · split at hr
      · simp only [Option.some.injEq, Prod.mk.injEq] at hr; obtain ⟨rfl, _⟩ := hr; trivial
      · cases hr
    · cases hr
  | bslice e sz parts =>
    simp only [wop] at hr
    simp only [wck] at hc
    split at hr
    · rename_i ps h1
      split at hr
      · rename_i es h2
        simp only [Option.some.injEq, Prod.mk.injEq] at hr; obtain ⟨rfl, _⟩ := hr
        simp only [h1, Option.bind_some, h2, List.all_eq_true, beq_iff_eq] at hc
        exact hc
      · cases hr
    · cases hr
  | store sz a x =>
    simp only [wop] at hr
    simp only [wck] at hc
    split at hr
    · rename_i k o p h1 h2
      rw [h1, h2] at hc
      split at hr
      · rename_i cs h3
        split at hr
        · simp only [Option.some.injEq, Prod.mk.injEq] at hr; obtain ⟨rfl, _⟩ := hr
          simp only [h3, Bool.and_eq_true, decide_eq_true_eq, beq_iff_eq] at hc
          exact hc
        · cases hr
      · cases hr
    · rename_i t s i f e p h1 h2
      rw [h1, h2] at hc; cases hc
    · cases hr
  | _ => simp [wck] at hc

/-- What an operation computes to. -/
def qop (n : Nat) (op : AOp) (st : St) : Option (PV × St) :=
  match rop op st.val st.box with
  | some (c, v) => bif cck op st.val st.box then some (v, st) else none
  | none => match wop (16 * n + 15) op st with
    | some (c, v, st') => bif wck op st then some (v, st') else none
    | none => none

theorem qop_sound {P : Program} {n : Nat} {op : AOp} {st st' : St} {v : PV} (h : qop n op st = some (v, st')) {K : PV → St → Prop} (hK : K v st') : stepK P n op st K := by
  unfold qop at h
  unfold stepK
  cases h1 : rop op st.val st.box with
  | some cv =>
    obtain ⟨c, u⟩ := cv
    rw [h1] at h
    simp only at h ⊢
    cases h2 : cck op st.val st.box with
    | true => rw [h2] at h; simp at h; obtain ⟨rfl, rfl⟩ := h; exact ⟨cck_sound h1 h2, hK⟩
    | false => rw [h2] at h; simp at h
  | none =>
    rw [h1] at h
    simp only at h ⊢
    cases h3 : wop (16 * n + 15) op st with
    | some cv =>
      obtain ⟨c, u, s⟩ := cv
      rw [h3] at h
      simp only at h ⊢
      cases h2 : wck op st with
      | true => rw [h2] at h; simp at h; obtain ⟨rfl, rfl⟩ := h; exact ⟨wck_sound h3 h2, hK⟩
      | false => rw [h2] at h; simp at h
    | none => rw [h3] at h; simp at h

theorem callWith_mono {P : Program} {n f : Nat} {ps : List PV} {st : St} {K K' : PV → St → Prop} (h : callWith P n f ps st K) (hk : ∀ v s, K v s → K' v s) : callWith P n f ps st K' := by
  obtain ⟨ds, r, h1, h2, h3⟩ := h
  refine ⟨ds, r, h1, h2, ?_⟩
  rcases h3 with ⟨g1, g2, g3⟩ | ⟨g1, g2⟩
  · exact .inl ⟨g1, g2, hk _ _ g3⟩
  · exact .inr ⟨g1, hk _ _ g2⟩

theorem stepK_mono {P : Program} {n : Nat} {op : AOp} {st : St} {K K' : PV → St → Prop} (h : stepK P n op st K) (hk : ∀ v s, K v s → K' v s) : stepK P n op st K' := by
  unfold stepK at h ⊢
  split at h
  · exact ⟨h.1, hk _ _ h.2⟩
  · split at h
    · exact ⟨h.1, hk _ _ h.2⟩
    · unfold callK at h ⊢
      split at h
      · rcases h with h | h
        · left
          split at h
          · exact callWith_mono h hk
          · exact h.elim
        · right
          obtain ⟨ps, bx, r, bx', ρ, F, as, g1, g2, g3, g4, g5, g6, g7, g8, g9⟩ := h
          exact ⟨ps, bx, r, bx', ρ, F, as, g1, g2, g3, g4, g5, g6, g7, g8, hk _ _ g9⟩
      · split at h
        · exact callWith_mono h hk
        · exact callWith_mono h hk
        · exact h.elim
      · split at h
        · exact ⟨fun e => hk _ _ (h.1 e), fun e b => hk _ _ (h.2 e b)⟩
        · exact h.elim
      · exact h.elim

theorem itK_mono {P : Program} {it : DIt} {st : St} {K K' : St → Prop} (h : itK P it st K) (hk : ∀ s, K s → K' s) : itK P it st K' := by
  unfold itK at h ⊢
  split at h
  · exact stepK_mono h fun v s hv => hk _ hv
  · unfold readK at h ⊢
    split at h
    · exact ⟨h.1, hk _ h.2⟩
    · exact h.elim

theorem vcOps_mono {P : Program} : ∀ {os : List AOper} {st : St} {K K' : St → Prop}, vcOps P os st K → (∀ s, K s → K' s) → vcOps P os st K'
  | [], st, K, K', h, hk => hk _ h
  | o :: r, st, K, K', h, hk => by
    simp only [vcOps] at h ⊢
    split
    · rename_i hg
      rw [hg] at h
      exact stepK_mono h fun v s hv => vcOps_mono hv hk
    · rename_i t b hg
      rw [hg] at h
      simp only at h
      split
      · rename_i g hget
        rw [hget] at h
        exact ⟨fun e => stepK_mono (h.1 e) fun v s hv => vcOps_mono hv hk, fun e => vcOps_mono (h.2 e) hk⟩
      · rename_i hget
        rw [hget] at h
        exact vcOps_mono h hk
      · rename_i h1 h2
        split at h
        · rename_i g hget; exact absurd hget (h1 g)
        · rename_i hget; exact absurd hget h2
        · exact h

/-- A drawn region without reads that may be late, as plain operations. -/
def plainD : List DIt → Option (List AOper)
  | [] => some []
  | it :: r => match it.stay, plainD r with
    | [], some os => match it.sync, it.o.op with
      | true, _ => some (it.o :: os)
      | false, .bin _ .slice _ _ => none
      | false, _ => if it.o.op.isR then some (it.o :: os) else none
    | _, _ => none

theorem readK_of {P : Program} {o : AOper} {st : St} {K : PV → St → Prop} (hR : o.op.isR = true) (hb : ∀ op x y, o.op ≠ .bin op .slice x y) (h : stepK P o.n o.op st K) : readK o st fun v => K v st := by
  unfold stepK at h
  unfold readK
  cases h1 : rop o.op st.val st.box with
  | some cv => rw [h1] at h; exact h
  | none =>
    rw [h1] at h
    simp only at h ⊢
    obtain ⟨dst, g, n, op⟩ := o
    simp only at *
    cases op <;> first | (simp [AOp.isR] at hR; done) | skip
    all_goals first
      | (simp only [wop, callK] at h; done)
      | skip
    all_goals simp only [wop, callK] at h
    all_goals first
      | exact h.elim
      | skip
    rename_i op bt x y
    cases bt <;> simp [ambNil] at h
    exact absurd rfl (hb op x y)

theorem plain_sound {P : Program} : ∀ {its : List DIt} {os : List AOper} {st : St} {K : St → Prop}, plainD its = some os → vcOps P os st K → vcDraw P its st K
  | [], os, st, K, h, hk => by simp only [plainD, Option.some.injEq] at h; subst h; exact hk
  | it :: r, os, st, K, h, hk => by
    simp only [plainD] at h
    cases hs : it.stay with
    | cons a b => rw [hs] at h; cases h
    | nil =>
      cases hp : plainD r with
      | none => rw [hs, hp] at h; cases h
      | some os' =>
        rw [hs, hp] at h
        simp only at h
        have step : os = it.o :: os' ∧ ∀ (st : St) (K : PV → St → Prop), stepK P it.o.n it.o.op st K → itK P it st (fun s => True ∧ ∃ v st', s = st'.putO it.o.dst v ∧ K v st') := by
          cases hsy : it.sync with
          | true =>
            rw [hsy] at h
            simp only [Option.some.injEq] at h
            refine ⟨h.symm, fun st K hK => ?_⟩
            unfold itK; rw [hsy]
            exact stepK_mono hK fun v st' hv => ⟨trivial, v, st', rfl, hv⟩
          | false =>
            rw [hsy] at h
            have hb : (∀ op x y, it.o.op ≠ .bin op .slice x y) ∧ it.o.op.isR = true ∧ os = it.o :: os' := by
              split at h
              · rename_i h1; cases h1
              · cases h
              · rename_i h1 h1'
                split at h
                · rename_i h2
                  simp only [Option.some.injEq] at h
                  exact ⟨fun op x y e => h1' op x y e, h2, h.symm⟩
                · cases h
            refine ⟨hb.2.2, fun st K hK => ?_⟩
            unfold itK; rw [hsy]
            have := readK_of hb.2.1 hb.1 hK
            unfold readK at this ⊢
            split at this
            · exact ⟨this.1, trivial, _, _, rfl, this.2⟩
            · exact this.elim
        obtain ⟨rfl, step⟩ := step
        simp only [vcDraw]
        simp only [vcOps] at hk
        split
        · rename_i hg
          rw [hg] at hk
          simp only at hk
          refine itK_mono (step st _ hk) ?_
          rintro s ⟨_, v, st', rfl, hv⟩
          rw [hs]
          exact ⟨trivial, plain_sound hp hv⟩
        · rename_i t b hg
          rw [hg] at hk
          simp only at hk
          split
          · rename_i g hget
            rw [hget] at hk
            refine ⟨fun e => itK_mono (step _ _ (hk.1 e)) ?_, fun e => ?_⟩
            · rintro s ⟨_, v, st', rfl, hv⟩
              rw [hs]
              exact ⟨trivial, plain_sound hp hv⟩
            · rw [hs]
              exact ⟨trivial, plain_sound hp (hk.2 e)⟩
          · rename_i hget
            rw [hget] at hk
            rw [hs]
            exact ⟨trivial, plain_sound hp hk⟩
          · rename_i h1 h2
            split at hk
            · rename_i g hget; exact absurd hget (h1 g)
            · rename_i hget; exact absurd hget h2
            · exact hk

/-- A drawn region without reads that may be late. -/
theorem EvC_draw_plain {P : Program} {N : Nat} {its : List DIt} {os : List AOper} {st : St} {R : Kd → St → Prop} (h : plainD its = some os) (hk : vcOps P os st (R .norm)) : EvC P N (.draw its) st R :=
  EvC_draw (plain_sound h hk)
end Go.Proofs.Ytaghpancpfpnhaa.Abs
