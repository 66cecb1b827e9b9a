/- Regions whose order is drawn: told. Conditions: none. -/
import Derived.Test.YtaghpancpfpnhaaAbsTa
namespace Go.Proofs.Ytaghpancpfpnhaa.Abs
open Go Go.RowKit
set_option linter.unusedVariables false
set_option linter.unusedSimpArgs false

/-- The run of a drawn region against the order that stands for all. -/
structure Sim (P : Program) (N : Nat) (E0 : Env) (w0 : World) (d0 : List Deferred) (ops : Array Oper) (tb : List (List Nat)) (dn : List (Nat × Bool)) (listed : Array Bool) (a : Act) (w : World) (as : Act) (E : Env) (st : St) : Prop where
  told : Told N E0 w0 d0 E w st as
  sub : ∀ i, i < ops.size → listed.getD i true = true → i ∈ dn.map Prod.fst
  sync : ∀ i, (i, true) ∈ dn → listed.getD i true = true
  closed : ∀ i, i < ops.size → listed.getD i true = true → ∀ j ∈ tb.getD i [], listed.getD j true = true
  size : listed.size = ops.size
  tsz : a.tmps.size = as.tmps.size
  dfs : a.defers = as.defers
  same : ∀ d, (∀ i o, i ∈ dn.map Prod.fst → listed.getD i true = false → ops[i]? = some o → o.dst ≠ some d) → as.tmps[d]? = a.tmps[d]?
  prom : ∀ i o, i ∈ dn.map Prod.fst → listed.getD i true = false → ops[i]? = some o → Prom P ops o as w

section
variable {P : Program} {N : Nat} {ops : Array Oper} {tb : List (List Nat)} {al : List AOper} {ord dn todo : List (Nat × Bool)} {listed : Array Bool}

theorem okOrd_split : ∀ {l1 : List (Nat × Bool)} {i : Nat} {s : Bool} {l2 : List (Nat × Bool)}, okOrd ops tb (l1 ++ (i, s) :: l2) = true →
    (∀ q ∈ l2, q.1 ∉ preds ops i ∧ q.1 ≠ i ∧ (s = true → i ∈ tb.getD q.1 []) ∧ (s = false → pairB ops tb i q.1 q.2 = true)) ∧ (s = false → ∃ o, ops[i]? = some o ∧ selfB ops o = true)
  | [], i, s, l2, h => by
    simp only [List.nil_append, okOrd, Bool.and_eq_true, List.all_eq_true, Bool.or_eq_true] at h
    obtain ⟨⟨h1, h2⟩, _⟩ := h
    refine ⟨fun q hq => ?_, fun hs => ?_⟩
    · have := h1 q hq
      cases s
      · simp only [Bool.and_eq_true, Bool.not_eq_true', bne_iff_ne, ne_eq, Bool.false_eq_true, if_false] at this
        refine ⟨fun hc => ?_, this.1.2, fun h => (by cases h), fun _ => this.2⟩
        have h3 := this.1.1; simp [hc] at h3
      · simp only [Bool.and_eq_true, Bool.not_eq_true', bne_iff_ne, ne_eq, if_true] at this
        refine ⟨fun hc => ?_, this.1.2, fun _ => by have := this.2; simpa using this, fun h => by cases h⟩
        have h3 := this.1.1; simp [hc] at h3
    · subst hs
      rcases h2 with h2 | h2
      · cases h2
      · cases ho : ops[i]? with
        | none => simp [ho] at h2
        | some o => exact ⟨o, rfl, by simpa [ho] using h2⟩
  | q :: l1, i, s, l2, h => by
    obtain ⟨i', s'⟩ := q
    simp only [List.cons_append, okOrd, Bool.and_eq_true] at h
    exact okOrd_split h.2

/-- Two of an order: one is ahead of the other. -/
theorem ahead : ∀ {l : List (Nat × Bool)} {p q : Nat × Bool}, p ∈ l → q ∈ l → p ≠ q → (∃ l1 l2, l = l1 ++ p :: l2 ∧ q ∈ l2) ∨ (∃ l1 l2, l = l1 ++ q :: l2 ∧ p ∈ l2)
  | [], p, q, hp, _, _ => by simp at hp
  | x :: l, p, q, hp, hq, hne => by
    rcases List.mem_cons.1 hp with h1 | hp <;> rcases List.mem_cons.1 hq with h2 | hq
    · exact absurd (h1.trans h2.symm) hne
    · exact .inl ⟨[], l, by rw [h1]; rfl, hq⟩
    · exact .inr ⟨[], l, by rw [h2]; rfl, hp⟩
    · rcases ahead hp hq hne with ⟨l1, l2, h1, h2⟩ | ⟨l1, l2, h1, h2⟩
      · exact .inl ⟨x :: l1, l2, by rw [h1]; rfl, h2⟩
      · exact .inr ⟨x :: l1, l2, by rw [h1]; rfl, h2⟩

theorem noAnti_spec {x y : Oper} (h : noAnti ops x y = true) : ∀ d, y.dst = some d → d ∉ x.looksAt ops ∧ x.dst ≠ some d := by
  intro d hd
  simp only [noAnti, hd, Bool.and_eq_true, Bool.not_eq_true', bne_iff_ne, ne_eq] at h
  refine ⟨fun hc => ?_, h.2⟩
  have := h.1; simp [hc] at this
theorem selfB_spec {x : Oper} (h : selfB ops x = true) : ∀ d, x.dst = some d → d ∉ x.looksAt ops := by
  intro d hd hc
  simp only [selfB, hd] at h
  simp [hc] at h

/-- A read and an operation behind it: the later one's slot is no business of the read's, unless the read has run by then. -/
theorem pairB_spec {i j : Nat} {sj : Bool} (h : pairB ops tb i j sj = true) {x y : Oper} (hx : ops[i]? = some x) (hy : ops[j]? = some y) :
    (i ∈ tb.getD j [] ∧ (sj = true ∨ ∀ d, y.dst = some d → d ∉ x.looksAt ops ∧ x.dst ≠ some d)) ∨ (i ∉ tb.getD j [] ∧ x.apart ops y = true) := by
  unfold pairB at h
  rw [hx, hy] at h
  simp only at h
  split at h
  · rename_i hc
    refine .inl ⟨by simpa using hc, ?_⟩
    simp only [Bool.or_eq_true] at h
    exact h.imp id noAnti_spec
  · rename_i hc
    exact .inr ⟨by simpa using hc, h⟩

/-- What an operation looks at is the same: so is what it comes to. -/
theorem agree {o : Oper} (hs : ∀ cs b, o.op ≠ .select cs b) {a as : Act} (h : ∀ t ∈ o.looksAt ops, as.tmps[t]? = a.tmps[t]?) :
    execOp a.eval o = execOp as.eval o ∧ Region.wanted o (yielded ops a.tmps) = Region.wanted o (yielded ops as.tmps) := by
  constructor
  · refine execOp_congr o hs fun x hx => ?_
    cases x with
    | tmp t =>
      have := h t (List.mem_append_left _ (List.mem_filterMap.2 ⟨.tmp t, by simpa using hx, rfl⟩))
      simp only [Act.eval, Array.getD_eq_getD_getElem?, this]
    | _ => rfl
  · unfold Region.wanted
    cases hg : o.guard with
    | none => rfl
    | some gw =>
      obtain ⟨g, want⟩ := gw
      have hy : yielded ops a.tmps g = yielded ops as.tmps g := by
        unfold yielded
        cases ht : (ops[g]?).bind (·.dst) with
        | none => rfl
        | some t =>
          have := h t (by simp [Oper.looksAt, hg, ht])
          simp [this]
      simp only [hy]

theorem ready_spec {i : Nat} (h : i ∈ Region.ready .any ops listed) : i < ops.size ∧ listed.getD i true = false ∧ ∀ j ∈ preds ops i, listed.getD j true = true := by
  obtain ⟨h1, o, h2, h3⟩ := mem_ready.1 h
  refine ⟨(Array.getElem?_eq_some_iff.1 h2).1, h1, fun j hj => ?_⟩
  simp only [preds, h2, List.mem_map, List.mem_filter] at hj
  obtain ⟨e, ⟨he, hb⟩, rfl⟩ := hj
  have := h3 e (by simpa using he) hb
  simp only [Array.getD_eq_getD_getElem?] at this ⊢
  cases hl : listed[e.on]? with
  | none => simp
  | some v => simpa [hl] using this

theorem closed_ready (hc : closedB ops tb = true) {i : Nat} (hi : i < ops.size) (hcl : ∀ i, i < ops.size → listed.getD i true = true → ∀ j ∈ tb.getD i [], listed.getD j true = true)
    (hp : ∀ j ∈ preds ops i, listed.getD j true = true) (htb : ∀ p, ops.size ≤ p → tb.getD p [] = []) : ∀ j ∈ tb.getD i [], listed.getD j true = true := by
  intro j hj
  have := List.all_eq_true.1 (List.all_eq_true.1 hc i (List.mem_range.2 hi)) j hj
  simp only [Bool.or_eq_true, List.any_eq_true] at this
  rcases this with h | ⟨p, h1, h2⟩
  · exact hp j (by simpa using h)
  · by_cases hps : p < ops.size
    · exact hcl p hps (hp p h1) j (by simpa using h2)
    · rw [htb p (by omega)] at h2; simp at h2

/-- What a drawn region's check says. -/
structure DStat (ops : Array Oper) (tb : List (List Nat)) (ord : List (Nat × Bool)) : Prop where
  cover : ∀ i, i < ops.size → i ∈ ord.map Prod.fst
  lt : ∀ q ∈ ord, q.1 < ops.size
  closed : closedB ops tb = true
  ok : okOrd ops tb ord = true
  sel : ∀ (i : Nat) (o : Oper) (cs : Array SelectCase) (b : Bool), ops[i]? = some o → o.op ≠ .select cs b
  tbn : ∀ p, ops.size ≤ p → tb.getD p [] = []
  topo : topoB ops [] ord = true

theorem late_before (hS : DStat ops tb ord) {l1 l2 : List (Nat × Bool)} {i j : Nat} {si : Bool} (ho : ord = l1 ++ (j, false) :: l2) (hi : (i, si) ∈ l2) {x y : Oper} (hx : ops[j]? = some x) (hy : ops[i]? = some y)
    (hj : j ∉ tb.getD i []) : x.apart ops y = true := by
  have h1 := hS.ok
  rw [ho] at h1
  have := ((okOrd_split h1).1 _ hi).2.2.2 rfl
  rcases pairB_spec this hx hy with ⟨h2, _⟩ | ⟨_, h2⟩
  · exact absurd h2 hj
  · exact h2

theorem late_after (hS : DStat ops tb ord) {l1 l2 : List (Nat × Bool)} {i j : Nat} (ho : ord = l1 ++ (i, false) :: l2) (hi : (j, false) ∈ l2) {x y : Oper} (hx : ops[i]? = some x) (hy : ops[j]? = some y) :
    ∀ d, y.dst = some d → d ∉ x.looksAt ops ∧ x.dst ≠ some d := by
  have h1 := hS.ok
  rw [ho] at h1
  have := ((okOrd_split h1).1 _ hi).2.2.2 rfl
  rcases pairB_spec this hx hy with ⟨_, h2⟩ | ⟨_, h2⟩
  · exact h2.resolve_left (by simp)
  · obtain ⟨g1, g2, g3⟩ := Oper.apart_spec h2
    exact fun d hd => ⟨g3 d hd, fun hx' => g2 d hx' hd⟩

theorem DStat.self (hS : DStat ops tb ord) {i : Nat} (hi : (i, false) ∈ ord) {x : Oper} (hx : ops[i]? = some x) : ∀ d, x.dst = some d → d ∉ x.looksAt ops := by
  obtain ⟨l1, l2, ho⟩ := List.append_of_mem hi
  have h1 := hS.ok
  rw [ho] at h1
  obtain ⟨o, h2, h3⟩ := (okOrd_split h1).2 rfl
  rw [hx] at h2; cases h2
  exact selfB_spec h3

theorem mem_fst {i : Nat} {l : List (Nat × Bool)} (h : i ∈ l.map Prod.fst) : ∃ s, (i, s) ∈ l := by
  obtain ⟨⟨j, s⟩, h1, h2⟩ := List.mem_map.1 h
  simp only at h2; subst h2; exact ⟨s, h1⟩

theorem getD_set {listed : Array Bool} {i j : Nat} : (listed.setIfInBounds i true).getD j true = true ↔ listed.getD j true = true ∨ j = i := by
  simp only [Array.getD_eq_getD_getElem?, Array.getElem?_setIfInBounds]
  by_cases h : i = j
  · subst h
    by_cases h2 : i < listed.size <;> simp [h2]
  · simp only [h, if_false]
    constructor
    · exact .inl
    · rintro (h' | h')
      · exact h'
      · exact absurd h'.symm h

theorem getD_set_false {listed : Array Bool} {i j : Nat} : (listed.setIfInBounds i true).getD j true = false ↔ listed.getD j true = false ∧ j ≠ i := by
  have := getD_set (listed := listed) (i := i) (j := j)
  cases h1 : (listed.setIfInBounds i true).getD j true <;> cases h2 : listed.getD j true <;> simp [h1, h2] at this ⊢ <;> exact this

theorem Act.put_get (a : Act) (dst : Option Nat) (u : Value) (d : Nat) : (a.put dst u).tmps[d]? = if dst = some d ∧ d < a.tmps.size then some u else a.tmps[d]? := by
  cases dst with
  | none => simp [Act.put]
  | some e =>
    simp only [Act.put, Array.getElem?_setIfInBounds, Option.some.injEq]
    by_cases h : e = d
    · subst h
      by_cases h2 : e < a.tmps.size <;> simp [h2]
    · simp [h]

variable {E0 E : Env} {w0 w : World} {d0 : List Deferred} {a as : Act} {st : St}

/-- What a ready operation looks at is filled as it is. -/
theorem Sim.agrees (hS : DStat ops tb ord) (h : Sim P N E0 w0 d0 ops tb dn listed a w as E st) (hdn : ∃ r, ord = dn ++ r) {i : Nat} {si : Bool} (hi : (i, si) ∈ ord) (hr : i ∈ Region.ready .any ops listed) (hsi : si = false ∨ i ∉ dn.map Prod.fst)
    {x : Oper} (hx : ops[i]? = some x) :
    (∀ j y, j ∈ dn.map Prod.fst → listed.getD j true = false → j ≠ i → ops[j]? = some y → ∀ d, y.dst = some d → d ∉ x.looksAt ops ∧ x.dst ≠ some d) ∧ (∀ t ∈ x.looksAt ops, as.tmps[t]? = a.tmps[t]?) := by
  obtain ⟨hlt, hun, hpr⟩ := ready_spec hr
  have hcl := closed_ready hS.closed hlt h.closed hpr hS.tbn
  obtain ⟨r, hord⟩ := hdn
  have key : ∀ j y, j ∈ dn.map Prod.fst → listed.getD j true = false → j ≠ i → ops[j]? = some y → ∀ d, y.dst = some d → d ∉ x.looksAt ops ∧ x.dst ≠ some d := by
    intro j y hj hju hne hy d hd
    obtain ⟨s, hjs⟩ := mem_fst hj
    have hs : s = false := by
      cases s with
      | false => rfl
      | true => have := h.sync j hjs; rw [this] at hju; cases hju
    subst hs
    have hjo : (j, false) ∈ ord := by rw [hord]; exact List.mem_append_left _ hjs
    rcases ahead hjo hi (by intro e; cases e; exact hne rfl) with ⟨l1, l2, h1, h2⟩ | ⟨l1, l2, h1, h2⟩
    · have hap := late_before hS h1 h2 hy hx (fun hc => by have := hcl j hc; rw [this] at hju; cases hju)
      obtain ⟨g1, g2, g3⟩ := Oper.apart_spec hap
      exact ⟨g1 d hd, g2 d hd⟩
    · rcases hsi with rfl | hni
      · exact late_after hS h1 h2 hx hy d hd
      · -- i is ahead of j, and j is done: so is i
        exfalso
        have hok := hS.ok
        rw [h1] at hok
        obtain ⟨q1, q2⟩ := okOrd_split hok
        -- the place of j in ord is in dn
        have : (i, si) ∈ dn := by
          rw [hord] at h1
          rcases List.append_eq_append_iff.1 h1 with ⟨as', e1, e2⟩ | ⟨cs', e1, e2⟩
          · -- dn is within l1
            exfalso
            have hj1 : (j, false) ∈ l1 := by rw [e1]; exact List.mem_append_left _ hjs
            obtain ⟨m1, m2, hm⟩ := List.append_of_mem hj1
            have hok2 := hS.ok
            rw [hord, h1, hm] at hok2
            simp only [List.append_assoc, List.cons_append] at hok2
            exact ((okOrd_split hok2).1 (j, false) (by simp [h2])).2.1 rfl
          · cases cs' with
            | nil =>
              exfalso
              simp only [List.append_nil] at e1
              have hj1 : (j, false) ∈ l1 := by rw [← e1]; exact hjs
              obtain ⟨m1, m2, hm⟩ := List.append_of_mem hj1
              have hok2 := hS.ok
              rw [hord, h1, hm] at hok2
              simp only [List.append_assoc, List.cons_append] at hok2
              exact ((okOrd_split hok2).1 (j, false) (by simp [h2])).2.1 rfl
            | cons c cs' =>
              simp only [List.cons_append, List.cons.injEq] at e2
              rw [e1, ← e2.1]; simp
        exact hni (List.mem_map_of_mem (f := Prod.fst) this)
  refine ⟨key, fun t ht => h.same t fun j o hj hju ho hd => ?_⟩
  by_cases hne : j = i
  · subst hne
    rw [hx] at ho; cases ho
    rcases hsi with rfl | hni
    · exact hS.self hi hx t hd ht
    · exact hni hj
  · exact (key j o hj hju hne ho t hd).1 ht

/-- The machine runs a read that was to come. -/
theorem Sim.pick (hS : DStat ops tb ord) (h : Sim P N E0 w0 d0 ops tb dn listed a w as E st) (hdn : ∃ r, ord = dn ++ r) {i : Nat} (hi : (i, false) ∈ dn) (hr : i ∈ Region.ready .any ops listed) (hN : ∀ (i : Nat) (o : Oper), ops[i]? = some o → ∀ d, o.dst = some d → d < N)
    {K : Act → World → Prop} {Q : Exit → Act → World → Prop} (hK : ∀ a', Sim P N E0 w0 d0 ops tb dn (listed.setIfInBounds i true) a' w as E st → K a' w) : wpOp P ops Q i K a w := by
  obtain ⟨hlt, hun, hpr⟩ := ready_spec hr
  have hcl := closed_ready hS.closed hlt h.closed hpr hS.tbn
  have hio : (i, false) ∈ ord := by obtain ⟨r, hr⟩ := hdn; rw [hr]; exact List.mem_append_left _ hi
  have him : i ∈ dn.map Prod.fst := List.mem_map_of_mem (f := Prod.fst) hi
  obtain ⟨x, hx⟩ : ∃ x, ops[i]? = some x := ⟨ops[i], Array.getElem?_eq_getElem hlt⟩
  obtain ⟨hkey, hag⟩ := h.agrees hS hdn hio hr (.inl rfl) hx
  obtain ⟨he, hw⟩ := agree (hS.sel i x · · hx) hag
  obtain ⟨p1, p2⟩ := h.prom i x him hun hx
  have next : ∀ u, (∀ d, x.dst = some d → as.tmps[d]? = some u) → Sim P N E0 w0 d0 ops tb dn (listed.setIfInBounds i true) (a.put x.dst u) w as E st := by
    intro u hu
    refine ⟨h.told, fun j hj hl => ?_, fun j hj => getD_set.2 (.inl (h.sync j hj)), fun j hj hl k hk => ?_, by simp [h.size], ?_, ?_, fun d hd => ?_, fun j o hj hl ho => ?_⟩
    · rcases getD_set.1 hl with hl | rfl
      · exact h.sub j hj hl
      · exact him
    · rcases getD_set.1 hl with hl | rfl
      · exact getD_set.2 (.inl (h.closed j hj hl k hk))
      · exact getD_set.2 (.inl (hcl k hk))
    · have := h.tsz; cases hx' : x.dst <;> simpa [Act.put, hx'] using this
    · have := h.dfs; cases hx' : x.dst <;> simpa [Act.put, hx'] using this
    · rw [Act.put_get]
      split
      · rename_i hc; exact hu d hc.1
      · rename_i hc
        refine h.same d fun j o hj hl ho hod => ?_
        by_cases hji : j = i
        · subst hji
          rw [hx] at ho; cases ho
          exact hc ⟨hod, by rw [h.tsz, h.told.size]; exact hN j x hx d hod⟩
        · exact hd j o hj (getD_set_false.2 ⟨hl, hji⟩) ho hod
    · exact h.prom j o hj (getD_set_false.1 hl).1 ho
  unfold wpOp
  simp only [hx]
  cases hwt : Region.wanted x (yielded ops as.tmps) with
  | true =>
    obtain ⟨u, g1, g2⟩ := p1 hwt
    rw [hw, hwt, if_pos rfl]
    refine .inl ?_
    unfold Oper.wp
    rw [he, g1]
    exact hK _ (next u g2)
  | false =>
    rw [hw, hwt, if_neg (by simp)]
    exact hK _ (next undef (p2 hwt))

/-- A read that is not waited for is run in the thought act alone. -/
theorem readK_sound {o : Oper} {ao : AOper} (ht : trOp P o.op = some ao.op) (hv : Valid E w) (hs : StR E w st as.tmps) {K : PV → Prop} (h : readK ao st K) : ∃ u p, (execOp as.eval o).run P w = .ok (.value u) w ∧ VR E w p u ∧ K p := by
  unfold readK at h
  split at h
  · rename_i c v hr
    obtain ⟨u, h1, h2⟩ := rop_sound (opdR hs) hs.bxR ht hr h.1
    exact ⟨u, v, h1, h2, h.2⟩
  · exact h.elim

theorem Prom.same {x : Oper} {a1 a2 : Act} (hs : ∀ cs b, x.op ≠ .select cs b) (h : Prom P ops x a1 w) (h1 : ∀ t ∈ x.looksAt ops, a1.tmps[t]? = a2.tmps[t]?) (h2 : ∀ d, x.dst = some d → a2.tmps[d]? = a1.tmps[d]?) : Prom P ops x a2 w := by
  obtain ⟨he, hw⟩ := agree hs h1
  refine ⟨fun h' => ?_, fun h' d hd => ?_⟩
  · rw [hw] at h'
    obtain ⟨v, g1, g2⟩ := h.1 h'
    exact ⟨v, by rw [he]; exact g1, fun d hd => by rw [h2 d hd]; exact g2 d hd⟩
  · rw [hw] at h'
    rw [h2 d hd]; exact h.2 h' d hd

theorem Told.fill {x : Oper} (h : Told N E0 w0 d0 E w st as) (hN : ∀ d, x.dst = some d → d < N) {u : Value} (hu : ∀ d, x.dst = some d → ∀ p, (d, p) ∈ st.tm → VR E w p u) : Told N E0 w0 d0 E w st (as.put x.dst u) := by
  cases hd : x.dst with
  | none => exact h
  | some d => exact ⟨by simp [Act.put, h.size], h.defers, h.valid, h.str.fill (by rw [h.size]; exact hN d hd) (hu d hd), h.step⟩

theorem put_self_get {x : Oper} {u : Value} (hs : ∀ d, x.dst = some d → d < as.tmps.size) : ∀ d, x.dst = some d → (as.put x.dst u).tmps[d]? = some u := by
  intro d hd
  rw [Act.put_get, if_pos ⟨hd, hs d hd⟩]

/-- One read that may be to come is run in the thought act. -/
theorem holds_one {x : Oper} {ao : AOper} {m : Nat} (ht : trOper P N ops m x = some ao) (hself : ∀ d, x.dst = some d → d ∉ x.looksAt ops) (hsel : ∀ cs b, x.op ≠ .select cs b) (h : Told N E0 w0 d0 E w st as) (hh : Holds ao st) :
    ∃ u, Told N E0 w0 d0 E w st (as.put x.dst u) ∧ Prom P ops x (as.put x.dst u) w := by
  obtain ⟨g1, g2, g3, g4⟩ := trOper_parts ht
  have hsz : ∀ d, x.dst = some d → d < as.tmps.size := fun d hd => by rw [h.size]; exact g1 d hd
  have read : HoldsR ao st → Region.wanted x (yielded ops as.tmps) = true → ∃ u, Told N E0 w0 d0 E w st (as.put x.dst u) ∧ Prom P ops x (as.put x.dst u) w := by
    intro hr hw
    obtain ⟨u, p, k1, k2, k3⟩ := readK_sound g3 h.valid h.str hr
    refine ⟨u, h.fill g1 fun d hd q hq => ?_, fun _ => ⟨u, ?_, put_self_get hsz⟩, fun h' => ?_⟩
    · rw [g4, hd] at k3
      rw [onlyL_mem k3 hq]; exact k2
    · rw [execOp_put (ops := ops) x hsel as x.dst u hself]; exact k1
    · rw [wanted_put (ops := ops) x as x.dst u hself, hw] at h'; cases h'
  unfold Holds at hh
  split at hh
  · rename_i hg
    rw [hg] at g2
    exact read hh (wanted_none g2 _)
  · rename_i t b hg
    rw [hg] at g2
    split at hh
    · rename_i g hget
      obtain ⟨gv, hu1, hu2⟩ := h.str.get hget
      simp only [VR, DR] at hu2; subst hu2
      have hw := wanted_of g2 hu1
      by_cases hgb : g = b
      · exact read (hh.1 hgb) (by rw [hw]; simpa using hgb)
      · have hno := hh.2 (by cases g <;> cases b <;> simp_all)
        have hwf : Region.wanted x (yielded ops as.tmps) = false := by rw [hw]; simpa using hgb
        refine ⟨undef, h.fill g1 fun d hd q hq => ?_, fun h' => ?_, fun _ => put_self_get hsz⟩
        · rw [g4, hd] at hno
          rw [onlyL_mem hno hq]; exact vr_undef
        · rw [wanted_put (ops := ops) x as x.dst undef hself, hwf] at h'; cases h'
    · rename_i hget
      obtain ⟨gv, hu1, hu2⟩ := h.str.get hget
      have := undef_of hu2; subst this
      have hwf := wanted_undef g2 hu1
      refine ⟨undef, h.fill g1 fun d hd q hq => ?_, fun h' => ?_, fun _ => put_self_get hsz⟩
      · rw [g4, hd] at hh
        rw [onlyL_mem hh hq]; exact vr_undef
      · rw [wanted_put (ops := ops) x as x.dst undef hself, hwf] at h'; cases h'
    · exact hh.elim

/-- Two reads in their order. -/
def Late (ops : Array Oper) (j k : Nat) : Prop := ∀ x y, ops[j]? = some x → ops[k]? = some y → ∀ d, y.dst = some d → d ∉ x.looksAt ops ∧ x.dst ≠ some d

/-- All reads that may be to come are run anew in the thought act. -/
theorem refill {n : Nat} (hal : trOpers P N ops n ops.toList = some al) (hsel : ∀ (i : Nat) (o : Oper) (cs : Array SelectCase) (b : Bool), ops[i]? = some o → o.op ≠ .select cs b) : ∀ (js : List Nat) (as : Act), js.Pairwise (Late ops) → (∀ j ∈ js, ∃ x, ops[j]? = some x ∧ (∀ d, x.dst = some d → d ∉ x.looksAt ops) ∧ Holds (al.getD j default) st) →
    Told N E0 w0 d0 E w st as → ∃ as2, Told N E0 w0 d0 E w st as2 ∧ (∀ d, (∀ j ∈ js, ∀ x, ops[j]? = some x → x.dst ≠ some d) → as2.tmps[d]? = as.tmps[d]?) ∧ ∀ j ∈ js, ∀ x, ops[j]? = some x → Prom P ops x as2 w
  | [], as, hp, hh, hT => ⟨as, hT, fun _ _ => rfl, fun j hj => by simp at hj⟩
  | j :: js, as, hp, hh, hT => by
    rw [List.pairwise_cons] at hp
    obtain ⟨x, h1, h2, h3⟩ := hh j (by simp)
    obtain ⟨ao, k1, k2⟩ := trOpers_get hal j x (by simpa using h1)
    have hao : al.getD j default = ao := by simp [k1]
    rw [hao] at h3
    obtain ⟨u, g1, g2⟩ := holds_one k2 h2 (hsel j x · · h1) hT h3
    obtain ⟨as2, q1, q2, q3⟩ := refill hal hsel js (as.put x.dst u) hp.2 (fun i hi => hh i (by simp [hi])) g1
    refine ⟨as2, q1, fun d hd => ?_, fun i hi y hy => ?_⟩
    · rw [q2 d fun i hi y hy => hd i (by simp [hi]) y hy, Act.put_get, if_neg]
      rintro ⟨hx, _⟩; exact hd j (by simp) x h1 hx
    · rcases List.mem_cons.1 hi with rfl | hi
      · rw [h1] at hy; cases hy
        refine g2.same (hsel i x · · h1) (fun t ht => ?_) fun d hd => ?_
        · exact (q2 t fun k hk y hy hyd => (hp.1 k hk x y h1 hy t hyd).1 ht).symm
        · exact q2 d fun k hk y hy hyd => (hp.1 k hk x y h1 hy d hyd).2 hd
      · exact q3 i hi y hy

/-- The reads of an order, in order. -/
def reads (l : List (Nat × Bool)) : List Nat := (l.filter fun q => !q.2).map Prod.fst

theorem mem_reads {l : List (Nat × Bool)} {j : Nat} : j ∈ reads l ↔ (j, false) ∈ l := by
  simp only [reads, List.mem_map, List.mem_filter]
  constructor
  · rintro ⟨⟨k, b⟩, ⟨h1, h2⟩, rfl⟩
    cases b
    · exact h1
    · simp at h2
  · intro h; exact ⟨(j, false), ⟨h, rfl⟩, rfl⟩

theorem reads_late : ∀ {l : List (Nat × Bool)}, okOrd ops tb l = true → (reads l).Pairwise (Late ops)
  | [], _ => by simp [reads]
  | (i, true) :: l, h => by
    simp only [okOrd, Bool.and_eq_true] at h
    have := reads_late h.2
    simpa [reads] using this
  | (i, false) :: l, h => by
    have h' := h
    simp only [okOrd, Bool.and_eq_true] at h'
    have h2 := reads_late h'.2
    have h3 := (okOrd_split (l1 := []) h).1
    have h4 : reads ((i, false) :: l) = i :: reads l := by simp [reads]
    rw [h4, List.pairwise_cons]
    refine ⟨fun k hk x y hx hy d hd => ?_, h2⟩
    have := (h3 _ (mem_reads.1 hk)).2.2.2 rfl
    rcases pairB_spec this hx hy with ⟨_, g⟩ | ⟨_, g⟩
    · exact (g.resolve_left (by simp)) d hd
    · obtain ⟨g1, g2, g3⟩ := Oper.apart_spec g
      exact ⟨g3 d hd, fun hx' => g2 d hx' hd⟩

theorem HoldsAll_mem : ∀ {l : List AOper} {o : AOper} {st : St}, HoldsAll l st → o ∈ l → Holds o st
  | [], _, _, _, h => by simp at h
  | x :: l, o, st, hh, h => by
    simp only [HoldsAll] at hh
    rcases List.mem_cons.1 h with rfl | h
    · exact hh.1
    · exact HoldsAll_mem hh.2 h

theorem not_done (hS : DStat ops tb ord) {e : Nat} {s : Bool} {rest : List (Nat × Bool)} (ho : ord = dn ++ (e, s) :: rest) : e ∉ dn.map Prod.fst := by
  intro h
  obtain ⟨s', hs'⟩ := mem_fst h
  obtain ⟨m1, m2, hm⟩ := List.append_of_mem hs'
  have hok := hS.ok
  rw [ho, hm] at hok
  simp only [List.append_assoc, List.cons_append] at hok
  exact ((okOrd_split hok).1 (e, s) (by simp)).2.1 rfl

theorem pending_read (h : Sim P N E0 w0 d0 ops tb dn listed a w as E st) {j : Nat} (hj : j ∈ dn.map Prod.fst) (hu : listed.getD j true = false) : (j, false) ∈ dn := by
  obtain ⟨s, hs⟩ := mem_fst hj
  cases s with
  | false => exact hs
  | true => have := h.sync j hs; rw [this] at hu; cases hu

/-- Behind the operation that is waited for. -/
theorem Sim.behind (hS : DStat ops tb ord) (h : Sim P N E0 w0 d0 ops tb dn listed a w as E st) {e : Nat} {rest : List (Nat × Bool)} (ho : ord = dn ++ (e, true) :: rest) (hr : e ∈ Region.ready .any ops listed) {n : Nat} (hal : trOpers P N ops n ops.toList = some al)
    {x : Oper} (hx : ops[e]? = some x) {u : Value} {w' : World} {E' : Env} {st2 : St} (hT : Told N E0 w0 d0 E' w' st2 (as.put x.dst u)) (hH : HoldsAll (((reads dn).filter fun j => !(tb.getD e []).contains j).map fun j => al.getD j default) st2) :
    ∃ as2, Sim P N E0 w0 d0 ops tb (dn ++ [(e, true)]) (listed.setIfInBounds e true) (a.put x.dst u) w' as2 E' st2 := by
  obtain ⟨hlt, hun, hpr⟩ := ready_spec hr
  have hcl := closed_ready hS.closed hlt h.closed hpr hS.tbn
  have hne : e ∉ dn.map Prod.fst := not_done hS ho
  have hdo : ∀ q ∈ dn, q ∈ ord := fun q hq => by rw [ho]; exact List.mem_append_left _ hq
  obtain ⟨as2, q1, q2, q3⟩ := refill (st := st2) (w := w') (E := E') hal hS.sel (((reads dn).filter fun j => !(tb.getD e []).contains j).filter fun j => !listed.getD j true) (as.put x.dst u) (by
      have h1 := reads_late hS.ok
      have h2 : reads ord = reads dn ++ reads ((e, true) :: rest) := by rw [ho]; simp [reads]
      rw [h2] at h1
      exact ((List.pairwise_append.1 h1).1.filter _).filter _) (fun j hj => by
      simp only [List.mem_filter] at hj
      have hj1 := mem_reads.1 hj.1.1
      obtain ⟨y, hy⟩ : ∃ y, ops[j]? = some y := ⟨ops[j]'(hS.lt _ (hdo _ hj1)), Array.getElem?_eq_getElem _⟩
      exact ⟨y, hy, hS.self (hdo _ hj1) hy, HoldsAll_mem hH (List.mem_map_of_mem (List.mem_filter.2 hj.1))⟩) hT
  have inJ : ∀ j, j ∈ dn.map Prod.fst → listed.getD j true = false → j ∈ ((reads dn).filter fun j => !(tb.getD e []).contains j).filter fun j => !listed.getD j true := by
    intro j hj hu
    simp only [List.mem_filter]
    refine ⟨⟨mem_reads.2 (pending_read h hj hu), ?_⟩, by simp [hu]⟩
    simp only [Bool.not_eq_true']
    cases hc : (tb.getD e []).contains j with
    | false => rfl
    | true => have := hcl j (by simpa using hc); rw [this] at hu; cases hu
  have fromJ : ∀ j, j ∈ ((reads dn).filter fun j => !(tb.getD e []).contains j).filter (fun j => !listed.getD j true) → j ∈ dn.map Prod.fst ∧ listed.getD j true = false := by
    intro j hj
    simp only [List.mem_filter] at hj
    exact ⟨List.mem_map_of_mem (f := Prod.fst) (mem_reads.1 hj.1.1), by simpa using hj.2⟩
  have split : ∀ j, j ∈ (dn ++ [(e, true)]).map Prod.fst → j ∈ dn.map Prod.fst ∨ j = e := by
    intro j hj; simpa using hj
  refine ⟨as2, q1, fun j hj hl => ?_, fun j hj => ?_, fun j hj hl k hk => ?_, by simp [h.size], ?_, ?_, fun d hd => ?_, fun j o hj hl hoj => ?_⟩
  · rcases getD_set.1 hl with hl | rfl
    · have := h.sub j hj hl; simp only [List.map_append, List.mem_append]; exact .inl this
    · simp
  · rcases List.mem_append.1 hj with hj | hj
    · exact getD_set.2 (.inl (h.sync j hj))
    · simp at hj; exact getD_set.2 (.inr hj)
  · rcases getD_set.1 hl with hl | rfl
    · exact getD_set.2 (.inl (h.closed j hj hl k hk))
    · exact getD_set.2 (.inl (hcl k hk))
  · have h1 : (a.put x.dst u).tmps.size = a.tmps.size := by cases x.dst <;> simp [Act.put]
    rw [h1, h.tsz, h.told.size, q1.size]
  · have h1 : (a.put x.dst u).defers = a.defers := by cases x.dst <;> simp [Act.put]
    rw [h1, h.dfs, h.told.defers, q1.defers]
  · rw [q2 d fun j hj y hy => hd j y (by simpa using .inl (by simpa using (fromJ j hj).1)) (getD_set_false.2 ⟨(fromJ j hj).2, fun e' => by subst e'; exact hne (fromJ _ hj).1⟩) hy]
    rw [Act.put_get, Act.put_get, h.tsz]
    split
    · rfl
    · exact h.same d fun j o hj hl hoj => hd j o (by simp only [List.map_append, List.mem_append]; exact .inl hj) (getD_set_false.2 ⟨hl, fun e' => by subst e'; exact hne hj⟩) hoj
  · obtain ⟨hl, hje⟩ := getD_set_false.1 hl
    exact q3 j (inJ j ((split j hj).resolve_right hje) hl) o hoj

/-- A read is run in the thought act. -/
theorem Sim.ahead (hS : DStat ops tb ord) (h : Sim P N E0 w0 d0 ops tb dn listed a w as E st) {i : Nat} {rest : List (Nat × Bool)} (ho : ord = dn ++ (i, false) :: rest) {x : Oper} (hx : ops[i]? = some x) (hN : ∀ d, x.dst = some d → d < N) {u : Value} {st' : St}
    (hT : Told N E0 w0 d0 E w st' (as.put x.dst u)) (hP : Prom P ops x (as.put x.dst u) w) : Sim P N E0 w0 d0 ops tb (dn ++ [(i, false)]) listed a w (as.put x.dst u) E st' := by
  have hne : i ∉ dn.map Prod.fst := not_done hS ho
  have hio : (i, false) ∈ ord := by rw [ho]; simp
  have hun : listed.getD i true = false := by
    cases hl : listed.getD i true with
    | false => rfl
    | true => exact absurd (h.sub i (hS.lt _ hio) hl) hne
  refine ⟨hT, fun j hj hl => ?_, fun j hj => ?_, h.closed, h.size, ?_, ?_, fun d hd => ?_, fun j o hj hl hoj => ?_⟩
  · have := h.sub j hj hl; simp only [List.map_append, List.mem_append]; exact .inl this
  · rcases List.mem_append.1 hj with hj | hj
    · exact h.sync j hj
    · simp at hj
  · have h1 : (as.put x.dst u).tmps.size = as.tmps.size := by cases x.dst <;> simp [Act.put]
    rw [h1, h.tsz]
  · have h1 : (as.put x.dst u).defers = as.defers := by cases x.dst <;> simp [Act.put]
    rw [h1, h.dfs]
  · rw [Act.put_get, if_neg (fun hc => hd i x (by simp) hun hx hc.1)]
    exact h.same d fun j o hj hl hoj => hd j o (by simp only [List.map_append, List.mem_append]; exact .inl hj) hl hoj
  · have hj' : j ∈ dn.map Prod.fst ∨ j = i := by simpa using hj
    rcases hj' with hj' | rfl
    · have hjr := pending_read h hj' hl
      obtain ⟨m1, m2, hm⟩ := List.append_of_mem hjr
      have hla := late_after hS (l1 := m1) (l2 := m2 ++ (i, false) :: rest) (by rw [ho, hm]; simp) (by simp) hoj hx
      exact (h.prom j o hj' hl hoj).put (hS.sel j o · · hoj) u (fun d hd => (hla d hd).1) (fun d hd => (hla d hd).2)
    · rw [hx] at hoj; cases hoj; exact hP

theorem topo_split : ∀ {l1 : List (Nat × Bool)} {pl : List Nat} {i : Nat} {s : Bool} {l2 : List (Nat × Bool)}, topoB ops pl (l1 ++ (i, s) :: l2) = true → ∀ j ∈ preds ops i, j ∈ pl ∨ j ∈ l1.map Prod.fst
  | [], pl, i, s, l2, h, j, hj => by
    simp only [List.nil_append, topoB, Bool.and_eq_true, List.all_eq_true] at h
    exact .inl (by simpa using h.1 j hj)
  | (k, b) :: l1, pl, i, s, l2, h, j, hj => by
    simp only [List.cons_append, topoB, Bool.and_eq_true] at h
    rcases topo_split h.2 j hj with h1 | h1
    · rcases List.mem_cons.1 h1 with rfl | h1
      · simp
      · exact .inl h1
    · simp [h1]

theorem stat_of {tb : List (List Nat)} (h : drawOK ops tb ord = true) : DStat ops tb ord := by
  simp only [drawOK, Bool.and_eq_true, List.all_eq_true, decide_eq_true_eq] at h
  obtain ⟨⟨⟨⟨⟨⟨⟨h1, h2⟩, h3⟩, h4⟩, h5⟩, h6⟩, h7⟩, h8⟩ := h
  refine ⟨fun i hi => by simpa using h2 i (List.mem_range.2 hi), fun q hq => h3 q hq, h4, h5, fun i o cs b ho => Region.noSelect_spec h6 i o cs b ho, fun p hp => ?_, h7⟩
  simp [List.getElem?_eq_none (show tb.length ≤ p by omega)]

/-- Where nothing is ready, all has run. -/
theorem all_run (hS : DStat ops tb ord) (hsz : listed.size = ops.size) (hr : Region.ready .any ops listed = []) : ∀ l1 l2, ord = l1 ++ l2 → (∀ q ∈ l1, listed.getD q.1 true = true) → ∀ q ∈ l2, listed.getD q.1 true = true
  | l1, [], ho, h1, q, hq => by simp at hq
  | l1, (i, s) :: l2, ho, h1, q, hq => by
    have hi : listed.getD i true = true := by
      cases hl : listed.getD i true with
      | true => rfl
      | false =>
        exfalso
        have hlt := hS.lt (i, s) (by rw [ho]; simp)
        have : i ∈ Region.ready .any ops listed := by
          refine mem_ready.2 ⟨hl, ops[i], Array.getElem?_eq_getElem hlt, fun e he hb => ?_⟩
          have hj : e.on ∈ preds ops i := by
            simp only [preds, Array.getElem?_eq_getElem hlt, List.mem_map, List.mem_filter]
            exact ⟨e, ⟨by simpa using he, hb⟩, rfl⟩
          have ht := hS.topo
          rw [ho] at ht
          have := (topo_split ht _ hj).resolve_left (by simp)
          obtain ⟨s', hs'⟩ := mem_fst this
          have hlt' := hS.lt _ (show (e.on, s') ∈ ord by rw [ho]; exact List.mem_append_left _ hs')
          have h3 := h1 _ hs'
          simp only [Array.getD_eq_getD_getElem?] at h3 ⊢
          rw [Array.getElem?_eq_getElem (by rw [hsz]; exact hlt')] at h3 ⊢
          simpa using h3
        rw [hr] at this; simp at this
    rcases List.mem_cons.1 hq with rfl | hq
    · exact hi
    · exact all_run hS hsz hr (l1 ++ [(i, s)]) l2 (by rw [ho]; simp) (fun p hp => by
        rcases List.mem_append.1 hp with hp | hp
        · exact h1 p hp
        · simp at hp; subst hp; exact hi) q hq

def unl (n : Nat) (listed : Array Bool) : Nat := ((List.range n).filter fun i => !listed.getD i true).length

theorem unl_set {n i : Nat} (hi : i < n) (hl : listed.getD i true = false) : unl n (listed.setIfInBounds i true) + 1 = unl n listed := by
  have h1 : ((List.range n).filter fun j => !(listed.setIfInBounds i true).getD j true) = ((List.range n).filter fun j => !listed.getD j true).erase i := by
    rw [List.Nodup.erase_eq_filter (List.Pairwise.filter _ List.nodup_range), List.filter_filter]
    refine List.filter_congr fun j _ => ?_
    rw [Bool.eq_iff_iff]
    simp only [Bool.not_eq_true', Bool.and_eq_true, bne_iff_ne, ne_eq, getD_set_false]
    exact And.comm
  have hm : i ∈ (List.range n).filter fun j => !listed.getD j true := List.mem_filter.2 ⟨List.mem_range.2 hi, by simp [hl]⟩
  have := List.length_pos_of_mem hm
  unfold unl
  rw [h1, List.length_erase_of_mem hm]
  omega

theorem reads_snoc {l : List (Nat × Bool)} {i : Nat} : reads (l ++ [(i, false)]) = reads l ++ [i] := by simp [reads]
theorem reads_snocT {l : List (Nat × Bool)} {i : Nat} : reads (l ++ [(i, true)]) = reads l := by simp [reads]

/-- All reads that can be are run in the thought act. -/
theorem advance (hS : DStat ops tb ord) {n : Nat} (hal : trOpers P N ops n ops.toList = some al) {K : St → Prop} : ∀ todo dn as st, ord = dn ++ todo → Sim P N E0 w0 d0 ops tb dn listed a w as E st → vcDraw P (itsOf tb al (reads dn) todo) st K →
    ∃ dn' todo' as' st', ord = dn' ++ todo' ∧ Sim P N E0 w0 d0 ops tb dn' listed a w as' E st' ∧ vcDraw P (itsOf tb al (reads dn') todo') st' K ∧ (todo' = [] ∨ ∃ e r, todo' = (e, true) :: r)
  | [], dn, as, st, ho, h, hk => ⟨dn, [], as, st, ho, h, hk, .inl rfl⟩
  | (e, true) :: r, dn, as, st, ho, h, hk => ⟨dn, _, as, st, ho, h, hk, .inr ⟨e, r, rfl⟩⟩
  | (i, false) :: r, dn, as, st, ho, h, hk => by
    have hio : (i, false) ∈ ord := by rw [ho]; simp
    have hlt := hS.lt _ hio
    obtain ⟨x, hx⟩ : ∃ x, ops[i]? = some x := ⟨ops[i], Array.getElem?_eq_getElem hlt⟩
    obtain ⟨ao, k1, k2⟩ := trOpers_get hal i x (by simpa using hx)
    have hao : al.getD i default = ao := by simp [k1]
    obtain ⟨g1, g2, g3, g4⟩ := trOper_parts k2
    have hself := hS.self hio hx
    have hsel : ∀ cs b, x.op ≠ .select cs b := fun cs b => hS.sel i x cs b hx
    have hsz : ∀ d, x.dst = some d → d < as.tmps.size := fun d hd => by rw [h.told.size]; exact g1 d hd
    have go : ∀ u st', Told N E0 w0 d0 E w st' (as.put x.dst u) → Prom P ops x (as.put x.dst u) w → vcDraw P (itsOf tb al (reads dn ++ [i]) r) st' K →
        ∃ dn' todo' as' st', ord = dn' ++ todo' ∧ Sim P N E0 w0 d0 ops tb dn' listed a w as' E st' ∧ vcDraw P (itsOf tb al (reads dn') todo') st' K ∧ (todo' = [] ∨ ∃ e r, todo' = (e, true) :: r) := fun u st' hT hP hk' =>
      advance hS hal r (dn ++ [(i, false)]) (as.put x.dst u) st' (by rw [ho]; simp) (h.ahead hS ho hx g1 hT hP) (by rw [reads_snoc]; exact hk')
    have read : ∀ st, Told N E0 w0 d0 E w st as → itK P ⟨ao, false, []⟩ st (fun st2 => HoldsAll [] st2 ∧ vcDraw P (itsOf tb al (reads dn ++ [i]) r) st2 K) → Region.wanted x (yielded ops as.tmps) = true → 
        ∃ dn' todo' as' st', ord = dn' ++ todo' ∧ Sim P N E0 w0 d0 ops tb dn' listed a w as' E st' ∧ vcDraw P (itsOf tb al (reads dn') todo') st' K ∧ (todo' = [] ∨ ∃ e r, todo' = (e, true) :: r) := by
      intro st hT hr hw
      simp only [itK] at hr
      obtain ⟨u, p, q1, q2, q3⟩ := readK_sound g3 hT.valid hT.str hr
      refine go u (st.putO ao.dst p) ?_ ⟨fun _ => ⟨u, by rw [execOp_put (ops := ops) x hsel as x.dst u hself]; exact q1, put_self_get hsz⟩, fun h' => ?_⟩ q3.2
      · rw [g4]; exact hT.put g1 hT.valid q2 hT.str (Step.refl _ _)
      · rw [wanted_put (ops := ops) x as x.dst u hself, hw] at h'; cases h'
    simp only [itsOf, vcDraw, hao, Bool.false_eq_true, if_false] at hk
    split at hk
    · rename_i hg
      rw [hg] at g2
      exact read st h.told hk (wanted_none g2 _)
    · rename_i t b hg
      rw [hg] at g2
      split at hk
      · rename_i g hget
        obtain ⟨gv, hu1, hu2⟩ := h.told.str.get hget
        simp only [VR, DR] at hu2; subst hu2
        have hw := wanted_of g2 hu1
        by_cases hgb : g = b
        · exact read _ (h.told.lit (by rw [← hgb]; exact hu1)) (hk.1 hgb) (by rw [hw]; simpa using hgb)
        · have hgn : g = !b := by cases g <;> cases b <;> simp_all
          have hno := hk.2 hgn
          have hwf : Region.wanted x (yielded ops as.tmps) = false := by rw [hw]; simpa using hgb
          refine go undef ((st.lit t (!b)).putO ao.dst (.tup [])) ?_ ⟨fun h' => ?_, fun _ => put_self_get hsz⟩ hno.2
          · rw [g4]; exact (h.told.lit (by rw [← hgn]; exact hu1)).un g1
          · rw [wanted_put (ops := ops) x as x.dst undef hself, hwf] at h'; cases h'
      · rename_i hget
        obtain ⟨gv, hu1, hu2⟩ := h.told.str.get hget
        have := undef_of hu2; subst this
        have hwf := wanted_undef g2 hu1
        refine go undef (st.putO ao.dst (.tup [])) ?_ ⟨fun h' => ?_, fun _ => put_self_get hsz⟩ hk.2
        · rw [g4]; exact h.told.un g1
        · rw [wanted_put (ops := ops) x as x.dst undef hself, hwf] at h'; cases h'
      · exact hk.elim

/-- A drawn region: whichever order is drawn, it comes to what the one order comes to. -/
theorem sim_any (hS : DStat ops tb ord) {n : Nat} (hal : trOpers P N ops n ops.toList = some al) {K : St → Prop} {Q : Exit → Act → World → Prop} (hQ : ∀ E w st a, Told N E0 w0 d0 E w st a → K st → Q .normal a w) :
    ∀ (fuel : Nat) (todo dn : List (Nat × Bool)) (listed : Array Bool) (a : Act) (w : World) (as : Act) (E : Env) (st : St), ord = dn ++ todo → Sim P N E0 w0 d0 ops tb dn listed a w as E st → vcDraw P (itsOf tb al (reads dn) todo) st K → unl ops.size listed ≤ fuel → wpAny P .any ops Q fuel listed a w := by
  intro fuel
  induction fuel with
  | zero =>
    intro todo dn listed a w as E st ho h hk hu
    obtain ⟨dn', todo', as', st', ho', h', hk', hc⟩ := advance hS hal todo dn as st ho h hk
    have hall : ∀ i, i < ops.size → listed.getD i true = true := by
      intro i hi
      cases hl : listed.getD i true with
      | true => rfl
      | false => have := unl_set hi hl; omega
    have hno : Region.ready .any ops listed = [] := by
      refine List.eq_nil_iff_forall_not_mem.2 fun i hi => ?_
      obtain ⟨h1, h2, _⟩ := ready_spec hi
      rw [hall i h1] at h2; cases h2
    refine ⟨hno, ?_⟩
    rcases hc with rfl | ⟨e, r, rfl⟩
    · simp only [itsOf, vcDraw] at hk'
      have : a = as' := by
        obtain ⟨t1, d1⟩ := a; obtain ⟨t2, d2⟩ := as'
        have e1 : t1 = t2 := by
          refine Array.ext_getElem? fun d => (h'.same d fun i o hi hl hoi => ?_).symm
          obtain ⟨s, hs⟩ := mem_fst hi
          rw [hall i (hS.lt _ (by rw [ho']; exact List.mem_append_left _ hs))] at hl; cases hl
        have e2 := h'.dfs
        simp only at e1 e2; subst e1; subst e2; rfl
      rw [this]; exact hQ E w st' as' h'.told hk'
    · have h1 := not_done hS ho'
      have hlt := hS.lt (e, true) (by rw [ho']; simp)
      exact absurd (h'.sub e hlt (hall e hlt)) h1
  | succ fuel ih =>
    intro todo dn listed a w as E st ho h hk hu
    obtain ⟨dn', todo', as', st', ho', h', hk', hc⟩ := advance hS hal todo dn as st ho h hk
    refine ⟨fun hno => ?_, fun i hi => ?_⟩
    · have hall : ∀ i, i < ops.size → listed.getD i true = true := by
        intro i hi
        obtain ⟨s, hs⟩ := mem_fst (hS.cover i hi)
        exact all_run hS h.size hno [] ord rfl (by simp) _ hs
      rcases hc with rfl | ⟨e, r, rfl⟩
      · simp only [itsOf, vcDraw] at hk'
        have : a = as' := by
          obtain ⟨t1, d1⟩ := a; obtain ⟨t2, d2⟩ := as'
          have e1 : t1 = t2 := by
            refine Array.ext_getElem? fun d => (h'.same d fun i o hi hl hoi => ?_).symm
            obtain ⟨s, hs⟩ := mem_fst hi
            rw [hall i (hS.lt _ (by rw [ho']; exact List.mem_append_left _ hs))] at hl; cases hl
          have e2 := h'.dfs
          simp only at e1 e2; subst e1; subst e2; rfl
        rw [this]; exact hQ E w st' as' h'.told hk'
      · have h1 := not_done hS ho'
        have hlt := hS.lt (e, true) (by rw [ho']; simp)
        exact absurd (h'.sub e hlt (hall e hlt)) h1
    · obtain ⟨hlt, hun, hpr⟩ := ready_spec hi
      have hun' := unl_set hlt hun
      have hN : ∀ (i : Nat) (o : Oper), ops[i]? = some o → ∀ d, o.dst = some d → d < N := fun i o hio => by
        obtain ⟨ao, k1, k2⟩ := trOpers_get hal i o (by simpa using hio)
        exact (trOper_parts k2).1
      by_cases hd : i ∈ dn'.map Prod.fst
      · exact h'.pick hS ⟨todo', ho'⟩ (pending_read h' hd hun) hi hN fun a' ha' => ih todo' dn' _ a' w as' E st' ho' ha' hk' (by omega)
      · -- it is the one that is waited for
        have hin : i ∈ todo'.map Prod.fst := by
          have := hS.cover i hlt
          rw [ho', List.map_append, List.mem_append] at this
          exact this.resolve_left hd
        rcases hc with rfl | ⟨e, r, rfl⟩
        · simp at hin
        · have hcl := closed_ready hS.closed hlt h'.closed hpr hS.tbn
          have hie : i = e := by
            simp only [List.map_cons, List.mem_cons] at hin
            rcases hin with hin | hin
            · exact hin
            · exfalso
              obtain ⟨s, hs⟩ := mem_fst hin
              have hok := hS.ok
              rw [ho'] at hok
              have h3 := ((okOrd_split hok).1 _ hs).2.2.1 rfl
              have hlt' := hS.lt (e, true) (by rw [ho']; simp)
              exact not_done hS ho' (h'.sub e hlt' (hcl e h3))
          subst hie
          obtain ⟨x, hx⟩ : ∃ x, ops[i]? = some x := ⟨ops[i], Array.getElem?_eq_getElem hlt⟩
          obtain ⟨ao, k1, k2⟩ := trOpers_get hal i x (by simpa using hx)
          have hao : al.getD i default = ao := by simp [k1]
          obtain ⟨g1, g2, g3, g4⟩ := trOper_parts k2
          obtain ⟨_, hag⟩ := h'.agrees hS ⟨_, ho'⟩ (show (i, true) ∈ ord by rw [ho']; simp) hi (.inr hd) hx
          obtain ⟨he, hw⟩ := agree (hS.sel i x · · hx) hag
          have go : ∀ u w' E' st2, Told N E0 w0 d0 E' w' st2 (as'.put x.dst u) → HoldsAll (((reads dn').filter fun j => !(tb.getD i []).contains j).map fun j => al.getD j default) st2 → vcDraw P (itsOf tb al (reads dn') r) st2 K →
              wpAny P .any ops Q fuel (listed.setIfInBounds i true) (a.put x.dst u) w' := by
            intro u w' E' st2 hT hH hk2
            obtain ⟨as2, hsim⟩ := h'.behind hS ho' hi hal hx hT hH
            exact ih r (dn' ++ [(i, true)]) _ _ w' as2 E' st2 (by rw [ho']; simp) hsim (by rw [reads_snocT]; exact hk2) (by omega)
          have run : ∀ st', Told N E0 w0 d0 E w st' as' → itK P ⟨ao, true, ((reads dn').filter fun j => !(tb.getD i []).contains j).map fun j => al.getD j default⟩ st' (fun st2 => HoldsAll (((reads dn').filter fun j => !(tb.getD i []).contains j).map fun j => al.getD j default) st2 ∧ vcDraw P (itsOf tb al (reads dn') r) st2 K) →
              x.wp P a w (wpAny P .any ops Q fuel (listed.setIfInBounds i true)) Q := by
            intro st' hT hr
            simp only [itK] at hr
            have := stepK_does hT.valid hT.str g3 hr
            rw [← he] at this
            refine this.wp fun u w' ⟨E', p, st2, j1, j2, j3, j4, j5, j6⟩ => go u w' E' _ ?_ j5 j6
            rw [g4]; exact hT.put g1 j1 j2 j3 j4
          simp only [itsOf, vcDraw, hao, if_true] at hk'
          unfold wpOp
          simp only [hx]
          split at hk'
          · rename_i hg
            rw [hg] at g2
            rw [wanted_none g2, if_pos rfl]
            exact .inl (run _ h'.told hk')
          · rename_i t b hg
            rw [hg] at g2
            split at hk'
            · rename_i g hget
              obtain ⟨gv, hu1, hu2⟩ := h'.told.str.get hget
              simp only [VR, DR] at hu2; subst hu2
              have hw2 := wanted_of g2 hu1
              by_cases hgb : g = b
              · rw [hw, hw2, if_pos (by simpa using hgb)]
                exact .inl (run _ (h'.told.lit (by rw [← hgb]; exact hu1)) (hk'.1 hgb))
              · rw [hw, hw2, if_neg (by simpa using hgb)]
                have hgn : g = !b := by cases g <;> cases b <;> simp_all
                have hno := hk'.2 hgn
                refine go undef w E _ ?_ hno.1 hno.2
                rw [g4]; exact (h'.told.lit (by rw [← hgn]; exact hu1)).un g1
            · rename_i hget
              obtain ⟨gv, hu1, hu2⟩ := h'.told.str.get hget
              have := undef_of hu2; subst this
              rw [hw, wanted_undef g2 hu1, if_neg (by simp)]
              refine go undef w E _ ?_ hk'.1 hk'.2
              rw [g4]; exact h'.told.un g1
            · exact hk'.elim

end
end Go.Proofs.Ytaghpancpfpnhaa.Abs
