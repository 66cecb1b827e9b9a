/- Contracts of functions over pure data, and calls by them. Conditions: none. -/
import Derived.Test.YtaghpancpfpnhaaAbsQ
namespace Go.Proofs.Ytaghpancpfpnhaa.Abs
open Go Go.RowKit
set_option linter.unusedVariables false
set_option linter.unusedSimpArgs false

mutual
/-- A datum without lists behind it. -/
def D.flatD : D → Prop
  | .lst es => es = []
  | .cp _ _ => False
  | .agg cs => D.flatL cs
  | .ifc _ x => x.flatD
  | .clo _ a b => D.flatL a ∧ D.flatL b
  | _ => True
def D.flatL : List D → Prop
  | [] => True
  | x :: xs => x.flatD ∧ D.flatL xs
end

theorem D.flatL_iff : ∀ {xs : List D}, D.flatL xs ↔ ∀ x ∈ xs, x.flatD
  | [] => by simp [D.flatL]
  | x :: xs => by simp [D.flatL, D.flatL_iff (xs := xs)]

mutual
/-- A value whose rows hold data without lists behind them. -/
def PV.noLst : PV → Prop
  | .unk => True
  | .d x => x.flatD
  | .nils => True
  | .sl _ _ _ es => ∀ e ∈ es, e.flatD
  | .ptr _ _ => False
  | .ep _ _ _ _ _ => False
  | .agg cs => PV.noLstL cs
  | .clo _ a b => PV.noLstL a ∧ PV.noLstL b
  | .ifc _ x => x.noLst
  | .tup vs => PV.noLstL vs
def PV.noLstL : List PV → Prop
  | [] => True
  | x :: xs => x.noLst ∧ PV.noLstL xs
end

mutual
/-- A function's result: its rows are named in order. -/
def PV.rok : PV → Bool
  | .unk => true
  | .d _ => true
  | .nils => true
  | .sl t _ _ _ => match t with
    | .s j => decide (j < 15)
    | _ => false
  | .ptr _ _ => false
  | .ep _ _ _ _ _ => false
  | .agg cs => PV.rokL cs
  | .clo _ a b => PV.rokL a && PV.rokL b
  | .ifc _ x => x.rok
  | .tup vs => PV.rokL vs
def PV.rokL : List PV → Bool
  | [] => true
  | x :: xs => x.rok && PV.rokL xs
end

/-- A result's rows, as the caller names them. -/
def retag (n : Nat) : PV → PV
  | .sl (.s j) sz off es => .sl (.s (16 * n + j)) sz off es
  | p => p

mutual
/-- A value as data, where boxes are read, too. -/
def PV.toDB (bx : Tg → Option (List PV)) : PV → Option D
  | .unk => none
  | .d x => some x
  | .nils => some (.lst [])
  | .sl _ _ _ es => some (.lst es)
  | .ptr k o => match bx k with
    | some cs => (PV.toDL cs).map fun xs => .cp xs o
    | none => none
  | .ep _ _ _ _ _ => none
  | .agg cs => (PV.toDBL bx cs).map .agg
  | .clo fn a b => match PV.toDBL bx a, PV.toDBL bx b with
    | some a', some b' => some (.clo fn a' b')
    | _, _ => none
  | .ifc t x => (x.toDB bx).map (.ifc t)
  | .tup _ => none
def PV.toDBL (bx : Tg → Option (List PV)) : List PV → Option (List D)
  | [] => some []
  | x :: xs => match x.toDB bx, PV.toDBL bx xs with
    | some y, some ys => some (y :: ys)
    | _, _ => none
end

mutual
theorem DR.free {pr pr' : Nat → Prop} {w w' : World} : ∀ (x : D) (v : Value), x.flatD → DR pr w x v → DR pr' w' x v
  | .bool b, v, hf, h => by simpa only [DR] using h
  | .int k n, v, hf, h => by simpa only [DR] using h
  | .flt k n, v, hf, h => by simpa only [DR] using h
  | .str s, v, hf, h => by simpa only [DR] using h
  | .lst es, v, hf, h => by
    simp only [D.flatD] at hf; subst hf
    simp only [DR] at h ⊢
    rcases h with h | ⟨b, o, cap, sz, vs, h1, h2, h3, h4, h5, h6⟩
    · exact .inl h
    · exact .inl ⟨trivial, _, _, h1⟩
  | .agg cs, v, hf, h => by
    simp only [D.flatD] at hf
    simp only [DR] at h ⊢
    obtain ⟨arr, h1, h0, h2⟩ := h
    exact ⟨arr, h1, h0, DRs.free cs _ hf h2⟩
  | .ifc t x, v, hf, h => by
    simp only [D.flatD] at hf
    simp only [DR] at h ⊢
    obtain ⟨u, h1, h2⟩ := h
    exact ⟨u, h1, DR.free x u hf h2⟩
  | .nilif, v, hf, h => by simpa only [DR] using h
  | .nilptr, v, hf, h => by simpa only [DR] using h
  | .nilfn, v, hf, h => by simpa only [DR] using h
  | .nilmap, v, hf, h => by simpa only [DR] using h
  | .clo fn a b, v, hf, h => by
    simp only [D.flatD] at hf
    simp only [DR] at h ⊢
    obtain ⟨fa, fb, h1, h2, h3⟩ := h
    exact ⟨fa, fb, h1, DRs.free a _ hf.1 h2, DRs.free b _ hf.2 h3⟩
  | .cp cs f, v, hf, h => by simp only [D.flatD] at hf
theorem DRs.free {pr pr' : Nat → Prop} {w w' : World} : ∀ (xs : List D) (vs : List Value), D.flatL xs → DRs pr w xs vs → DRs pr' w' xs vs
  | [], vs, hf, h => by simpa only [DRs] using h
  | x :: xs, vs, hf, h => by
    simp only [D.flatL] at hf
    simp only [DRs] at h ⊢
    obtain ⟨u, us, h1, h2, h3⟩ := h
    exact ⟨u, us, h1, DR.free x u hf.1 h2, DRs.free xs us hf.2 h3⟩
end

mutual
theorem VR.free {E E' : Env} {w : World} (hr : E'.row = E.row) (hb : E'.box = E.box) : ∀ (p : PV) (v : Value), p.noLst → VR E w p v → VR E' w p v
  | .unk, v, hf, h => by simp only [VR]
  | .d x, v, hf, h => by simp only [PV.noLst] at hf; simp only [VR] at h ⊢; exact DR.free x v hf h
  | .nils, v, hf, h => by simpa only [VR] using h
  | .sl t sz off es, v, hf, h => by
    simp only [PV.noLst] at hf
    simp only [VR, hr] at h ⊢
    rcases h with h | ⟨b, o, cap, c, el, fr, vs, h1, h2, h3, h4, h0, h5, h6, h7, h8⟩
    · exact .inl h
    · exact .inr ⟨b, o, cap, c, el, fr, vs, h1, h2, h3, h4, h0, h5, h6, h7, DRs.free es vs (D.flatL_iff.2 hf) h8⟩
  | .ptr k o, v, hf, h => by simp only [PV.noLst] at hf
  | .ep _ _ _ _ _, v, hf, h => by simp only [PV.noLst] at hf
  | .agg cs, v, hf, h => by
    simp only [PV.noLst] at hf
    simp only [VR] at h ⊢
    obtain ⟨arr, h1, h0, h2⟩ := h
    exact ⟨arr, h1, h0, VRs.free hr hb cs _ hf h2⟩
  | .clo fn a b, v, hf, h => by
    simp only [PV.noLst] at hf
    simp only [VR] at h ⊢
    obtain ⟨fa, fb, h1, h2, h3⟩ := h
    exact ⟨fa, fb, h1, VRs.free hr hb a _ hf.1 h2, VRs.free hr hb b _ hf.2 h3⟩
  | .ifc t x, v, hf, h => by
    simp only [PV.noLst] at hf
    simp only [VR] at h ⊢
    obtain ⟨u, h1, h2⟩ := h
    exact ⟨u, h1, VR.free hr hb x u hf h2⟩
  | .tup xs, v, hf, h => by
    simp only [PV.noLst] at hf
    simp only [VR] at h ⊢
    obtain ⟨arr, h1, h2⟩ := h
    exact ⟨arr, h1, VRs.free hr hb xs _ hf h2⟩
theorem VRs.free {E E' : Env} {w : World} (hr : E'.row = E.row) (hb : E'.box = E.box) : ∀ (ps : List PV) (vs : List Value), PV.noLstL ps → VRs E w ps vs → VRs E' w ps vs
  | [], vs, hf, h => by simpa only [VRs] using h
  | x :: xs, vs, hf, h => by
    simp only [PV.noLstL] at hf
    simp only [VRs] at h ⊢
    obtain ⟨u, us, h1, h2, h3⟩ := h
    exact ⟨u, us, h1, VR.free hr hb x u hf.1 h2, VRs.free hr hb xs us hf.2 h3⟩
end

/-- A function that can be entered. -/
def Enters (P : Program) (f : FuncId) : Prop := ∃ fn, P.funcs[f]? = some fn ∧ fn.body.isNone = false ∧ (fn.name == "runtime.NumGoroutine") = false

theorem run_callFunc {P : Program} {w : World} {f : FuncId} (h : Enters P f) (args : Array Value) : (callFunc f args).run P w = .ok (.enter f args) w := by
  obtain ⟨fn, h1, h2, h3⟩ := h
  simp only [callFunc, Sem.run_bind, run_program, Result.andThen_ok, h1, h3, h2, Bool.false_eq_true, if_false, Sem.run_pure]

/-- THE CONTRACT of a function over pure data: called with values that tell ds it returns one that tells r; of what was there nothing changes; r's rows are its own. -/
def EvF (P : Program) (f : FuncId) (ds : List D) (r : PV) : Prop :=
  Enters P f ∧ ∀ (pr : Nat → Prop) (w : World) (vs : Array Value), (∀ b, pr b → b < w.heap.size) → DRs pr w ds vs.toList →
    Calls P f vs w fun e w' => ∃ v E', e = .returned v ∧ Valid E' w' ∧ VR E' w' r v ∧ Below w.heap.size w w' ∧ (∀ b, Own E' b → w.heap.size ≤ b) ∧ (∀ b, pr b → E'.prot b) ∧ (∀ b, E'.prot b → pr b ∨ w.heap.size ≤ b)

section
variable {P : Program} {E : Env} {w : World} {st : St} {tmps : Array Value}

/-- The names of a result's rows in the caller are given up first. -/
def St.rebinds (st : St) (n : Nat) : List Tg → St
  | [] => st
  | t :: ts => match t with
    | .s j => (St.rebinds st n ts).rebind (.s (16 * n + j))
    | _ => St.rebinds st n ts

def Env.unbinds (E : Env) (n : Nat) : List Tg → Env
  | [] => E
  | t :: ts => match t with
    | .s j => (Env.unbinds E n ts).unbind (.s (16 * n + j))
    | _ => Env.unbinds E n ts

theorem rebinds_ok (hv : Valid E w) (hs : StR E w st tmps) (n : Nat) : ∀ ts : List Tg, Valid (E.unbinds n ts) w ∧ StR (E.unbinds n ts) w (st.rebinds n ts) tmps ∧ Step E w (E.unbinds n ts) w ∧
    (∀ j, .s j ∈ ts → (E.unbinds n ts).row (.s (16 * n + j)) = none ∧ (E.unbinds n ts).box (.s (16 * n + j)) = none) ∧ (E.unbinds n ts).prot = E.prot ∧
    (∀ t r, (E.unbinds n ts).row t = some r → E.row t = some r) ∧ (∀ t b, (E.unbinds n ts).box t = some b → E.box t = some b)
  | [] => ⟨hv, hs, Step.refl _ _, by simp, rfl, fun _ _ h => h, fun _ _ h => h⟩
  | t :: ts => by
    obtain ⟨h1, h2, h3, h4, h5, h6, h7⟩ := rebinds_ok hv hs n ts
    cases t with
    | s j =>
      simp only [Env.unbinds, St.rebinds]
      refine ⟨h1.unbind _, h2.rebind h1 _, h3.trans (Step.unbind h1 _), ?_, h5, fun t r h => h6 t r (Env.unbind_row.1 h).2, fun t b h => h7 t b (Env.unbind_box.1 h).2⟩
      intro i hi
      rcases List.mem_cons.1 hi with hi | hi
      · cases hi; simp [Env.unbind, Tg.isUp]
      · obtain ⟨g1, g2⟩ := h4 i hi
        simp only [Env.unbind]
        constructor <;> split <;> first | rfl | assumption
    | _ =>
      simp only [Env.unbinds, St.rebinds]
      refine ⟨h1, h2, h3, fun i hi => ?_, h5, h6, h7⟩
      rcases List.mem_cons.1 hi with hi | hi
      · cases hi
      · exact h4 i hi

/-- The caller's rows and the result's, together. -/
def Env.join (E E1 : Env) (n : Nat) (ts : List Tg) (pr : Nat → Prop) : Env :=
  ⟨fun t => match t with
    | .s m => if 16 * n ≤ m ∧ .s (m - 16 * n) ∈ ts then E1.row (.s (m - 16 * n)) else E.row t
    | t => E.row t, E.box, pr⟩

theorem join_ok {w' : World} {E1 : Env} {n : Nat} {ts : List Tg} {pr : Nat → Prop} (hv : Valid E w) (hs : StR E w st tmps) (hn : ∀ j, .s j ∈ ts → E.row (.s (16 * n + j)) = none) (h1 : Valid E1 w')
    (hb : Below w.heap.size w w') (hown : ∀ b, Own E1 b → w.heap.size ≤ b) (hp0 : ∀ b, E.prot b → pr b) (hp1 : ∀ b, pr b → E.prot b ∨ (w.heap.size ≤ b ∧ E1.prot b)) :
    Valid (E.join E1 n ts pr) w' ∧ StR (E.join E1 n ts pr) w' st tmps ∧ Step E w (E.join E1 n ts pr) w' ∧ (∀ j, .s j ∈ ts → (E.join E1 n ts pr).row (.s (16 * n + j)) = E1.row (.s j)) := by
  have hrow : ∀ t b o, (E.join E1 n ts pr).row t = some (b, o) → (∃ j, .s j ∈ ts ∧ t = .s (16 * n + j) ∧ E1.row (.s j) = some (b, o) ∧ w.heap.size ≤ b) ∨ (E.row t = some (b, o) ∧ b < w.heap.size) := by
    intro t b o h
    simp only [Env.join] at h
    split at h
    · rename_i m
      split at h
      · rename_i hm
        refine .inl ⟨m - 16 * n, hm.2, by congr 1; omega, h, hown b (.inl ⟨_, _, h⟩)⟩
      · exact .inr ⟨h, (hv.row_lt _ _ _ h).1⟩
    · exact .inr ⟨h, (hv.row_lt _ _ _ h).1⟩
  have hnew : ∀ j, .s j ∈ ts → (E.join E1 n ts pr).row (.s (16 * n + j)) = E1.row (.s j) := by
    intro j hj
    simp only [Env.join]
    rw [if_pos ⟨by omega, by rw [Nat.add_sub_cancel_left]; exact hj⟩, Nat.add_sub_cancel_left]
  have hold : ∀ t r, E.row t = some r → (E.join E1 n ts pr).row t = some r := by
    intro t r hr
    simp only [Env.join]
    split
    · rename_i m
      split
      · rename_i hm
        have := hn _ hm.2
        rw [show 16 * n + (m - 16 * n) = m by omega] at this
        rw [this] at hr; cases hr
      · exact hr
    · exact hr
  have blk : ∀ b, b < w.heap.size → w'.heap[b]? = w.heap[b]? := hb.block
  refine ⟨?_, ?_, ?_, hnew⟩
  · refine ⟨fun t b o h => ?_, fun k b h => ?_, fun t u b o o' ht hu => ?_, hv.box_box, fun t k b o ht hk => ?_, fun b h => ?_⟩
    · rcases hrow t b o h with ⟨j, hj, rfl, h2, h3⟩ | ⟨h2, h3⟩
      · obtain ⟨g1, g2⟩ := h1.row_lt _ _ _ h2
        refine ⟨g1, fun hpr => ?_⟩
        rcases hp1 b hpr with h4 | h4
        · have := hv.prot_lt b h4; omega
        · exact g2 h4.2
      · refine ⟨Nat.lt_of_lt_of_le h3 hb.size, fun hpr => ?_⟩
        rcases hp1 b hpr with h4 | h4
        · exact (hv.row_lt _ _ _ h2).2 h4
        · omega
    · obtain ⟨g1, g2⟩ := hv.box_lt k b h
      refine ⟨Nat.lt_of_lt_of_le g1 hb.size, fun hpr => ?_⟩
      rcases hp1 b hpr with h4 | h4
      · exact g2 h4
      · omega
    · rcases hrow t b o ht with ⟨j, hj, rfl, h2, h3⟩ | ⟨h2, h3⟩ <;> rcases hrow u b o' hu with ⟨j', hj', rfl, h2', h3'⟩ | ⟨h2', h3'⟩
      · have := h1.row_row _ _ _ _ _ h2 h2'; cases this; rfl
      · omega
      · omega
      · exact hv.row_row _ _ _ _ _ h2 h2'
    · rcases hrow t b o ht with ⟨j, hj, rfl, h2, h3⟩ | ⟨h2, h3⟩
      · have := (hv.box_lt k b hk).1; omega
      · exact hv.row_box _ _ _ _ h2 hk
    · rcases hp1 b h with h4 | h4
      · exact Nat.lt_of_lt_of_le (hv.prot_lt b h4) hb.size
      · exact h1.prot_lt b h4.2
  · exact hs.keep hp0 (fun b h => blk b (hv.prot_lt b h)) (fun t r hr => ⟨hold t r hr, blk _ (hv.row_lt t r.1 r.2 hr).1⟩) (fun k b h => ⟨h, blk b (hv.box_lt k b h).1⟩)
  · refine ⟨hb.os, hb.tape, hb.output, hb.size, fun b h _ => blk b h, fun b h => ?_, hp0, fun b h => ?_, fun t b h => ?_⟩
    · rcases h with ⟨t, o, h⟩ | ⟨k, h⟩
      · rcases hrow t b o h with ⟨j, hj, rfl, h2, h3⟩ | ⟨h2, h3⟩
        · exact .inr h3
        · exact .inl (.inl ⟨t, o, h2⟩)
      · exact .inl (.inr ⟨k, h⟩)
    · rcases hp1 b h with h4 | h4
      · exact .inl h4
      · exact .inr (.inr h4.1)
    · exact h

mutual
/-- A result in its caller. -/
theorem retag_R {E1 E2 : Env} {n : Nat} (hp : ∀ b, E1.prot b → E2.prot b) {ts : List Tg} (hr : ∀ j r, .s j ∈ ts → E1.row (.s j) = some r → E2.row (.s (16 * n + j)) = some r) : ∀ (p : PV) (v : Value), (∀ t ∈ p.tags, t ∈ ts) → p.rok = true → VR E1 w p v → VR E2 w (p.mapT (retag n)) v
  | .unk, v, ht, hk, h => by simp only [VR, PV.mapT]
  | .d x, v, ht, hk, h => by simp only [VR, PV.mapT] at h ⊢; exact DR.mono hp (fun _ _ => rfl) x v h
  | .nils, v, ht, hk, h => by simpa only [VR, PV.mapT] using h
  | .sl t sz off es, v, ht, hk, h => by
    cases t with
    | s j =>
      simp only [PV.mapT, retag]
      simp only [VR] at h ⊢
      rcases h with h | ⟨b, o, cap, c, el, fr, vs, h1, h2, h3, h4, h0, h5, h6, h7, h8⟩
      · exact .inl h
      · exact .inr ⟨b, o, cap, c, el, fr, vs, hr j _ (ht _ (by simp [PV.tags])) h1, h2, h3, h4, h0, h5, h6, h7, DRs.mono hp (fun _ _ => rfl) _ _ h8⟩
    | _ => simp [PV.rok] at hk
  | .ptr k o, v, ht, hk, h => by simp [PV.rok] at hk
  | .ep _ _ _ _ _, v, ht, hk, h => by simp [PV.rok] at hk
  | .agg cs, v, ht, hk, h => by
    simp only [PV.rok] at hk
    simp only [VR, PV.mapT] at h ⊢
    obtain ⟨arr, h1, h0, h2⟩ := h
    exact ⟨arr, h1, h0, retags_R hp hr cs _ (by simpa only [PV.tags] using ht) hk h2⟩
  | .clo fn a b, v, ht, hk, h => by
    simp only [PV.rok, Bool.and_eq_true] at hk
    simp only [VR, PV.mapT] at h ⊢
    obtain ⟨fa, fb, h1, h2, h3⟩ := h
    exact ⟨fa, fb, h1, retags_R hp hr a _ (fun t h => ht t (by simp [PV.tags, h])) hk.1 h2, retags_R hp hr b _ (fun t h => ht t (by simp [PV.tags, h])) hk.2 h3⟩
  | .ifc t x, v, ht, hk, h => by
    simp only [PV.rok] at hk
    simp only [VR, PV.mapT] at h ⊢
    obtain ⟨u, h1, h2⟩ := h
    exact ⟨u, h1, retag_R hp hr x u (by simpa only [PV.tags] using ht) hk h2⟩
  | .tup xs, v, ht, hk, h => by
    simp only [PV.rok] at hk
    simp only [VR, PV.mapT] at h ⊢
    obtain ⟨arr, h1, h2⟩ := h
    exact ⟨arr, h1, retags_R hp hr xs _ (by simpa only [PV.tags] using ht) hk h2⟩
theorem retags_R {E1 E2 : Env} {n : Nat} (hp : ∀ b, E1.prot b → E2.prot b) {ts : List Tg} (hr : ∀ j r, .s j ∈ ts → E1.row (.s j) = some r → E2.row (.s (16 * n + j)) = some r) : ∀ (ps : List PV) (vs : List Value), (∀ t ∈ PV.tagsL ps, t ∈ ts) → PV.rokL ps = true → VRs E1 w ps vs → VRs E2 w (PV.mapTL (retag n) ps) vs
  | [], vs, ht, hk, h => by simpa only [VRs, PV.mapTL] using h
  | x :: xs, vs, ht, hk, h => by
    simp only [PV.rokL, Bool.and_eq_true] at hk
    simp only [VRs, PV.mapTL] at h ⊢
    obtain ⟨u, us, h1, h2, h3⟩ := h
    exact ⟨u, us, h1, retag_R hp hr x u (fun t h => ht t (by simp [PV.tagsL, h])) hk.1 h2, retags_R hp hr xs us (fun t h => ht t (by simp [PV.tagsL, h])) hk.2 h3⟩
end

end
end Go.Proofs.Ytaghpancpfpnhaa.Abs
