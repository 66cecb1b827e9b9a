/- All operations that read come to what is told. Conditions: none. -/
import Derived.Test.YtaghpancpfpnhaaAbsG
namespace Go.Proofs.Ytaghpancpfpnhaa.Abs
open Go Go.RowKit
set_option linter.unusedVariables false
set_option linter.unusedSimpArgs false

section
variable {P : Program} {E : Env} {w : World} {ρ : Operand → Value} {f : Opd → Option PV} {bx : Tg → Option (List PV)}

/-- Cells laid over others, from a place on. -/
theorem fold_set (cs : Array Value) (off : Nat) : ∀ (l : List Value) (k : Nat), off + k + l.length ≤ cs.size →
    (l.zipIdx k).foldl (fun (cs : Array Value) (x : Value × Nat) => cs.setIfInBounds (off + x.2) x.1) cs = (cs.toList.take (off + k) ++ l ++ cs.toList.drop (off + k + l.length)).toArray
  | [], k, h => by simp
  | v :: l, k, h => by
    simp only [List.zipIdx_cons, List.foldl_cons]
    simp only [List.length_cons] at h
    rw [fold_set (cs.setIfInBounds (off + k) v) off l (k + 1) (by simp; omega)]
    congr 1
    apply List.ext_getElem?
    intro i
    simp only [Array.toList_setIfInBounds]
    have hk : off + k < cs.toList.length := by simp; omega
    simp only [List.getElem?_append, List.getElem?_take, List.getElem?_drop, List.getElem?_set, List.length_append, List.length_take, List.length_set, List.length_cons]
    have hc : cs.toList.length = cs.size := by simp
    by_cases h1 : i < off + k
    · have e1 : i < min (off + (k + 1)) cs.toList.length := by omega
      have e2 : i < min (off + k) cs.toList.length := by omega
      have e3 : i < off + (k + 1) := by omega
      have e4 : ¬ (off + k = i) := by omega
      simp [e1, e2, e3, e4, h1]
      rw [if_pos (by omega)]; rw [if_pos (by omega)]; rw [if_pos (by omega)]; rw [if_pos (by omega)]
    · by_cases h2 : i = off + k
      · subst h2
        have e1 : off + k < min (off + (k + 1)) cs.toList.length := by omega
        have e2 : ¬ off + k < min (off + k) cs.toList.length := by omega
        have e3 : off + k < off + (k + 1) := by omega
        have e5 : off + k - min (off + k) cs.toList.length = 0 := by omega
        simp [e1, e2, e3, e5, hk]
        simp at hk
        grind
      · have e1 : ¬ i < min (off + (k + 1)) cs.toList.length := by omega
        have e2 : ¬ i < min (off + k) cs.toList.length := by omega
        have e4 : ¬ (off + k = i) := by omega
        grind

inductive All2 {α β : Type} (R : α → β → Prop) : List α → List β → Prop where
  | nil : All2 R [] []
  | cons {a : α} {b : β} {l : List α} {m : List β} (h : R a b) (t : All2 R l m) : All2 R (a :: l) (b :: m)

theorem fillP_sound {place : Nat → Option (Nat × Nat)} : ∀ (l : List (Nat × Value)) (q : List (Nat × Nat × PV)) (c : Array Value) (z z' : List PV),
    (All2 (fun (a : Nat × Value) (b : Nat × Nat × PV) => place a.1 = some (b.1, b.2.1) ∧ VR E w b.2.2 a.2) l q) → VRs E w z c.toList → OneC c.toList → fillP z q = some z' →
    ∃ c', Instr.fill place c l = some c' ∧ OneC c'.toList ∧ VRs E w z' c'.toList
  | [], q, c, z, z', hf, hz, h0, h => by
    cases hf
    simp only [fillP, Option.some.injEq] at h; subst h
    exact ⟨c, rfl, h0, hz⟩
  | (i, v) :: l, q, c, z, z', hf, hz, h0, h => by
    cases hf with
    | cons h1 h2 =>
      rename_i b q'
      obtain ⟨off, sz, p⟩ := b
      obtain ⟨h3, h4⟩ := h1
      simp only [fillP] at h
      split at h
      · rename_i hh
        obtain ⟨k1, k2, k3⟩ := hh
        have hcl := (h4.cells k3).length
        have hzl := hz.length
        simp only [Array.length_toList] at hcl hzl
        simp only at h3
        have hsz : v.cells.size = sz := by omega
        simp only [Instr.fill, h3]
        rw [if_neg (by simp; omega)]
        rw [← Array.foldl_toList, Array.toList_zipIdx, fold_set c off v.cells.toList 0 (by simp; omega)]
        refine fillP_sound l q' _ _ z' h2 ?_ ?_ h
        · simp only [Nat.add_zero, Array.length_toList]
          rw [hsz, ← k1]
          refine VRs.append (VRs.append (VRs.take _ hz) (h4.cells k3)) ?_
          exact VRs.drop _ hz
        · intro c' hc'
          simp only [Nat.add_zero, List.mem_append] at hc'
          rcases hc' with (hc' | hc') | hc'
          · exact h0 c' (List.mem_of_mem_take hc')
          · exact h4.one k3 c' hc'
          · exact h0 c' (List.mem_of_mem_drop hc')
      · cases h

theorem run_mapM_list {α β : Type} {g : α → Sem β} {h : α → β} : ∀ (l : List α), (∀ x ∈ l, (g x).run P w = .ok (h x) w) → (l.mapM g).run P w = .ok (l.map h) w
  | [], _ => by simp
  | x :: l, hx => by
    simp only [List.mapM_cons, Sem.run_bind, hx x (by simp), Result.andThen_ok, run_mapM_list l fun y hy => hx y (by simp [hy]), Sem.run_pure, List.map_cons]

theorem run_mapM_array {α β : Type} {g : α → Sem β} {h : α → β} (a : Array α) (hx : ∀ x ∈ a.toList, (g x).run P w = .ok (h x) w) : (a.mapM g).run P w = .ok (a.map h) w := by
  rw [Array.mapM_eq_mapM_toList]
  simp only [Sem.run_map, run_mapM_list a.toList hx, Result.andThen_ok]
  rw [← Array.toList_map, Array.toArray_toList]

theorem zeroOf_sound {t : TypeId} {z : List D} (h : zeroOf P t = some z) : ∃ i v, P.info? t = some i ∧ i.zero = some v ∧ OneC v.cells.toList ∧ ∀ pr w, DRs pr w z v.cells.toList := by
  unfold zeroOf at h
  split at h
  · rename_i i h1
    split at h
    · rename_i v h2
      exact ⟨i, v, h1, h2, dVs_one h, fun pr w => dVs_sound h pr w⟩
    · cases h
  · cases h

theorem parts_sound (hO : OpdR E w ρ f) {t : TypeId} : ∀ {l : List (Nat × Operand)} {q : List (Nat × Nat × Opd)} {ps : List PV}, trParts P t l = some q → valsO f (q.map fun r => r.2.2) = some ps →
    All2 (fun (a : Nat × Value) (b : Nat × Nat × PV) => placeOf P t a.1 = some (b.1, b.2.1) ∧ VR E w b.2.2 a.2) (l.map fun r => (r.1, ρ r.2)) ((q.zip ps).map fun r => (r.1.1, r.1.2.1, r.2))
  | [], q, ps, h, hp => by simp only [trParts, Option.some.injEq] at h; subst h; simp [All2.nil]
  | (i, x) :: l, q, ps, h, hp => by
    simp only [trParts] at h
    split at h
    · rename_i o s y ys h1 h2 h3
      simp only [Option.some.injEq] at h; subst h
      simp only [List.map_cons, valsO] at hp
      split at hp
      · rename_i p ps' h4 h5
        simp only [Option.some.injEq] at hp; subst hp
        simp only [List.map_cons, List.zip_cons_cons]
        exact .cons ⟨h1, hO _ _ _ h2 h4⟩ (parts_sound hO h3 h5)
      · cases hp
    · cases h

theorem fill_congr {p q : Nat → Option (Nat × Nat)} (h : ∀ i, p i = q i) (c : Array Value) (l : List (Nat × Value)) : Instr.fill p c l = Instr.fill q c l := by
  rw [show p = q from funext h]

theorem build_sound {t : TypeId} {u : TypeDesc} (hu : P.underlying t = some u) (hg : aggT u = true) (hk : fieldsOk P t = true) {z : List D} (hz : zeroOf P t = some z) (hO : OpdR E w ρ f)
    {l : Array (Nat × Operand)} {q : List (Nat × Nat × Opd)} (hq : trParts P t l.toList = some q) {c : Prop} {v : PV}
    (hr : rop (.build z q) f bx = some (c, v)) : Gives P E w (do pure (.value (← Instr.build t (l.map fun (i, x) => (i, ρ x))))) v := by
  simp only [rop] at hr
  split at hr
  · rename_i ps h1
    simp only [Option.map_eq_some_iff, Prod.mk.injEq] at hr
    obtain ⟨cs, h2, rfl, rfl⟩ := hr
    obtain ⟨i, v, h3, h4, h50, h5⟩ := zeroOf_sound hz
    have h6 := parts_sound hO hq h1
    obtain ⟨c', h7, h70, h8⟩ := fillP_sound (place := placeOf P t) _ _ v.cells _ _ h6 (VRs_d (h5 E.prot w)) h50 h2
    refine gives_of (u := .agg c') ?_ (by simp only [VR]; exact ⟨c', rfl, h70, h8⟩)
    have hl : (l.map fun x : Nat × Operand => (x.1, ρ x.2)).toList = l.toList.map fun r => (r.1, ρ r.2) := by simp
    cases u with
    | struct fs =>
      simp only [Instr.build, Sem.run_bind, run_zeroValue' h3 h4, Result.andThen_ok, run_underlying hu]
      rw [run_mapM_array (h := fun f : Field => (f.offset, ((P.info? f.type).map (·.size)).getD 0)) fs (by
        intro x hx
        simp only [fieldsOk, hu] at hk
        rw [Array.all_eq_true] at hk
        obtain ⟨n, hn, rfl⟩ := List.getElem_of_mem hx
        have := hk n (by simpa using hn)
        obtain ⟨j, hj⟩ := Option.isSome_iff_exists.1 this
        simp only [Sem.run_bind]
        rw [show fs.toList[n] = fs[n]'(by simpa using hn) by simp]
        rw [run_sizeOf' hj]
        simp [hj])]
      simp only [Result.andThen_ok]
      rw [hl, fill_congr (q := placeOf P t) (fun n => by
        simp only [placeOf, hu, Array.getElem?_map]
        cases hfn : fs[n]? with
        | none => rfl
        | some g =>
          simp only [fieldsOk, hu] at hk
          rw [Array.all_eq_true] at hk
          obtain ⟨hn, hg'⟩ := Array.getElem?_eq_some_iff.1 hfn
          have := hk n hn
          rw [hg'] at this
          obtain ⟨j, hj⟩ := Option.isSome_iff_exists.1 this
          simp [hj]), h7]
      simp
    | array n e =>
      simp only [Instr.build, Sem.run_bind, run_zeroValue' h3 h4, Result.andThen_ok, run_underlying hu]
      cases he : P.info? e with
      | none => simp [fieldsOk, hu, he] at hk
      | some j =>
        simp only [run_sizeOf' he, Result.andThen_ok]
        rw [hl, fill_congr (q := placeOf P t) (fun n => by simp [placeOf, hu, he]), h7]
        simp
    | _ => simp [aggT] at hg
  · cases hr

end
end Go.Proofs.Ytaghpancpfpnhaa.Abs
