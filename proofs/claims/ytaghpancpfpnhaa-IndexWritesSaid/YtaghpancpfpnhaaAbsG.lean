/- Operations that read come to what is told: cuts, structs built, and all of them. Conditions: none. -/
import Derived.Test.YtaghpancpfpnhaaAbsF
namespace Go.Proofs.Ytaghpancpfpnhaa.Abs
open Go Go.RowKit
set_option linter.unusedVariables false
set_option linter.unusedSimpArgs false

section
variable {P : Program} {E : Env} {w : World} {ρ : Operand → Value} {f : Opd → Option PV} {bx : Tg → Option (List PV)}

/-- A bound that is given, or not. -/
def BndR (v : Option Value) (bo : Option Int) (n : Nat) : Prop :=
  match bo with
  | none => v = none
  | some m => ∃ k, v = some (.int k m) ∧ n = m.toNat

theorem bound_sound (hO : OpdR E w ρ f) {o : Option Operand} {o' : Option Opd} (h : trOo o = some o') {d n : Nat} {bo : Option Int} (hb : bound f o' d = some (bo, n)) :
    BndR (o.map ρ) bo n ∧ (bo = none → n = d) := by
  cases o with
  | none =>
    simp only [trOo, Option.some.injEq] at h; subst h
    simp only [bound, Option.some.injEq, Prod.mk.injEq] at hb; obtain ⟨rfl, rfl⟩ := hb
    exact ⟨rfl, fun _ => rfl⟩
  | some x =>
    simp only [trOo, Option.map_eq_some_iff] at h
    obtain ⟨y, h1, rfl⟩ := h
    simp only [bound, Option.map_eq_some_iff, Prod.mk.injEq] at hb
    obtain ⟨⟨k, m⟩, h2, rfl, rfl⟩ := hb
    refine ⟨⟨k, ?_, rfl⟩, fun h => by cases h⟩
    simp [ix_sound hO h1 h2]

theorem sliceBound_run {k : IntKind} {i : Int} {y : Nat} {code : BoundsCode} (h0 : 0 ≤ i) (h1 : i ≤ (y : Int)) : (Instr.sliceBound (.int k i) y code).run P w = .ok i.toNat w := by
  simp [Instr.sliceBound, asIntOf, h0, h1]

theorem sliceAt_run {t e : TypeId} {j : TypeInfo} (hu : P.underlying t = some (.slice e)) (hi : P.info? e = some j) {a : Option Addr} {len cap l h : Nat} {lo hi' : Option Value} {bl bh : Option Int}
    (hl : BndR lo bl l) (hl' : bl = none → l = 0) (hh : BndR hi' bh h) (hh' : bh = none → h = len) (h1 : inB bl 0 h) (h2 : inB bh 0 cap) (h3 : len ≤ cap) :
    (Instr.sliceAt t (.slice a len cap) lo hi' none).run P w = .ok (.slice (if cap = l then a else a.map (·.add (l * j.size))) (h - l) (cap - l)) w ∧ l ≤ h ∧ h ≤ cap := by
  have hhc : h ≤ cap := by
    cases bh with
    | none => have := hh' rfl; omega
    | some m => obtain ⟨k, _, rfl⟩ := hh; simp only [inB] at h2; omega
  have hlh : l ≤ h := by
    cases bl with
    | none => have := hl' rfl; omega
    | some m => obtain ⟨k, _, rfl⟩ := hl; simp only [inB] at h1; omega
  refine ⟨?_, hlh, hhc⟩
  have e1 : (Instr.sliceBounds true len cap lo hi' none).run P w = .ok (l, h, cap) w := by
    cases bh with
    | none =>
      simp only [BndR] at hh; subst hh
      have := hh' rfl; subst this
      cases bl with
      | none =>
        simp only [BndR] at hl; subst hl
        have := hl' rfl; subst this
        simp [Instr.sliceBounds]
      | some m =>
        obtain ⟨k, rfl, rfl⟩ := hl
        simp only [inB] at h1
        simp [Instr.sliceBounds, sliceBound_run h1.1 h1.2]
    | some q =>
      obtain ⟨kh, rfl, rfl⟩ := hh
      simp only [inB] at h2
      cases bl with
      | none =>
        simp only [BndR] at hl; subst hl
        have := hl' rfl; subst this
        simp [Instr.sliceBounds, sliceBound_run h2.1 h2.2]
      | some m =>
        obtain ⟨k, rfl, rfl⟩ := hl
        simp only [inB] at h1
        simp [Instr.sliceBounds, sliceBound_run h2.1 h2.2, sliceBound_run h1.1 h1.2]
  simp only [Instr.sliceAt, Sem.run_bind, run_underlying hu, Result.andThen_ok, Instr.slice, e1, run_sizeOf' hi, Sem.run_pure]

theorem cutL_length {α : Type} {es : List α} {l h : Nat} (h1 : h ≤ es.length) : (cutL es l h).length = h - l := by simp [cutL]; omega

theorem inB_le {b : Option Int} {lo hi hi' : Nat} (h : inB b lo hi) (hh : hi ≤ hi') : inB b lo hi' := by
  cases b with
  | none => simp only [inB] at h ⊢; omega
  | some n => simp only [inB] at h ⊢; omega

theorem sliceS_sound {t e : TypeId} {j : TypeInfo} (hu : P.underlying t = some (.slice e)) (hi : P.info? e = some j) (hO : OpdR E w ρ f) {x : Operand} {x' : Opd} (hx : trO x = some x')
    {lo hh : Option Operand} {lo' hh' : Option Opd} (hl : trOo lo = some lo') (hhh : trOo hh = some hh') {c : Prop} {v : PV}
    (hr : rop (.sliceS j.size x' lo' hh' none) f bx = some (c, v)) (hc : c) : Gives P E w (do pure (.value (← Instr.sliceAt t (ρ x) (lo.map ρ) (hh.map ρ) none))) v := by
  simp only [rop] at hr
  split at hr
  · rename_i t' sz' off es h1
    split at hr
    · rename_i bl l bh h g1 g2
      split at hr
      · rename_i hsz; subst hsz
        simp only [Option.some.injEq, Prod.mk.injEq] at hr; obtain ⟨rfl, rfl⟩ := hr
        obtain ⟨c1, c2⟩ := hc
        obtain ⟨b1, b2⟩ := bound_sound hO hl g1
        obtain ⟨b3, b4⟩ := bound_sound hO hhh g2
        have hv := hO _ _ _ hx h1
        simp only [VR] at hv
        rcases hv with ⟨h5, a, h6⟩ | ⟨b, o, cap, cc, el, fr, vs, k1, k2, k3, k4, k5, k6, k7, k8, k9⟩
        · subst h5
          rw [h6]
          obtain ⟨r1, r2, r3⟩ := sliceAt_run (P := P) (w := w) (a := a) (len := 0) (cap := 0) hu hi b1 b2 b3 (by simpa using b4) c2 (by simpa using c1) (Nat.le_refl _)
          refine gives_of r1 ?_
          have : l = 0 := by omega
          have : h = 0 := by omega
          subst_vars
          simp only [VR]
          exact .inl ⟨by simp [cutL], _, rfl⟩
        · rw [k2]
          obtain ⟨r1, r2, r3⟩ := sliceAt_run (P := P) (w := w) (a := some ⟨b, o + off * j.size, none⟩) hu hi b1 b2 b3 b4 c2 (inB_le c1 k3) k3
          have hle : h ≤ es.length := by
            cases bh with
            | none => have := b4 rfl; omega
            | some m => obtain ⟨k, _, rfl⟩ := b3; simp only [inB] at c1; omega
          refine gives_of r1 ?_
          simp only [VR]
          by_cases hcl : cap = l
          · refine .inl ⟨?_, _, by rw [if_pos hcl]; congr 1 <;> omega⟩
            exact List.eq_nil_of_length_eq_zero (by rw [cutL_length hle]; omega)
          · refine .inr ⟨b, o, cap - l, cc, el, fr, (vs.take h).drop l, k1, ?_, ?_, k4, k5, ?_, ?_, ?_, ?_⟩
            · rw [if_neg hcl, cutL_length hle]
              simp only [Option.map_some, Addr.add_mk, Value.slice.injEq, Option.some.injEq, Addr.mk.injEq, true_and, and_true]
              rw [Nat.add_mul]; omega
            · rw [cutL_length hle]; omega
            · have : off + l + (cap - l) = off + cap := by omega
              rw [this]; exact k6
            · exact fun u hu' => k7 u (List.mem_of_mem_take (List.mem_of_mem_drop hu'))
            · rw [flat_drop (sz := j.size) (fun u hu' => k7 u (List.mem_of_mem_take hu')), flat_take k7]
              have := (k8.take (h * j.size)).drop (l * j.size)
              rwa [Nat.add_assoc, ← Nat.add_mul] at this
            · exact DRs.drop _ (DRs.take _ k9)
      · cases hr
    · cases hr
  · rename_i es h1
    split at hr
    · rename_i bl l bh h g1 g2
      simp only [Option.some.injEq, Prod.mk.injEq] at hr; obtain ⟨rfl, rfl⟩ := hr
      obtain ⟨c1, c2, c3⟩ := hc
      obtain ⟨b1, b2⟩ := bound_sound hO hl g1
      obtain ⟨b3, b4⟩ := bound_sound hO hhh g2
      have hv := hO _ _ _ hx h1
      simp only [VR, DR] at hv
      rcases hv with ⟨h5, a, c0, h6⟩ | ⟨b, o, cap, sz, vs, k2, k3, k4, k7, k8, k9⟩
      · subst h5
        rw [h6]
        obtain ⟨r1, r2, r3⟩ := sliceAt_run (P := P) (w := w) (a := a) (len := 0) (cap := c0) hu hi b1 b2 b3 (by simpa using b4) c2 (inB_le c1 (by simp)) (by omega)
        refine gives_of r1 ?_
        have hh0 : h = 0 := by
          cases bh with
          | none => have := b4 rfl; simpa using this
          | some m => obtain ⟨k, _, rfl⟩ := b3; simp only [inB, List.length_nil] at c1; omega
        subst hh0
        have hl0 : l = 0 := Nat.le_zero.1 r2
        subst hl0
        simp only [VR, DR]
        exact .inl ⟨by simp [cutL], _, _, rfl⟩
      · rw [k2]
        obtain ⟨r1, r2, r3⟩ := sliceAt_run (P := P) (w := w) (a := some ⟨b, o, none⟩) hu hi b1 b2 b3 b4 c2 (inB_le c1 k3) k3
        have hle : h ≤ es.length := by
          cases bh with
          | none => have := b4 rfl; omega
          | some m => obtain ⟨k, _, rfl⟩ := b3; simp only [inB] at c1; omega
        refine gives_of r1 ?_
        simp only [VR, DR]
        by_cases hcl : cap = l
        · refine .inl ⟨?_, some ⟨b, o, none⟩, 0, by rw [if_pos hcl]; congr 1 <;> omega⟩
          exact List.eq_nil_of_length_eq_zero (by rw [cutL_length hle]; omega)
        · by_cases hz : es = []
          · have hvs : vs = [] := List.eq_nil_of_length_eq_zero (by rw [k9.length, hz]; rfl)
            subst hz; subst hvs
            have hl0 : h = 0 := by simpa using hle
            have hl1 : l = 0 := by omega
            subst hl0; subst hl1
            refine .inr ⟨b, o, cap, sz, [], ?_, by simp [cutL], k4, by simp, by simpa [flat] using CellsAt.nil w b o, by simp [cutL, DRs]⟩
            rw [if_neg hcl]; simp [cutL, Addr.add_mk]
          · have hsz : sz = j.size := by
              obtain ⟨e0, he0⟩ : ∃ e0, es[0]? = some e0 := getLast_none (List.length_pos_iff.2 hz)
              obtain ⟨u0, hu0, hd0⟩ := k9.getElem? he0
              rw [← k7 u0 (List.mem_of_getElem? hu0), hd0.size, c3 e0 (List.mem_of_getElem? he0)]
            subst hsz
            refine .inr ⟨b, o + l * j.size, cap - l, j.size, (vs.take h).drop l, ?_, ?_, k4, ?_, ?_, ?_⟩
            · rw [if_neg hcl, cutL_length hle]
              simp only [Option.map_some, Addr.add_mk]
            · rw [cutL_length hle]; omega
            · exact fun u hu' => k7 u (List.mem_of_mem_take (List.mem_of_mem_drop hu'))
            · rw [flat_drop (sz := j.size) (fun u hu' => k7 u (List.mem_of_mem_take hu')), flat_take k7]
              exact (k8.take (h * j.size)).drop (l * j.size)
            · exact DRs.drop _ (DRs.take _ k9)
    · cases hr
  · rename_i h1
    split at hr
    · rename_i bl l bh h g1 g2
      simp only [Option.some.injEq, Prod.mk.injEq] at hr; obtain ⟨rfl, rfl⟩ := hr
      obtain ⟨c1, c2⟩ := hc
      obtain ⟨b1, b2⟩ := bound_sound hO hl g1
      obtain ⟨b3, b4⟩ := bound_sound hO hhh g2
      have hv := hO _ _ _ hx h1
      simp only [VR] at hv
      rw [hv]
      obtain ⟨r1, r2, r3⟩ := sliceAt_run (P := P) (w := w) (a := none) (len := 0) (cap := 0) hu hi b1 b2 b3 b4 c2 c1 (Nat.le_refl _)
      refine gives_of r1 ?_
      have : l = 0 := by omega
      have : h = 0 := by omega
      subst_vars
      simp [VR]
    · cases hr
  · cases hr

end
end Go.Proofs.Ytaghpancpfpnhaa.Abs
