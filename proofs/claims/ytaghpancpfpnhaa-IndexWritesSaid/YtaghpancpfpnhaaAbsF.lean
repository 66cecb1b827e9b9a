/- Operations that read come to what is told. Conditions: none. -/
import Derived.Test.YtaghpancpfpnhaaAbsE
namespace Go.Proofs.Ytaghpancpfpnhaa.Abs
open Go Go.RowKit
set_option linter.unusedVariables false
set_option linter.unusedSimpArgs false

section
variable {P : Program} {E : Env} {w : World} {ρ : Operand → Value} {f : Opd → Option PV} {bx : Tg → Option (List PV)}

/-- What boxes hold is told. -/
def BxR (E : Env) (w : World) (bx : Tg → Option (List PV)) : Prop :=
  ∀ k cs, bx k = some cs → ∃ b c el fr, E.box k = some b ∧ w.heap[b]? = some (.cells c el fr) ∧ Unfz c fr ∧ OneC c.toList ∧ VRs E w cs c.toList

/-- A reading operation comes to a value that is told, in the same world. -/
def Gives (P : Program) (E : Env) (w : World) (s : Sem Next) (v : PV) : Prop := ∃ u, s.run P w = .ok (.value u) w ∧ VR E w v u

theorem gives_of {s : Sem Value} {v : PV} {u : Value} (h : s.run P w = .ok u w) (hv : VR E w v u) : Gives P E w (do pure (.value (← s))) v :=
  ⟨u, by simp [h], hv⟩

theorem indexAt_slice {t e : TypeId} {j : TypeInfo} (hu : P.underlying t = some (.slice e)) (hi : P.info? e = some j) {b o len cap : Nat} {k : IntKind} {n : Int} (h0 : 0 ≤ n) (h1 : n < (len : Int)) :
    (Instr.indexAt t (.slice (some ⟨b, o, none⟩) len cap) (.int k n)).run P w = .ok (.pointer (some ⟨b, o + n.toNat * j.size, none⟩)) w := by
  simp [Instr.indexAt, asIntOf, run_underlying hu, run_sizeOf' hi, h0, h1, Addr.add_mk]

theorem indexAt_arr {t e : TypeId} {j : TypeInfo} {m : Nat} (hu : P.underlying t = some (.array m e)) (hi : P.info? e = some j) {b o : Nat} {k : IntKind} {n : Int} (h0 : 0 ≤ n) (h1 : n < (m : Int)) :
    (Instr.indexAt t (.pointer (some ⟨b, o, none⟩)) (.int k n)).run P w = .ok (.pointer (some ⟨b, o + n.toNat * j.size, none⟩)) w := by
  simp [Instr.indexAt, asIntOf, run_underlying hu, run_sizeOf' hi, h0, h1, Addr.add_mk, Instr.sureAddr]

theorem idxA_sound {t e : TypeId} {j : TypeInfo} (hu : P.underlying t = some (.slice e)) (hi : P.info? e = some j) {x i : Opd} {vx vi : Value} {c : Prop} {v : PV}
    (hx : ∀ p, f x = some p → VR E w p vx) (hix : ∀ k n, ix f i = some (k, n) → vi = .int k n)
    (hr : rop (.idxA j.size x i) f bx = some (c, v)) (hc : c) : Gives P E w (do pure (.value (← Instr.indexAt t vx vi))) v := by
  simp only [rop] at hr
  split at hr
  · rename_i t' sz' off es k n h1 h2
    split at hr
    · rename_i hsz; subst hsz
      simp only [Option.some.injEq, Prod.mk.injEq] at hr; obtain ⟨rfl, rfl⟩ := hr
      obtain ⟨h3, h4⟩ := hc
      have hv := hx _ h1
      rw [hix _ _ h2]
      simp only [VR] at hv
      have hlen : n.toNat < es.length := by omega
      rcases hv with ⟨h5, _⟩ | ⟨b, o, cap, cc, el, fr, vs, g1, rfl, g3, g4, g5, g6, g7, g8, g9⟩
      · subst h5; simp at hlen
      · refine gives_of (indexAt_slice hu hi h3 h4) ?_
        obtain ⟨u, g10, g11, g12⟩ := lst_elem g7 g8 g9 hlen
        simp only [VR]
        have hm : o + (off + n.toNat) * j.size + j.size ≤ o + (off + cap) * j.size := by
          have := Nat.mul_le_mul_right j.size (show off + n.toNat + 1 ≤ off + cap by omega)
          rw [Nat.add_mul _ 1, Nat.one_mul] at this; omega
        have he : o + off * j.size + n.toNat * j.size = o + (off + n.toNat) * j.size := by rw [Nat.add_mul]; omega
        refine ⟨b, o, cc, el, fr, g1, by simp only [Option.getD_none, Nat.add_zero]; rw [← he], g4, g5, by omega, fun x hx' => ?_⟩
        simp only [Option.some.injEq] at hx'; subst hx'
        exact ⟨u, g10, g11, by rw [← he]; exact g12⟩
    · cases hr
  · rename_i es k n h1 h2
    simp only [Option.some.injEq, Prod.mk.injEq] at hr; obtain ⟨rfl, rfl⟩ := hr
    obtain ⟨h3, h4, h5⟩ := hc
    have hv := hx _ h1
    rw [hix _ _ h2]
    simp only [VR, DR] at hv
    have hlen : n.toNat < es.length := by omega
    rcases hv with ⟨h6, _⟩ | ⟨b, o, cap, sz, vs, rfl, g2, g3, g4, g5, g6⟩
    · subst h6; simp at hlen
    · refine gives_of (indexAt_slice hu hi h3 h4) ?_
      obtain ⟨u, g10, g11, g12⟩ := lst_elem g4 g5 g6 hlen
      have hsz : sz = j.size := by rw [← g11, g10.size, h5]
      subst hsz
      simp only [VR, DR]
      exact ⟨b, _, u.cells.toList, rfl, g3, g10.one, g12, g10.cells⟩
  · cases hr

theorem idxAr_sound {t e : TypeId} {j : TypeInfo} {m : Nat} (hu : P.underlying t = some (.array m e)) (hi : P.info? e = some j) {x i : Opd} {vx vi : Value} {c : Prop} {v : PV}
    (hx : ∀ p, f x = some p → VR E w p vx) (hix : ∀ k n, ix f i = some (k, n) → vi = .int k n)
    (hr : rop (.idxAr j.size m x i) f bx = some (c, v)) (hc : c) : Gives P E w (do pure (.value (← Instr.indexAt t vx vi))) v := by
  simp only [rop] at hr
  split at hr
  · rename_i k' o' k n h1 h2
    simp only [Option.some.injEq, Prod.mk.injEq] at hr; obtain ⟨rfl, rfl⟩ := hr
    have hv := hx _ h1
    rw [hix _ _ h2]
    simp only [VR] at hv
    obtain ⟨b, h3, rfl⟩ := hv
    refine gives_of (indexAt_arr hu hi hc.1 hc.2) ?_
    simp only [VR]
    exact ⟨b, h3, rfl⟩
  · rename_i t' sz' j' g e' k n h1 h2
    simp only [Option.some.injEq, Prod.mk.injEq] at hr; obtain ⟨rfl, rfl⟩ := hr
    have hv := hx _ h1
    rw [hix _ _ h2]
    simp only [VR] at hv
    obtain ⟨b, o, cc, el, fr, g1, rfl, g3⟩ := hv
    refine gives_of (indexAt_arr hu hi hc.1 hc.2) ?_
    simp only [VR]
    exact ⟨b, o, cc, el, fr, g1, by simp only [Option.getD_some]; rw [Nat.add_assoc], g3⟩
  · rename_i cs g k n h1 h2
    simp only [Option.some.injEq, Prod.mk.injEq] at hr; obtain ⟨rfl, rfl⟩ := hr
    have hv := hx _ h1
    rw [hix _ _ h2]
    simp only [VR, DR] at hv
    obtain ⟨b, o, vs, rfl, g3⟩ := hv
    refine gives_of (indexAt_arr hu hi hc.1 hc.2) ?_
    simp only [VR, DR]
    exact ⟨b, o, vs, by rw [Nat.add_assoc], g3⟩
  · cases hr

theorem getLast_none {α : Type} {l : List α} {i : Nat} (h : i < l.length) : ∃ x, l[i]? = some x := ⟨l[i], List.getElem?_eq_getElem h⟩

theorem load_sound {t : TypeId} {u : TypeDesc} {j : TypeInfo} (hu : P.underlying t = some u) (hi : P.info? t = some j) (hB : BxR E w bx) {x : Opd} {vx : Value} {c : Prop} {v : PV}
    (hx : ∀ p, f x = some p → VR E w p vx) (hr : rop (.load (aggT u) j.size x) f bx = some (c, v)) (hc : c) : Gives P E w (do pure (.value (← Instr.loadAt t vx))) v := by
  simp only [rop] at hr
  split at hr
  · rename_i k o h1
    split at hr
    · rename_i cs h2
      have hv := hx _ h1
      simp only [VR] at hv
      obtain ⟨b, h3, rfl⟩ := hv
      obtain ⟨b', cc, el, fr, h4, h5, h6, h0, h7⟩ := hB _ _ h2
      rw [h3] at h4; cases h4
      have hcell : CellsAt w b 0 cc.toList := by
        intro i c' hc'
        simp only [World.cell?, h5, Nat.zero_add]
        simpa using hc'
      have hlen := h7.length
      split at hr
      · rename_i hag
        simp only [Option.some.injEq, Prod.mk.injEq] at hr; obtain ⟨rfl, rfl⟩ := hr
        have h8 := (hcell.drop o).take j.size
        rw [Nat.zero_add] at h8
        refine gives_of (by
          simp only [Instr.loadAt, Instr.sureAddr, Sem.run_bind, Sem.run_pure, Result.andThen_ok]
          exact run_loadVar_agg hu hi hag h8 (by rw [List.length_take, List.length_drop]; omega)) ?_
        simp only [VR]
        exact ⟨_, rfl, h0.slice _ _, VRs.take _ (VRs.drop _ h7)⟩
      · rename_i hag
        simp only [Option.some.injEq, Prod.mk.injEq] at hr; obtain ⟨rfl, rfl⟩ := hr
        obtain ⟨y, h8, h9⟩ := h7.at hc
        refine gives_of (by
          simp only [Instr.loadAt, Instr.sureAddr, Sem.run_bind, Sem.run_pure, Result.andThen_ok]
          exact run_loadVar_one hu (by simpa using hag) (by have := hcell _ _ h8; rwa [Nat.zero_add] at this)) h9
    · cases hr
  · rename_i t' sz' i g e h1
    have hv := hx _ h1
    simp only [VR] at hv
    obtain ⟨b, o, cc, el, fr, g1, rfl, g3, g4, g5, g6⟩ := hv
    obtain ⟨u', g7, g8, g9⟩ := g6 e rfl
    have g10 := g7.cells
    have hlen := g10.length
    split at hr
    · rename_i hag
      simp only [Option.some.injEq, Prod.mk.injEq] at hr; obtain ⟨rfl, rfl⟩ := hr
      have h8 := (g9.drop (g.getD 0)).take j.size
      refine gives_of (by
        simp only [Instr.loadAt, Instr.sureAddr, Sem.run_bind, Sem.run_pure, Result.andThen_ok]
        exact run_loadVar_agg hu hi hag h8 (by rw [List.length_take, List.length_drop]; omega)) ?_
      simp only [VR, DR]
      exact ⟨_, rfl, g7.one.slice _ _, DRs.slice g10 _ _⟩
    · rename_i hag
      simp only [Option.some.injEq, Prod.mk.injEq] at hr; obtain ⟨rfl, rfl⟩ := hr
      obtain ⟨y, h8, h9⟩ := g10.at hc
      refine gives_of (by
        simp only [Instr.loadAt, Instr.sureAddr, Sem.run_bind, Sem.run_pure, Result.andThen_ok]
        exact run_loadVar_one hu (by simpa using hag) (g9 _ _ h8)) (by simpa only [VR] using h9)
  · rename_i cs g h1
    have hv := hx _ h1
    simp only [VR, DR] at hv
    obtain ⟨b, o, vs, rfl, g3, g0, g9, g10⟩ := hv
    have hlen := g10.length
    split at hr
    · rename_i hag
      simp only [Option.some.injEq, Prod.mk.injEq] at hr; obtain ⟨rfl, rfl⟩ := hr
      have h8 := (g9.drop g).take j.size
      refine gives_of (by
        simp only [Instr.loadAt, Instr.sureAddr, Sem.run_bind, Sem.run_pure, Result.andThen_ok]
        exact run_loadVar_agg hu hi hag h8 (by rw [List.length_take, List.length_drop]; omega)) ?_
      simp only [VR, DR]
      exact ⟨_, rfl, g0.slice _ _, DRs.slice g10 _ _⟩
    · rename_i hag
      simp only [Option.some.injEq, Prod.mk.injEq] at hr; obtain ⟨rfl, rfl⟩ := hr
      obtain ⟨y, h8, h9⟩ := g10.at hc
      refine gives_of (by
        simp only [Instr.loadAt, Instr.sureAddr, Sem.run_bind, Sem.run_pure, Result.andThen_ok]
        exact run_loadVar_one hu (by simpa using hag) (g9 _ _ h8)) (by simpa only [VR] using h9)
  · cases hr

end
end Go.Proofs.Ytaghpancpfpnhaa.Abs
