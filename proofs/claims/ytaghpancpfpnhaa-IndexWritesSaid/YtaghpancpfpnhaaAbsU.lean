/- Rules for code. Conditions: none. -/
import Derived.Test.YtaghpancpfpnhaaAbsTb
namespace Go.Proofs.Ytaghpancpfpnhaa.Abs
open Go Go.RowKit
set_option linter.unusedVariables false
set_option linter.unusedSimpArgs false

section
variable {P : Program} {N : Nat} {E : Env} {w : World} {st : St} {tmps : Array Value}

/-- Code from a state that tells less. -/
theorem Ev_le {c : Code} {st st' : St} {Q : Kd → St → Prop} (ρ : List (Tg × Tg)) (h : St.le ρ st st') (hc : Ev P N c st' Q) : Ev P N c st Q := by
  intro E w a h1 h2 h3
  refine wp_mono (hc (E.ren ρ) w a h1 (h2.ren h.1) (h3.le h)) ?_
  rintro e a' w' ⟨k, st2, E', g1, g2, g3⟩
  exact ⟨k, st2, E', g1, g2, g3.size, g3.defers, g3.valid, g3.str, (Step.ren E w ρ).trans g3.step⟩

/-- A loop, by names. -/
theorem Ev_loop' {ι : Type} {c : Code} (S : ι → St) (μ : ι → Nat) {Q : Kd → St → Prop} (h : ∀ x, Ev P N c (S x) fun k st' => match k with | .norm => ∃ y ρ, μ y < μ x ∧ St.le ρ st' (S y) | k => Q k st')
    {x : ι} {st : St} (ρ : List (Tg × Tg)) (hx : St.le ρ st (S x)) : Ev P N (.loop c) st Q :=
  Ev_le ρ hx (Ev_loop S μ (fun x => (h x).mono fun k s hk => by
    cases k with
    | norm =>
      obtain ⟨y, ρ, g1, g2⟩ := hk
      exact ⟨y, g1, fun E w tmps k1 k2 => ⟨E.ren ρ, k1.ren g2.1, k2.le g2, Step.ren E w ρ⟩⟩
    | _ => exact hk) x)

theorem Ev_skip {st : St} {Q : Kd → St → Prop} (h : Q .norm st) : Ev P N .skip st Q := fun E w a h1 h2 h3 => wp_skip ⟨.norm, st, E, rfl, h, h1, rfl, h2, h3, Step.refl _ _⟩
theorem Ev_exit {id : Nat} {st : St} {Q : Kd → St → Prop} (h : Q (.exit id) st) : Ev P N (.exit id) st Q := fun E w a h1 h2 h3 => wp_exit ⟨.exit id, st, E, rfl, h, h1, rfl, h2, h3, Step.refl _ _⟩
theorem Ev_ret {st : St} {Q : Kd → St → Prop} (h : Q .ret st) : Ev P N .ret st Q := fun E w a h1 h2 h3 => wp_ret ⟨.ret, st, E, rfl, h, h1, rfl, h2, h3, Step.refl _ _⟩

theorem Ev_reg {id : Nat} {ops : Array Oper} {al : List AOper} {st : St} {Q : Kd → St → Prop} (ht : trOpers P N ops (id * 100) ops.toList = some al) (h : vcOps P al st (Q .norm)) : Ev P N (.region id ops false) st Q := by
  intro E w a h1 h2 h3
  refine wp_region_list ?_
  exact vcOps_sound (E0 := E) (w0 := w) (d0 := a.defers) (fun E' w' st' a' hT hk => ⟨.norm, st', E', rfl, hk, hT⟩) _ _ al ht E w st a ⟨h1, rfl, h2, h3, Step.refl _ _⟩ h

/-- An operand's truth, known. -/
def St.litO (st : St) (o : Opd) (b : Bool) : St := match o with
  | .t n => st.lit n b
  | .c _ => st

/-- A choice. -/
theorem Ev_cond {c : Operand} {o : Opd} {x y : Code} {st : St} {Q : Kd → St → Prop} (hc : trO c = some o) {b : Bool} (hb : st.val o = some (.d (.bool b))) (hx : b = true → Ev P N x (st.litO o true) Q) (hy : b = false → Ev P N y (st.litO o false) Q) : Ev P N (.cond c x y) st Q := by
  intro E w a h1 h2 h3
  have hv := trO_sound hc h3 hb
  simp only [VR, DR] at hv
  have hl : StR E w (st.litO o b) a.tmps := by
    cases o with
    | c p => exact h3
    | t n =>
      obtain ⟨u, g1, g2⟩ := h3.get (show st.get n = some (.d (.bool b)) from hb)
      exact h3.known g1 g2
  exact wp_cond_split hv (fun h => hx h E w a h1 h2 (by rw [h] at hl; exact hl)) (fun h => hy h E w a h1 h2 (by rw [h] at hl; exact hl))

theorem Ev_draw {id : Nat} {ops : Array Oper} {al : List AOper} {its : List DIt} {st : St} {Q : Kd → St → Prop} (ht : trOpers P N ops (id * 100) ops.toList = some al) (hd : drawIts P ops al = some its) (h : vcDraw P its st (Q .norm)) : Ev P N (.region id ops true) st Q := by
  intro E w a h1 h2 h3
  simp only [drawIts] at hd
  split at hd
  · rename_i hc
    simp only [Option.some.injEq] at hd; subst hd
    simp only [Bool.and_eq_true] at hc
    have hS := stat_of hc.2
    refine wp_region_any hc.1 ?_
    have hv : Valid E { w with drawn := w.drawn + 1 } := ⟨h2.row_lt, h2.box_lt, h2.row_row, h2.box_box, h2.row_box, h2.prot_lt⟩
    have hs : StR E { w with drawn := w.drawn + 1 } st a.tmps := h3.keep (fun _ h => h) (fun _ _ => rfl) (fun _ _ h => ⟨h, rfl⟩) (fun _ _ h => ⟨h, rfl⟩)
    have hT : Told N E w a.defers E { w with drawn := w.drawn + 1 } st a := ⟨h1, rfl, hv, hs, ⟨rfl, rfl, rfl, Nat.le_refl _, fun _ _ _ => rfl, fun _ h => .inl h, fun _ h => h, fun _ h => .inl h, fun _ _ h => h⟩⟩
    have hun : ∀ i, i < ops.size → (Array.replicate ops.size false).getD i true = false := fun i hi => by
      simp [Array.getD_eq_getD_getElem?, Array.getElem?_replicate, hi]
    refine sim_any (tb := ancs ops ops.size) hS ht (K := Q .norm) (fun E' w' st' a' hT hk => ⟨.norm, st', E', rfl, hk, hT⟩) ops.size _ [] _ a _ a E st rfl ?_ h ?_
    · exact ⟨hT, fun i hi hl => (by rw [hun i hi] at hl; cases hl), fun i hi => (by simp at hi), fun i hi hl => (by rw [hun i hi] at hl; cases hl), by simp, rfl, rfl, fun _ _ => rfl, fun i o hi => (by simp at hi)⟩
    · unfold unl
      exact Nat.le_trans (List.length_filter_le _ _) (by simp)
  · cases hd

end
end Go.Proofs.Ytaghpancpfpnhaa.Abs
