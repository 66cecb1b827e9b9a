/- States by other names, and with less told. Conditions: none. -/
import Derived.Test.YtaghpancpfpnhaaAbsR
namespace Go.Proofs.Ytaghpancpfpnhaa.Abs
open Go Go.RowKit
set_option linter.unusedVariables false
set_option linter.unusedSimpArgs false

/-- Old names of new names. -/
def lookT (t : Tg) : List (Tg × Tg) → Option Tg
  | [] => none
  | (a, b) :: r => if t = a then some b else lookT t r

theorem lookT_mem {t s : Tg} : ∀ {ρ : List (Tg × Tg)}, lookT t ρ = some s → (t, s) ∈ ρ
  | [], h => by simp [lookT] at h
  | (a, b) :: r, h => by
    simp only [lookT] at h
    split at h
    · rename_i he; subst he; simp at h; subst h; simp
    · exact List.mem_cons_of_mem _ (lookT_mem h)

theorem inj_of_nodup {ρ : List (Tg × Tg)} (h : (ρ.map Prod.snd).Nodup) : ∀ {t u s : Tg}, (t, s) ∈ ρ → (u, s) ∈ ρ → t = u := by
  induction ρ with
  | nil => intro t u s h1; simp at h1
  | cons x r ih =>
    obtain ⟨a, b⟩ := x
    intro t u s h1 h2
    simp only [List.map_cons, List.nodup_cons] at h
    rcases List.mem_cons.1 h1 with h1 | h1 <;> rcases List.mem_cons.1 h2 with h2 | h2
    · cases h1; cases h2; rfl
    · cases h1; exact absurd (List.mem_map_of_mem (f := Prod.snd) h2) h.1
    · cases h2; exact absurd (List.mem_map_of_mem (f := Prod.snd) h1) h.1
    · exact ih h.2 h1 h2

/-- Old names of boxes: those that were handed in keep theirs. -/
def srcB (ρ : List (Tg × Tg)) : Tg → Option Tg
  | .up u => some (.up u)
  | k => match lookT k ρ with
    | some (.up _) => none
    | x => x

theorem srcB_inj {ρ : List (Tg × Tg)} (hn : (ρ.map Prod.snd).Nodup) {t u s : Tg} (h1 : srcB ρ t = some s) (h2 : srcB ρ u = some s) : t = u := by
  have key : ∀ t s, srcB ρ t = some s → (t = s ∧ s.isUp = true) ∨ ((t, s) ∈ ρ ∧ s.isUp = false) := by
    intro t s h
    unfold srcB at h
    split at h
    · cases h; exact .inl ⟨rfl, rfl⟩
    · split at h
      · cases h
      · rename_i x hx
        refine .inr ⟨lookT_mem h, ?_⟩
        cases s with
        | up u => exact absurd h (hx u)
        | _ => rfl
  rcases key t s h1 with ⟨rfl, g1⟩ | ⟨g1, g2⟩ <;> rcases key u _ h2 with ⟨rfl, g3⟩ | ⟨g3, g4⟩
  · rfl
  · rw [g1] at g4; cases g4
  · rw [g2] at g3; cases g3
  · exact inj_of_nodup hn g1 g3

/-- Names by others: of rows, of boxes. -/
abbrev Nm := Tg → Option Tg

def Env.re (E : Env) (ρ β : Nm) : Env :=
  ⟨fun t => (ρ t).bind E.row, fun t => (β t).bind E.box, E.prot⟩

theorem re_row {E : Env} {ρ β : Nm} {t : Tg} {r : Nat × Nat} (h : (E.re ρ β).row t = some r) : ∃ s, ρ t = some s ∧ E.row s = some r := by
  simp only [Env.re, Option.bind_eq_some_iff] at h
  exact h
theorem re_box {E : Env} {ρ β : Nm} {t : Tg} {r : Nat} (h : (E.re ρ β).box t = some r) : ∃ s, β t = some s ∧ E.box s = some r := by
  simp only [Env.re, Option.bind_eq_some_iff] at h
  exact h

def InjN (ρ : Nm) : Prop := ∀ t u s, ρ t = some s → ρ u = some s → t = u

theorem Valid.re {E : Env} {w : World} (h : Valid E w) {ρ β : Nm} (hr : InjN ρ) (hb : InjN β) : Valid (E.re ρ β) w := by
  refine ⟨fun t b o ht => ?_, fun k b hk => ?_, fun t u b o o' ht hu => ?_, fun t u b ht hu => ?_, fun t k b o ht hk => ?_, h.prot_lt⟩
  · obtain ⟨s, _, h2⟩ := re_row ht; exact h.row_lt _ _ _ h2
  · obtain ⟨s, _, h2⟩ := re_box hk; exact h.box_lt _ _ h2
  · obtain ⟨s, h1, h2⟩ := re_row ht; obtain ⟨s', h3, h4⟩ := re_row hu
    have := h.row_row _ _ _ _ _ h2 h4; subst this
    exact hr _ _ _ h1 h3
  · obtain ⟨s, h1, h2⟩ := re_box ht; obtain ⟨s', h3, h4⟩ := re_box hu
    have := h.box_box _ _ _ h2 h4; subst this
    exact hb _ _ _ h1 h3
  · obtain ⟨s, h1, h2⟩ := re_row ht; obtain ⟨s', h3, h4⟩ := re_box hk
    exact h.row_box _ _ _ _ h2 h4

theorem Own.re {E : Env} {ρ β : Nm} {b : Nat} (h : Own (E.re ρ β) b) : Own E b := by
  rcases h with ⟨t, o, h⟩ | ⟨k, h⟩
  · obtain ⟨s, _, h2⟩ := re_row h; exact .inl ⟨_, _, h2⟩
  · obtain ⟨s, _, h2⟩ := re_box h; exact .inr ⟨_, h2⟩

theorem Step.re (E : Env) (w : World) (ρ β : Nm) (hp : ∀ u, β (.up u) = some (.up u)) : Step E w (E.re ρ β) w :=
  ⟨rfl, rfl, rfl, Nat.le_refl _, fun _ _ _ => rfl, fun b hb => .inl hb.re, fun _ h => h, fun _ h => .inl h, fun t b h => by simp only [Env.re, hp, Option.bind_some]; exact h⟩

mutual
/-- One value tells no less than another, by other names. -/
def PV.le (ρ β : Nm) : PV → PV → Prop
  | p, .unk => True
  | p, .d y => p.tags = [] ∧ p.toD = some y
  | p, .nils => p = .nils
  | p, .sl t' sz' off' es' => match p with
    | .nils => es' = []
    | .sl t sz off es => (ρ t' = some t ∧ sz = sz' ∧ off = off') ∧ es = es'
    | _ => False
  | p, .ptr k' o' => match p with
    | .ptr k o => β k' = some k ∧ o = o'
    | _ => False
  | p, .ep t' sz' i' f' e' => match p with
    | .ep t sz i f e => ρ t' = some t ∧ sz = sz' ∧ i = i' ∧ f = f' ∧ e = e'
    | _ => False
  | p, .agg cs' => match p with
    | .agg cs => PV.leL ρ β cs cs'
    | _ => False
  | p, .clo fn' a' b' => match p with
    | .clo fn a b => fn = fn' ∧ PV.leL ρ β a a' ∧ PV.leL ρ β b b'
    | _ => False
  | p, .ifc t' x' => match p with
    | .ifc t x => t = t' ∧ PV.le ρ β x x'
    | _ => False
  | p, .tup xs' => match p with
    | .tup xs => PV.leL ρ β xs xs'
    | _ => False
def PV.leL (ρ β : Nm) : List PV → List PV → Prop
  | ps, [] => ps = []
  | ps, y :: ys => match ps with
    | p :: ps => PV.le ρ β p y ∧ PV.leL ρ β ps ys
    | [] => False
end

section
variable {P : Program} {E : Env} {w : World} {st : St} {tmps : Array Value}

mutual
theorem VR.le {ρ β : Nm} : ∀ (q p : PV) (v : Value), PV.le ρ β p q → VR E w p v → VR (E.re ρ β) w q v
  | .unk, p, v, h, hv => by simp only [VR]
  | .d y, p, v, h, hv => by
    simp only [PV.le] at h
    simp only [VR]
    exact toD_sound (E := E) (pr := E.prot) (fun _ h => h) p v y h.2 (fun t ht => by rw [h.1] at ht; simp at ht) hv
  | .nils, p, v, h, hv => by
    simp only [PV.le] at h; subst h; simpa only [VR] using hv
  | .sl t' sz' off' es', p, v, h, hv => by
    cases p <;> simp only [PV.le] at h
    case nils =>
      subst h
      simp only [VR] at hv ⊢
      exact .inl ⟨trivial, _, hv⟩
    case sl t sz off es =>
      obtain ⟨⟨h1, rfl, rfl⟩, rfl⟩ := h
      simp only [VR] at hv ⊢
      rcases hv with hv | ⟨b, o, cap, c, el, fr, vs, g1, g2⟩
      · exact .inl hv
      · exact .inr ⟨b, o, cap, c, el, fr, vs, by simp only [Env.re, h1, Option.bind_some]; exact g1, g2⟩
  | .ptr k' o', p, v, h, hv => by
    cases p <;> simp only [PV.le] at h
    obtain ⟨h1, rfl⟩ := h
    simp only [VR] at hv ⊢
    obtain ⟨b, g1, g2⟩ := hv
    exact ⟨b, by simp only [Env.re, h1, Option.bind_some]; exact g1, g2⟩
  | .ep t' sz' i' f' e', p, v, h, hv => by
    cases p <;> simp only [PV.le] at h
    obtain ⟨h1, rfl, rfl, rfl, rfl⟩ := h
    simp only [VR] at hv ⊢
    obtain ⟨b, o, c, el, fr, g1, g2⟩ := hv
    exact ⟨b, o, c, el, fr, by simp only [Env.re, h1, Option.bind_some]; exact g1, g2⟩
  | .agg cs', p, v, h, hv => by
    cases p <;> simp only [PV.le] at h
    simp only [VR] at hv ⊢
    obtain ⟨arr, g1, g0, g2⟩ := hv
    exact ⟨arr, g1, g0, VRs.le cs' _ _ h g2⟩
  | .clo fn' a' b', p, v, h, hv => by
    cases p <;> simp only [PV.le] at h
    obtain ⟨rfl, h1, h2⟩ := h
    simp only [VR] at hv ⊢
    obtain ⟨fa, fb, g1, g2, g3⟩ := hv
    exact ⟨fa, fb, g1, VRs.le a' _ _ h1 g2, VRs.le b' _ _ h2 g3⟩
  | .ifc t' x', p, v, h, hv => by
    cases p <;> simp only [PV.le] at h
    obtain ⟨rfl, h1⟩ := h
    simp only [VR] at hv ⊢
    obtain ⟨u, g1, g2⟩ := hv
    exact ⟨u, g1, VR.le x' _ _ h1 g2⟩
  | .tup xs', p, v, h, hv => by
    cases p <;> simp only [PV.le] at h
    simp only [VR] at hv ⊢
    obtain ⟨arr, g1, g2⟩ := hv
    exact ⟨arr, g1, VRs.le xs' _ _ h g2⟩
theorem VRs.le {ρ β : Nm} : ∀ (qs ps : List PV) (vs : List Value), PV.leL ρ β ps qs → VRs E w ps vs → VRs (E.re ρ β) w qs vs
  | [], ps, vs, h, hv => by
    simp only [PV.leL] at h; subst h; simpa only [VRs] using hv
  | q :: qs, [], vs, h, hv => by simp only [PV.leL] at h
  | q :: qs, p :: ps, vs, h, hv => by
    simp only [PV.leL] at h
    simp only [VRs] at hv ⊢
    obtain ⟨u, us, g1, g2, g3⟩ := hv
    exact ⟨u, us, g1, VR.le q p u h.1 g2, VRs.le qs ps us h.2 g3⟩
end

/-- A state tells no less than another. -/
def leTm (ρ β : Nm) (st : St) : List (Nat × PV) → Prop
  | [] => True
  | (d, q) :: r => (match st.get d with
    | some p => PV.le ρ β p q
    | none => False) ∧ leTm ρ β st r
def leBx (ρ β : Nm) (st : St) : List (Tg × List PV) → Prop
  | [] => True
  | (k, qs) :: r => (match β k with
    | some s => match st.box s with
      | some ps => PV.leL ρ β ps qs
      | none => False
    | none => False) ∧ leBx ρ β st r

theorem leTm_mem {ρ β : Nm} {d : Nat} {q : PV} : ∀ {l : List (Nat × PV)}, leTm ρ β st l → (d, q) ∈ l → ∃ p, st.get d = some p ∧ PV.le ρ β p q
  | (e, x) :: r, h, hm => by
    simp only [leTm] at h
    rcases List.mem_cons.1 hm with hm | hm
    · cases hm
      cases hg : st.get d with
      | none => rw [hg] at h; exact h.1.elim
      | some p => rw [hg] at h; exact ⟨p, rfl, h.1⟩
    · exact leTm_mem h.2 hm
  | [], _, hm => by simp at hm
theorem leBx_mem {ρ β : Nm} {k : Tg} {qs : List PV} : ∀ {l : List (Tg × List PV)}, leBx ρ β st l → (k, qs) ∈ l → ∃ s ps, β k = some s ∧ st.box s = some ps ∧ PV.leL ρ β ps qs
  | (e, x) :: r, h, hm => by
    simp only [leBx] at h
    rcases List.mem_cons.1 hm with hm | hm
    · cases hm
      cases hg : β k with
      | none => simp only [hg] at h; exact h.1.elim
      | some s =>
        simp only [hg] at h
        cases hb : st.box s with
        | none => simp only [hb] at h; exact h.1.elim
        | some ps => simp only [hb] at h; exact ⟨s, ps, rfl, hb, h.1⟩
    · exact leBx_mem h.2 hm
  | [], _, hm => by simp at hm

theorem StR.re (hs : StR E w st tmps) {ρ β : Nm} {st' : St} (h2 : leTm ρ β st st'.tm) (h3 : leBx ρ β st st'.bx) : StR (E.re ρ β) w st' tmps := by
  refine ⟨fun d q hq => ?_, fun k qs hq => ?_⟩
  · obtain ⟨p, g1, g2⟩ := leTm_mem h2 hq
    obtain ⟨u, g3, g4⟩ := hs.get g1
    exact ⟨u, g3, VR.le q p u g2 g4⟩
  · obtain ⟨s, ps, g1, g2, g3⟩ := leBx_mem h3 hq
    obtain ⟨b, c, el, fr, k1, k2, k3, k4, k5⟩ := hs.bx _ _ (getB_mem g2)
    exact ⟨b, c, el, fr, by simp only [Env.re, g1, Option.bind_some]; exact k1, k2, k3, k4, VRs.le qs ps _ g3 k5⟩

/-- THE STATE st' tells no more than st, by the names of ρ. -/
def St.le (ρ : List (Tg × Tg)) (st st' : St) : Prop := (ρ.map Prod.snd).Nodup ∧ leTm (fun t => lookT t ρ) (srcB ρ) st st'.tm ∧ leBx (fun t => lookT t ρ) (srcB ρ) st st'.bx

abbrev Env.ren (E : Env) (ρ : List (Tg × Tg)) : Env := E.re (fun t => lookT t ρ) (srcB ρ)

theorem lookT_inj {ρ : List (Tg × Tg)} (hn : (ρ.map Prod.snd).Nodup) : InjN fun t => lookT t ρ := fun t u s h1 h2 => inj_of_nodup hn (lookT_mem h1) (lookT_mem h2)

theorem Valid.ren (h : Valid E w) {ρ : List (Tg × Tg)} (hn : (ρ.map Prod.snd).Nodup) : Valid (E.ren ρ) w := h.re (lookT_inj hn) (fun _ _ _ h1 h2 => srcB_inj hn h1 h2)
theorem Step.ren (E : Env) (w : World) (ρ : List (Tg × Tg)) : Step E w (E.ren ρ) w := Step.re E w _ _ fun u => rfl
theorem StR.le (hs : StR E w st tmps) {ρ : List (Tg × Tg)} {st' : St} (h : St.le ρ st st') : StR (E.ren ρ) w st' tmps := hs.re h.2.1 h.2.2

end
end Go.Proofs.Ytaghpancpfpnhaa.Abs
