/- Names given up, given anew, and rows that stay from now on. Conditions: none. -/
import Derived.Test.YtaghpancpfpnhaaAbsJ
namespace Go.Proofs.Ytaghpancpfpnhaa.Abs
open Go Go.RowKit
set_option linter.unusedVariables false
set_option linter.unusedSimpArgs false

/-- A name's values are forgotten. -/
def killF (t : Tg) : PV → PV
  | .sl u sz off es => if u = t then .unk else .sl u sz off es
  | .ptr k o => if k = t then .unk else .ptr k o
  | .ep u sz i f e => if u = t then .unk else .ep u sz i f e
  | p => p

/-- Rows that are never written from now on. -/
def frzF (ts : List Tg) : PV → PV
  | .sl u sz off es => if u ∈ ts then .d (.lst es) else .sl u sz off es
  | .ep u sz i f e => if u ∈ ts then (match e with | some x => .d (.cp x.cells (f.getD 0)) | none => .unk) else .ep u sz i f e
  | p => p

def St.rebind (st : St) (t : Tg) : St := ⟨mapLT (killF t) st.tm, delB t (mapLB (killF t) st.bx)⟩
def St.frz (st : St) (ts : List Tg) : St := match ts with
  | [] => st
  | _ => st.map (frzF ts)

/-- Boxes that are handed in keep their names. -/
def Tg.isUp : Tg → Bool
  | .up _ => true
  | _ => false

def Env.unbind (E : Env) (t : Tg) : Env := ⟨fun u => if u = t then none else E.row u, fun u => if u = t ∧ u.isUp = false then none else E.box u, E.prot⟩
def Env.bindRow (E : Env) (t : Tg) (b o : Nat) : Env := ⟨fun u => if u = t then some (b, o) else E.row u, E.box, E.prot⟩
def Env.bindBox (E : Env) (t : Tg) (b : Nat) : Env := ⟨E.row, fun u => if u = t then some b else E.box u, E.prot⟩
def Env.frz (E : Env) (ts : List Tg) : Env := ⟨fun u => if u ∈ ts then none else E.row u, E.box, fun b => E.prot b ∨ ∃ t ∈ ts, ∃ o, E.row t = some (b, o)⟩

section
variable {E : Env} {w : World} {st : St} {tmps : Array Value}

theorem Env.unbind_row {t u : Tg} {r : Nat × Nat} : (E.unbind t).row u = some r ↔ u ≠ t ∧ E.row u = some r := by
  simp only [Env.unbind]; split <;> simp_all
theorem Env.unbind_box {t u : Tg} {b : Nat} : (E.unbind t).box u = some b ↔ (u ≠ t ∨ u.isUp = true) ∧ E.box u = some b := by
  simp only [Env.unbind]
  by_cases h1 : u = t <;> by_cases h2 : u.isUp = true <;> simp [h1, h2] <;> simp_all
theorem Env.frz_row {ts : List Tg} {u : Tg} {r : Nat × Nat} : (E.frz ts).row u = some r ↔ u ∉ ts ∧ E.row u = some r := by
  simp only [Env.frz]; split <;> simp_all

theorem Own.unbind {t : Tg} {b : Nat} (h : Own (E.unbind t) b) : Own E b := by
  rcases h with ⟨u, o, h⟩ | ⟨k, h⟩
  · exact .inl ⟨u, o, (Env.unbind_row.1 h).2⟩
  · exact .inr ⟨k, (Env.unbind_box.1 h).2⟩

theorem Valid.unbind (h : Valid E w) (t : Tg) : Valid (E.unbind t) w := by
  refine ⟨fun u b o hu => h.row_lt u b o (Env.unbind_row.1 hu).2, fun k b hk => h.box_lt k b (Env.unbind_box.1 hk).2, ?_, ?_, ?_, h.prot_lt⟩
  · exact fun u v b o o' hu hv => h.row_row u v b o o' (Env.unbind_row.1 hu).2 (Env.unbind_row.1 hv).2
  · exact fun u v b hu hv => h.box_box u v b (Env.unbind_box.1 hu).2 (Env.unbind_box.1 hv).2
  · exact fun u k b o hu hk => h.row_box u k b o (Env.unbind_row.1 hu).2 (Env.unbind_box.1 hk).2

theorem Step.unbind (h : Valid E w) (t : Tg) : Step E w (E.unbind t) w :=
  ⟨rfl, rfl, rfl, Nat.le_refl _, fun _ _ _ => rfl, fun _ hb => .inl hb.unbind, fun _ hb => hb, fun _ hb => .inl hb, fun _ _ hb => Env.unbind_box.2 ⟨.inr rfl, hb⟩⟩

theorem killF_leaf {t : Tg} {p : PV} {v : Value} (hl : p.leaf = true) (h : VR E w p v) : VR (E.unbind t) w (killF t p) v := by
  have hk : ∀ u, u ≠ t → Keeps E (E.unbind t) w w [u] := fun u hu =>
    ⟨fun _ h => h, fun _ _ => rfl, fun x hx r hr => by simp at hx; subst hx; exact ⟨Env.unbind_row.2 ⟨hu, hr⟩, rfl⟩, fun x hx b hb => by simp at hx; subst hx; exact Env.unbind_box.2 ⟨.inl hu, hb⟩⟩
  cases p with
  | sl u sz off es => simp only [killF]; split; · simp [VR]
                      · rename_i hu; exact VR.keep _ _ (hk u hu) h
  | ptr u o => simp only [killF]; split; · simp [VR]
               · rename_i hu; exact VR.keep _ _ (hk u hu) h
  | ep u sz i f e => simp only [killF]; split; · simp [VR]
                     · rename_i hu; exact VR.keep _ _ (hk u hu) h
  | _ => simp [PV.leaf] at hl

theorem StR.rebind (hv : Valid E w) (h : StR E w st tmps) (t : Tg) : StR (E.unbind t) w (st.rebind t) tmps := by
  refine ⟨fun d v hm => ?_, fun k cs hm => ?_⟩
  · obtain ⟨u, h1, rfl⟩ := mem_mapLT hm
    obtain ⟨x, h2, h3⟩ := h.tm d u h1
    exact ⟨x, h2, VR.map (E := E) (w := w) (E' := E.unbind t) (w' := w) (fun _ h => h) (fun _ _ => rfl) (fun p v hl hp => killF_leaf hl hp) u x h3⟩
  · obtain ⟨hne, hm⟩ := mem_delB hm
    obtain ⟨u, h1, rfl⟩ := mem_mapLB hm
    obtain ⟨b, c, el, fr, h2, h3, h4, h0, h5⟩ := h.bx k u h1
    exact ⟨b, c, el, fr, Env.unbind_box.2 ⟨.inl hne, h2⟩, h3, h4, h0, VRs.map (E := E) (w := w) (E' := E.unbind t) (w' := w) (fun _ h => h) (fun _ _ => rfl) (fun p v hl hp => killF_leaf hl hp) u _ h5⟩

theorem Own.frz {ts : List Tg} {b : Nat} (h : Own (E.frz ts) b) : Own E b := by
  rcases h with ⟨u, o, h⟩ | ⟨k, h⟩
  · exact .inl ⟨u, o, (Env.frz_row.1 h).2⟩
  · exact .inr ⟨k, h⟩

theorem Valid.frz (h : Valid E w) (ts : List Tg) : Valid (E.frz ts) w := by
  refine ⟨fun u b o hu => ⟨(h.row_lt u b o (Env.frz_row.1 hu).2).1, ?_⟩, fun k b hk => ⟨(h.box_lt k b hk).1, ?_⟩, ?_, h.box_box, ?_, ?_⟩
  · rintro (hp | ⟨t, ht, o', hr⟩)
    · exact (h.row_lt u b o (Env.frz_row.1 hu).2).2 hp
    · have := h.row_row _ _ _ _ _ (Env.frz_row.1 hu).2 hr
      subst this; exact (Env.frz_row.1 hu).1 ht
  · rintro (hp | ⟨t, ht, o', hr⟩)
    · exact (h.box_lt k b hk).2 hp
    · exact h.row_box _ _ _ _ hr hk
  · exact fun u v b o o' hu hv => h.row_row u v b o o' (Env.frz_row.1 hu).2 (Env.frz_row.1 hv).2
  · exact fun u k b o hu hk => h.row_box u k b o (Env.frz_row.1 hu).2 hk
  · rintro b (hp | ⟨t, ht, o', hr⟩)
    · exact h.prot_lt b hp
    · exact (h.row_lt _ _ _ hr).1

theorem Step.frz (h : Valid E w) (ts : List Tg) : Step E w (E.frz ts) w := by
  refine ⟨rfl, rfl, rfl, Nat.le_refl _, fun _ _ _ => rfl, fun _ hb => .inl hb.frz, fun _ hb => .inl hb, ?_, fun _ _ hb => hb⟩
  rintro b (hp | ⟨t, ht, o', hr⟩)
  · exact .inl hp
  · exact .inr (.inl (.inl ⟨t, o', hr⟩))

theorem frzF_leaf {ts : List Tg} {p : PV} {v : Value} (hl : p.leaf = true) (h : VR E w p v) : VR (E.frz ts) w (frzF ts p) v := by
  have hk : ∀ u, u ∉ ts → Keeps E (E.frz ts) w w [u] := fun u hu =>
    ⟨fun _ h => .inl h, fun _ _ => rfl, fun x hx r hr => by simp at hx; subst hx; exact ⟨Env.frz_row.2 ⟨hu, hr⟩, rfl⟩, fun x hx b hb => hb⟩
  cases p with
  | sl u sz off es =>
    simp only [frzF]; split
    · rename_i hu
      simp only [VR, DR] at h ⊢
      rcases h with ⟨h, a, h'⟩ | ⟨b, o, cap, c, el, fr, vs, h1, h2, h3, h4, hf, h5, h6, h7, h8⟩
      · exact .inl ⟨h, a, 0, h'⟩
      · exact .inr ⟨b, _, cap, sz, vs, h2, h3, .inr ⟨u, hu, o, h1⟩, h6, h7, DRs.mono (fun _ h => .inl h) (fun _ _ => rfl) _ _ h8⟩
    · rename_i hu; exact VR.keep _ _ (hk u hu) h
  | ptr u o =>
    simp only [frzF, VR] at h ⊢
    exact h
  | ep u sz i f e =>
    simp only [frzF]; split
    · rename_i hu
      cases e with
      | none => simp [VR]
      | some x =>
        simp only [VR, DR] at h ⊢
        obtain ⟨b, o, c, el, fr, h1, h2, h3, hf, h4, h5⟩ := h
        obtain ⟨y, h6, h7, h8⟩ := h5 x rfl
        exact ⟨b, _, y.cells.toList, h2, .inr ⟨u, hu, o, h1⟩, h6.one, h8, DRs.mono (fun _ h => .inl h) (fun _ _ => rfl) _ _ h6.cells⟩
    · rename_i hu; exact VR.keep _ _ (hk u hu) h
  | _ => simp [PV.leaf] at hl

theorem StR.frz0 (hv : Valid E w) (h : StR E w st tmps) (ts : List Tg) : StR (E.frz ts) w (st.map (frzF ts)) tmps :=
  h.map (fun _ h => .inl h) (fun _ _ => rfl) (fun p v hl hp => frzF_leaf hl hp) (fun k cs hm b hb => ⟨hb, rfl⟩)

theorem StR.frz (hv : Valid E w) (h : StR E w st tmps) (ts : List Tg) : StR (E.frz ts) w (st.frz ts) tmps := by
  cases ts with
  | nil =>
    simp only [St.frz]
    exact h.keep (fun _ h => .inl h) (fun _ _ => rfl) (fun t r hr => ⟨Env.frz_row.2 ⟨by simp, hr⟩, rfl⟩) (fun k b hb => ⟨hb, rfl⟩)
  | cons t ts => exact h.frz0 hv (t :: ts)

mutual
/-- A value told as data, where its rows stay from now on. -/
theorem toD_sound {pr : Nat → Prop} (hp : ∀ b, E.prot b → pr b) : ∀ (p : PV) (v : Value) (x : D), p.toD = some x → (∀ t ∈ p.tags, ∀ b o, E.row t = some (b, o) → pr b) → VR E w p v → DR pr w x v
  | .unk, v, x, h, ht, hv => by simp [PV.toD] at h
  | .d y, v, x, h, ht, hv => by
    simp only [PV.toD, Option.some.injEq] at h; subst h
    simp only [VR] at hv
    exact DR.mono hp (fun _ _ => rfl) _ _ hv
  | .nils, v, x, h, ht, hv => by
    simp only [PV.toD, Option.some.injEq] at h; subst h
    simp only [VR] at hv; subst hv
    simp only [DR]; exact .inl ⟨trivial, _, _, rfl⟩
  | .sl t sz off es, v, x, h, ht, hv => by
    simp only [PV.toD, Option.some.injEq] at h; subst h
    simp only [VR, DR] at hv ⊢
    rcases hv with ⟨h, a, h'⟩ | ⟨b, o, cap, c, el, fr, vs, h1, h2, h3, h4, hf, h5, h6, h7, h8⟩
    · exact .inl ⟨h, a, 0, h'⟩
    · exact .inr ⟨b, _, cap, sz, vs, h2, h3, ht t (by simp [PV.tags]) b o h1, h6, h7, DRs.mono hp (fun _ _ => rfl) _ _ h8⟩
  | .ptr k o, v, x, h, ht, hv => by simp [PV.toD] at h
  | .ep t sz i f e, v, x, h, ht, hv => by simp [PV.toD] at h
  | .agg cs, v, x, h, ht, hv => by
    simp only [PV.toD, Option.map_eq_some_iff] at h
    obtain ⟨ys, h1, rfl⟩ := h
    simp only [VR, DR] at hv ⊢
    obtain ⟨arr, h2, h0, h3⟩ := hv
    exact ⟨arr, h2, h0, toDL_sound hp cs _ ys h1 (by simpa only [PV.tags] using ht) h3⟩
  | .clo fn a b, v, x, h, ht, hv => by
    simp only [PV.toD] at h
    split at h
    · rename_i a' b' h1 h2
      simp only [Option.some.injEq] at h; subst h
      simp only [VR, DR] at hv ⊢
      obtain ⟨fa, fb, h3, h4, h5⟩ := hv
      simp only [PV.tags, List.mem_append] at ht
      exact ⟨fa, fb, h3, toDL_sound hp a _ a' h1 (fun t h => ht t (.inl h)) h4, toDL_sound hp b _ b' h2 (fun t h => ht t (.inr h)) h5⟩
    · cases h
  | .ifc t y, v, x, h, ht, hv => by
    simp only [PV.toD, Option.map_eq_some_iff] at h
    obtain ⟨z, h1, rfl⟩ := h
    simp only [VR, DR] at hv ⊢
    obtain ⟨u, h2, h3⟩ := hv
    exact ⟨u, h2, toD_sound hp y u z h1 (by simpa only [PV.tags] using ht) h3⟩
  | .tup xs, v, x, h, ht, hv => by simp [PV.toD] at h
theorem toDL_sound {pr : Nat → Prop} (hp : ∀ b, E.prot b → pr b) : ∀ (ps : List PV) (vs : List Value) (xs : List D), PV.toDL ps = some xs → (∀ t ∈ PV.tagsL ps, ∀ b o, E.row t = some (b, o) → pr b) → VRs E w ps vs → DRs pr w xs vs
  | [], vs, xs, h, ht, hv => by
    simp only [PV.toDL, Option.some.injEq] at h; subst h
    simpa only [VRs, DRs] using hv
  | p :: ps, vs, xs, h, ht, hv => by
    simp only [PV.toDL] at h
    split at h
    · rename_i y ys h1 h2
      simp only [Option.some.injEq] at h; subst h
      simp only [VRs, DRs] at hv ⊢
      obtain ⟨u, us, h3, h4, h5⟩ := hv
      simp only [PV.tagsL, List.mem_append] at ht
      exact ⟨u, us, h3, toD_sound hp p u y h1 (fun t h => ht t (.inl h)) h4, toDL_sound hp ps us ys h2 (fun t h => ht t (.inr h)) h5⟩
    · cases h
end

/-- A value told as data, behind a freeze of its rows. -/
theorem toD_frz {p : PV} {v : Value} {x : D} {ts : List Tg} (h : p.toD = some x) (ht : ∀ t ∈ p.tags, t ∈ ts) (hv : VR E w p v) : DR (E.frz ts).prot w x v :=
  toD_sound (pr := (E.frz ts).prot) (fun _ h => .inl h) p v x h (fun t h b o hr => .inr ⟨t, ht t h, o, hr⟩) hv

/-- Nothing but new blocks: what was told is told. -/
theorem StR.grow {w' : World} (hv : Valid E w) (h : StR E w st tmps) (hw : ∀ b, b < w.heap.size → w'.heap[b]? = w.heap[b]?) : StR E w' st tmps :=
  h.keep (fun _ h => h) (fun b hb => hw b (hv.prot_lt b hb)) (fun t r hr => ⟨hr, hw _ (hv.row_lt t r.1 r.2 hr).1⟩) (fun k b hb => ⟨hb, hw _ (hv.box_lt k b hb).1⟩)

theorem Valid.grow {w' : World} (h : Valid E w) (hs : w.heap.size ≤ w'.heap.size) : Valid E w' :=
  ⟨fun t b o hr => ⟨Nat.lt_of_lt_of_le (h.row_lt t b o hr).1 hs, (h.row_lt t b o hr).2⟩, fun k b hb => ⟨Nat.lt_of_lt_of_le (h.box_lt k b hb).1 hs, (h.box_lt k b hb).2⟩,
    h.row_row, h.box_box, h.row_box, fun b hb => Nat.lt_of_lt_of_le (h.prot_lt b hb) hs⟩

theorem Valid.bindRow {t : Tg} {b o : Nat} (h : Valid E w) (ht : E.row t = none) (ho : ¬ Own E b) (hp : ¬ E.prot b) (hb : b < w.heap.size) : Valid (E.bindRow t b o) w := by
  have hr : ∀ u b' o', (E.bindRow t b o).row u = some (b', o') → (u = t ∧ b' = b ∧ o' = o) ∨ (u ≠ t ∧ E.row u = some (b', o')) := by
    intro u b' o' hu
    simp only [Env.bindRow] at hu
    split at hu
    · rename_i he; simp at hu; exact .inl ⟨he, hu.1.symm, hu.2.symm⟩
    · rename_i he; exact .inr ⟨he, hu⟩
  refine ⟨fun u b' o' hu => ?_, h.box_lt, fun u v b' o1 o2 hu hv => ?_, h.box_box, fun u k b' o' hu hk => ?_, h.prot_lt⟩
  · rcases hr u b' o' hu with ⟨_, rfl, _⟩ | ⟨_, hu⟩
    · exact ⟨hb, hp⟩
    · exact h.row_lt u b' o' hu
  · rcases hr u b' o1 hu with ⟨rfl, rfl, _⟩ | ⟨h1, hu⟩ <;> rcases hr v _ o2 hv with ⟨rfl, h2, _⟩ | ⟨h2, hv⟩
    · rfl
    · exact absurd (.inl ⟨_, _, hv⟩) ho
    · subst h2; exact absurd (.inl ⟨_, _, ‹E.row u = _›⟩) ho
    · exact h.row_row u v b' o1 o2 ‹E.row u = _› hv
  · rcases hr u b' o' hu with ⟨rfl, rfl, _⟩ | ⟨h1, hu⟩
    · exact ho (.inr ⟨k, hk⟩)
    · exact h.row_box u k b' o' hu hk

theorem Valid.bindBox {t : Tg} {b : Nat} (h : Valid E w) (ht : E.box t = none) (ho : ¬ Own E b) (hp : ¬ E.prot b) (hb : b < w.heap.size) : Valid (E.bindBox t b) w := by
  have hr : ∀ u b', (E.bindBox t b).box u = some b' → (u = t ∧ b' = b) ∨ (u ≠ t ∧ E.box u = some b') := by
    intro u b' hu
    simp only [Env.bindBox] at hu
    split at hu
    · rename_i he; simp at hu; exact .inl ⟨he, hu.symm⟩
    · rename_i he; exact .inr ⟨he, hu⟩
  refine ⟨h.row_lt, fun u b' hu => ?_, h.row_row, fun u v b' hu hv => ?_, fun u k b' o' hu hk => ?_, h.prot_lt⟩
  · rcases hr u b' hu with ⟨_, rfl⟩ | ⟨_, hu⟩
    · exact ⟨hb, hp⟩
    · exact h.box_lt u b' hu
  · rcases hr u b' hu with ⟨rfl, rfl⟩ | ⟨h1, hu⟩ <;> rcases hr v _ hv with ⟨rfl, h2⟩ | ⟨h2, hv⟩
    · rfl
    · exact absurd (.inr ⟨_, hv⟩) ho
    · rename_i hu'; subst h2; exact absurd (.inr ⟨_, hu'⟩) ho
    · exact h.box_box u v b' ‹E.box u = _› hv
  · rcases hr k b' hk with ⟨rfl, rfl⟩ | ⟨h1, hk⟩
    · exact ho (.inl ⟨u, o', hu⟩)
    · exact h.row_box u k b' o' hu hk

theorem StR.bindRow {t : Tg} {b o : Nat} (h : StR E w st tmps) (ht : E.row t = none) : StR (E.bindRow t b o) w st tmps :=
  h.keep (fun _ h => h) (fun _ _ => rfl) (fun u r hr => ⟨by simp only [Env.bindRow]; rw [if_neg (fun e => by subst e; rw [ht] at hr; cases hr)]; exact hr, rfl⟩) (fun k b hb => ⟨hb, rfl⟩)

theorem StR.bindBox {t : Tg} {b : Nat} (h : StR E w st tmps) (ht : E.box t = none) : StR (E.bindBox t b) w st tmps :=
  h.keep (fun _ h => h) (fun _ _ => rfl) (fun u r hr => ⟨hr, rfl⟩) (fun k b' hb => ⟨by simp only [Env.bindBox]; rw [if_neg (fun e => by subst e; rw [ht] at hb; cases hb)]; exact hb, rfl⟩)

end
end Go.Proofs.Ytaghpancpfpnhaa.Abs
