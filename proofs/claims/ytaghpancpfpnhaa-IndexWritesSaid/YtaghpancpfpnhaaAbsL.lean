/- New rows and boxes. Conditions: none. -/
import Derived.Test.YtaghpancpfpnhaaAbsK
namespace Go.Proofs.Ytaghpancpfpnhaa.Abs
open Go Go.RowKit
set_option linter.unusedVariables false
set_option linter.unusedSimpArgs false

/-- One new block, behind all others. -/
structure Grew (w w' : World) (o : Obj) : Prop where
  os : w'.os = w.os
  tape : w'.tape = w.tape
  output : w'.output = w.output
  size : w'.heap.size = w.heap.size + 1
  old : ∀ b, b < w.heap.size → w'.heap[b]? = w.heap[b]?
  new : w'.heap[w.heap.size]? = some o

theorem Grew.alloc (w : World) (o : Obj) : Grew w (w.alloc o) o :=
  ⟨rfl, rfl, rfl, by simp, fun b hb => Below.heap_alloc w o b hb, by show (w.heap.push o)[w.heap.size]? = some o; simp⟩
theorem Grew.drew_alloc (w : World) (o : Obj) : Grew w (w.drew.alloc o) o :=
  ⟨rfl, rfl, rfl, by show (w.heap.push o).size = _; simp, fun b hb => Below.heap_alloc w o b hb, by show (w.heap.push o)[w.heap.size]? = some o; simp⟩

section
variable {E : Env} {w w' : World} {st : St} {tmps : Array Value} {T : Tg}

theorem St.setBox_R {st : St} (h : StR E w st tmps) {k : Tg} {cs : List PV} {b : Nat} {c : Array Value} {el : TypeId} {fr : Nat × Nat} (h1 : E.box k = some b) (h2 : w.heap[b]? = some (.cells c el fr)) (h3 : Unfz c fr)
    (h4 : OneC c.toList) (h5 : VRs E w cs c.toList) : StR E w (st.setBox k cs) tmps := by
  refine ⟨h.tm, fun k' cs' hm => ?_⟩
  simp only [St.setBox] at hm
  rcases List.mem_cons.1 hm with hm | hm
  · cases hm; exact ⟨b, c, el, fr, h1, h2, h3, h4, h5⟩
  · exact h.bx k' cs' (mem_delB hm).2

theorem unfz0 (c : Array Value) : Unfz c (0, 0) := .inl (Nat.le_refl _)

theorem new_not_own (hv : Valid E w) : ¬ Own E w.heap.size := fun h => by have := (hv.own_lt h).1; omega
theorem new_not_prot (hv : Valid E w) : ¬ E.prot w.heap.size := fun h => by have := hv.prot_lt _ h; omega

theorem Own.bindRow {t : Tg} {b o x : Nat} (h : Own (E.bindRow t b o) x) : x = b ∨ Own E x := by
  rcases h with ⟨u, o', h⟩ | ⟨k, h⟩
  · simp only [Env.bindRow] at h
    split at h
    · simp at h; exact .inl h.1.symm
    · exact .inr (.inl ⟨u, o', h⟩)
  · exact .inr (.inr ⟨k, h⟩)
theorem Own.bindBox {t : Tg} {b x : Nat} (h : Own (E.bindBox t b) x) : x = b ∨ Own E x := by
  rcases h with ⟨u, o', h⟩ | ⟨k, h⟩
  · exact .inr (.inl ⟨u, o', h⟩)
  · simp only [Env.bindBox] at h
    split at h
    · simp at h; exact .inl h.symm
    · exact .inr (.inr ⟨k, h⟩)

/-- A new box. -/
theorem fresh_box (hT : T.isUp = false) (hv : Valid E w) (hs : StR E w st tmps) {cs : List PV} {c : Array Value} {el : TypeId} (hg : Grew w w' (.cells c el (0, 0))) (h1 : OneC c.toList) (hc : VRs (E.unbind T) w cs c.toList) :
    Valid ((E.unbind T).bindBox T w.heap.size) w' ∧ StR ((E.unbind T).bindBox T w.heap.size) w' ((st.rebind T).setBox T cs) tmps ∧ Step E w ((E.unbind T).bindBox T w.heap.size) w' ∧
      VR ((E.unbind T).bindBox T w.heap.size) w' (.ptr T 0) (.pointer (some ⟨w.heap.size, 0, none⟩)) := by
  have hv1 := hv.unbind T
  have hs1 := hs.rebind hv T
  have hv2 : Valid (E.unbind T) w' := hv1.grow (by have := hg.size; omega)
  have hs2 := hs1.grow hv1 hg.old
  have hn : (E.unbind T).box T = none := by simp [Env.unbind, hT]
  have hv3 := hv2.bindBox (b := w.heap.size) hn (new_not_own hv1) (new_not_prot hv1) (by have := hg.size; omega)
  have hb : ((E.unbind T).bindBox T w.heap.size).box T = some w.heap.size := by simp [Env.bindBox]
  refine ⟨hv3, ?_, ?_, by simp only [VR]; exact ⟨_, hb, rfl⟩⟩
  · refine St.setBox_R (hs2.bindBox hn) hb hg.new (unfz0 c) h1 ?_
    refine VRs.keep (E := E.unbind T) (w := w) cs _ ⟨fun _ h => h, fun b hb => hg.old b (hv1.prot_lt b hb), fun t _ r hr => ⟨hr, hg.old _ (hv1.row_lt t r.1 r.2 hr).1⟩, fun t _ b hb => ?_⟩ hc
    simp only [Env.bindBox]
    rw [if_neg (fun e => by subst e; rw [hn] at hb; cases hb)]; exact hb
  · refine ⟨hg.os, hg.tape, hg.output, by have := hg.size; omega, fun b hb _ => hg.old b hb, fun b hb => ?_, fun b hb => hb, fun b hb => .inl hb, fun t b hb => ?_⟩
    · rcases hb.bindBox with rfl | hb
      · exact .inr (Nat.le_refl _)
      · exact .inl hb.unbind
    · simp only [Env.bindBox]
      rw [if_neg (fun e => by subst e; simp [Tg.isUp] at hT)]
      exact Env.unbind_box.2 ⟨.inr rfl, hb⟩

/-- A new row. -/
theorem fresh_row (hv : Valid E w) (hs : StR E w st tmps) {c : Array Value} {el : TypeId} (hg : Grew w w' (.cells c el (0, 0))) {sz cap : Nat} {es : List D} {vs rest : List Value}
    (hcap : es.length ≤ cap) (hsz : cap * sz ≤ c.size) (hvs : ∀ u ∈ vs, u.cells.size = sz) (hc : c.toList = flat vs ++ rest) (hd : DRs E.prot w es vs) :
    Valid ((E.unbind T).bindRow T w.heap.size 0) w' ∧ StR ((E.unbind T).bindRow T w.heap.size 0) w' (st.rebind T) tmps ∧ Step E w ((E.unbind T).bindRow T w.heap.size 0) w' ∧
      VR ((E.unbind T).bindRow T w.heap.size 0) w' (.sl T sz 0 es) (.slice (some ⟨w.heap.size, 0, none⟩) es.length cap) := by
  have hv1 := hv.unbind T
  have hs1 := hs.rebind hv T
  have hv2 : Valid (E.unbind T) w' := hv1.grow (by have := hg.size; omega)
  have hs2 := hs1.grow hv1 hg.old
  have hn : (E.unbind T).row T = none := by simp [Env.unbind]
  have hv3 := hv2.bindRow (b := w.heap.size) (o := 0) hn (new_not_own hv1) (new_not_prot hv1) (by have := hg.size; omega)
  have hb : ((E.unbind T).bindRow T w.heap.size 0).row T = some (w.heap.size, 0) := by simp [Env.bindRow]
  refine ⟨hv3, hs2.bindRow hn, ?_, ?_⟩
  · refine ⟨hg.os, hg.tape, hg.output, by have := hg.size; omega, fun b hb _ => hg.old b hb, fun b hb => ?_, fun b hb => hb, fun b hb => .inl hb, fun t b hb => Env.unbind_box.2 ⟨.inr rfl, hb⟩⟩
    rcases hb.bindRow with rfl | hb
    · exact .inr (Nat.le_refl _)
    · exact .inl hb.unbind
  · simp only [VR]
    refine .inr ⟨w.heap.size, 0, cap, c, el, (0, 0), vs, hb, by simp, hcap, hg.new, unfz0 c, by simpa using hsz, hvs, ?_, DRs.mono (fun _ h => h) (fun b hb => hg.old b (hv1.prot_lt b hb)) _ _ hd⟩
    intro i x hx
    have hi := (List.getElem?_eq_some_iff.1 hx).1
    simp only [World.cell?, hg.new]
    have : c.toList[i]? = some x := by rw [hc, List.getElem?_append_left hi]; exact hx
    simpa using this

end
end Go.Proofs.Ytaghpancpfpnhaa.Abs
