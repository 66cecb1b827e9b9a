/- A row's element is written. Conditions: none. -/
import Derived.Test.YtaghpancpfpnhaaAbsM
namespace Go.Proofs.Ytaghpancpfpnhaa.Abs
open Go Go.RowKit
set_option linter.unusedVariables false
set_option linter.unusedSimpArgs false

section
variable {E : Env} {w : World} {st : St} {tmps : Array Value}

theorem modify_set {α : Type} (g : α → α) : ∀ (l : List α) (i : Nat), l.modify i g = (l[i]?.map fun x => l.set i (g x)).getD l
  | [], i => by simp
  | a :: l, 0 => by simp
  | a :: l, i + 1 => by
    have ih := modify_set g l i
    simp only [List.modify_succ_cons, ih, List.getElem?_cons_succ]
    cases l[i]? <;> simp

theorem updF_leaf (hv : Valid E w) {t : Tg} {b o : Nat} (ht : E.row t = some (b, o)) {c : Array Value} {el : TypeId} {fr : Nat × Nat} (hb : w.heap[b]? = some (.cells c el fr)) {sz idx : Nat} {f : Option Nat}
    {x : D} {v : Value} (hx : DR E.prot w x v) (hf : f.getD 0 + x.sz ≤ sz) (hw : f = none → x.sz = sz) (hz : 0 < x.sz) (hcs : o + idx * sz + sz ≤ c.size)
    {p : PV} {u : Value} (hl : p.leaf = true) (h : VR E w p u) :
    VR E (setBlk w b (.cells (laid c (o + idx * sz + f.getD 0) v.cells.toList) el fr)) (updF t sz idx (updEs f x) p) u := by
  have hxs := hx.size
  have hvl : v.cells.toList.length = x.sz := by simp [hxs]
  have hbs := (Array.getElem?_eq_some_iff.1 hb).1
  have hpb : ¬ E.prot b := (hv.row_lt t b o ht).2
  have hprot : ∀ k, E.prot k → (setBlk w b (.cells (laid c (o + idx * sz + f.getD 0) v.cells.toList) el fr)).heap[k]? = w.heap[k]? := fun k hk => by
    rw [setBlk_get, if_neg (fun e => by subst e; exact hpb hk)]
  have hk : ∀ t', t' ≠ t → ∀ ob, Keeps E E w (setBlk w b ob) [t'] := fun t' hne ob => keeps_setBlk hv ob hpb (fun y hy x' y' hr e => by
    simp at hy; subst hy; subst e; exact hne (hv.row_row _ _ _ _ _ hr ht))
  have hsz := laid_size (c := c) (o := o + idx * sz + f.getD 0) (l := v.cells.toList) (by omega)
  cases p with
  | sl t' s off es =>
    simp only [updF]
    split
    · rename_i he; subst he
      split
      · rename_i he; subst he
        have h' := h
        simp only [VR] at h
        rcases h with ⟨rfl, a, rfl⟩ | ⟨b', o', cap, cc, el', fr', vs, k1, rfl, k3, k4, k5, k6, k7, k8, k9⟩
        · simp only [VR]
          refine .inl ⟨?_, a, rfl⟩
          split
          · cases f <;> simp [updEs]
          · rfl
        · rw [ht] at k1; cases k1
          rw [hb] at k4; cases k4
          have hlen := k9.length
          have hF := flat_length k7
          have hE : ∀ (es' : List D) (vs' : List Value), es'.length = es.length → (∀ u ∈ vs', u.cells.size = s) → CellsAt (setBlk w b (.cells (laid c (o + idx * s + f.getD 0) v.cells.toList) el fr)) b (o + off * s) (flat vs') →
              DRs E.prot w es' vs' → VR E (setBlk w b (.cells (laid c (o + idx * s + f.getD 0) v.cells.toList) el fr)) (.sl t' s off es') (.slice (some ⟨b, o + off * s, none⟩) es.length cap) := by
            intro es' vs' g1 g2 g3 g4
            simp only [VR]
            refine .inr ⟨b, o, cap, laid c (o + idx * s + f.getD 0) v.cells.toList, el, fr, vs', ht, by rw [g1], by omega, by rw [setBlk_get]; simp only [if_true, hbs], ?_, ?_, g2, g3, DRs.mono (fun _ h => h) hprot _ _ g4⟩
            · rcases k5 with k5 | k5
              · exact .inl k5
              · exact .inr (by rw [hsz]; exact k5)
            · rw [hsz]; exact k6
          by_cases hoff : off ≤ idx
          · rw [if_pos hoff]
            by_cases hj : idx - off < es.length
            · obtain ⟨y, hy1, hy2⟩ := k9.at hj
              have hys : y.cells.size = s := k7 y (List.mem_of_getElem? hy1)
              have hes : (getD' es (idx - off)).sz = s := by rw [← hy2.size]; exact hys
              have upd : ∃ e' u', DR E.prot w e' u' ∧ u'.cells.toList = laidL y.cells.toList (f.getD 0) v.cells.toList ∧ updEs f x es (idx - off) = es.set (idx - off) e' := by
                cases f with
                | none =>
                  refine ⟨x, v, hx, ?_, rfl⟩
                  simp only [Option.getD_none, laidL, List.take_zero, List.nil_append, Nat.zero_add]
                  rw [List.drop_of_length_le (by rw [hvl, hw rfl]; simp [hys]), List.append_nil]
                | some g =>
                  obtain ⟨u', g1, g2⟩ := elem_upd hy2 hx (f := g) (by rw [hes]; simpa using hf) hz
                  refine ⟨_, u', g1, g2, ?_⟩
                  simp only [updEs]
                  rw [modify_set, getD'_eq hj]; simp
              obtain ⟨e', u', g1, g2, g3⟩ := upd
              rw [g3]
              have hset := flat_set k7 hy1 (f := f.getD 0) (l := v.cells.toList) (u' := u') (by omega) g2
              have hpos : o + idx * s + f.getD 0 = (o + off * s) + ((idx - off) * s + f.getD 0) := by
                have : idx * s = off * s + (idx - off) * s := by rw [← Nat.add_mul]; congr 1; omega
                omega
              have hfit : (idx - off) * s + f.getD 0 + v.cells.toList.length ≤ (flat vs).length := by
                rw [hF, hlen]
                have := Nat.mul_le_mul_right s (show idx - off + 1 ≤ es.length by omega)
                rw [Nat.add_mul, Nat.one_mul] at this; omega
              refine hE _ (vs.set (idx - off) u') (by simp) ?_ ?_ ?_
              · intro z hz'
                rcases List.mem_or_eq_of_mem_set hz' with hz' | rfl
                · exact k7 z hz'
                · have := congrArg List.length g2
                  rw [laidL_length (by simp; omega)] at this
                  simpa [hys] using this
              · rw [hset, hpos]
                exact cells_at_laid hb k8 hfit
              · have hd : ∀ (es : List D) (vs : List Value) (j : Nat), DRs E.prot w es vs → DRs E.prot w (es.set j e') (vs.set j u') := by
                  intro es
                  induction es with
                  | nil => intro vs j h; simp only [DRs] at h; subst h; simp [DRs]
                  | cons a as ih =>
                    intro vs j h
                    simp only [DRs] at h
                    obtain ⟨q, qs, rfl, q1, q2⟩ := h
                    cases j with
                    | zero => simp only [List.set_cons_zero, DRs]; exact ⟨u', qs, rfl, g1, q2⟩
                    | succ j => simp only [List.set_cons_succ, DRs]; exact ⟨q, _, rfl, q1, ih qs j q2⟩
                exact hd es vs _ k9
            · have hno : updEs f x es (idx - off) = es := by
                cases f with
                | none => simp only [updEs]; exact List.set_eq_of_length_le (by omega)
                | some g => simp only [updEs]; rw [modify_set, List.getElem?_eq_none (by omega)]; simp
              rw [hno]
              refine hE es vs rfl k7 (cells_at_out hb k8 (.inr ?_) (by omega)) k9
              rw [hF, hlen]
              have := Nat.mul_le_mul_right s (show off + es.length ≤ idx by omega)
              rw [Nat.add_mul] at this; omega
          · rw [if_neg hoff]
            refine hE es vs rfl k7 (cells_at_out hb k8 (.inl ?_) (by omega)) k9
            have := Nat.mul_le_mul_right s (show idx + 1 ≤ off by omega)
            rw [Nat.add_mul, Nat.one_mul] at this; omega
      · simp [VR]
    · rename_i hne
      exact VR.keep _ _ (hk t' hne _) h
  | ptr k off =>
    simp only [updF]
    simp only [VR] at h ⊢
    exact h
  | ep t' s i g e =>
    simp only [updF]
    split
    · rename_i he; subst he
      simp only [VR] at h ⊢
      obtain ⟨b', o', cc, el', fr', k1, k2, k3, k4, k5, k6⟩ := h
      rw [ht] at k1; cases k1
      rw [hb] at k3; cases k3
      refine ⟨b, o, laid c (o + idx * sz + f.getD 0) v.cells.toList, el, fr, ht, k2, by rw [setBlk_get]; simp only [if_true, hbs], ?_, by rw [hsz]; exact k5, fun _ h => by cases h⟩
      rcases k4 with k4 | k4
      · exact .inl k4
      · exact .inr (by rw [hsz]; exact k4)
    · rename_i hne
      exact VR.keep _ _ (hk t' hne _) h
  | _ => simp [PV.leaf] at hl

end
end Go.Proofs.Ytaghpancpfpnhaa.Abs
