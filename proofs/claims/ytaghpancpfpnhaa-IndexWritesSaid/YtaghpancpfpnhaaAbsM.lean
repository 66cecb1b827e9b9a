/- Writes into rows and boxes. Conditions: none. -/
import Derived.Test.YtaghpancpfpnhaaAbsL
namespace Go.Proofs.Ytaghpancpfpnhaa.Abs
open Go Go.RowKit
set_option linter.unusedVariables false
set_option linter.unusedSimpArgs false

/-- A block written anew. -/
def setBlk (w : World) (b : Nat) (o : Obj) : World := { w with heap := w.heap.setIfInBounds b o }

/-- Values laid over a row's, from a place on. -/
def laid (c : Array Value) (o : Nat) (l : List Value) : Array Value := (c.toList.take o ++ l ++ c.toList.drop (o + l.length)).toArray

theorem laid_size {c : Array Value} {o : Nat} {l : List Value} (h : o + l.length ≤ c.size) : (laid c o l).size = c.size := by
  simp [laid]; omega

theorem laid_nil (c : Array Value) (o : Nat) : laid c o [] = c := by
  simp [laid]

theorem laid_cons {c : Array Value} {o : Nat} {v : Value} {l : List Value} (h : o + (l.length + 1) ≤ c.size) : laid (c.setIfInBounds o v) (o + 1) l = laid c o (v :: l) := by
  unfold laid
  congr 1
  apply List.ext_getElem?
  intro i
  simp only [Array.toList_setIfInBounds]
  have hk : o < c.toList.length := by simp; omega
  simp only [List.getElem?_append, List.getElem?_take, List.getElem?_drop, List.getElem?_set, List.length_append, List.length_take, List.length_set, List.length_cons]
  have hc : c.toList.length = c.size := by simp
  by_cases h1 : i < o
  · have e1 : i < min (o + 1) c.toList.length := by omega
    have e2 : i < min o c.toList.length := by omega
    have e4 : ¬ (o = i) := by omega
    grind
  · by_cases h2 : i = o
    · subst h2; grind
    · grind

section
variable {P : Program} {w : World}

theorem setBlk_get (w : World) (b : Nat) (o : Obj) (k : Nat) : (setBlk w b o).heap[k]? = if k = b then (if b < w.heap.size then some o else none) else w.heap[k]? := by
  simp only [setBlk, Array.getElem?_setIfInBounds]
  split
  · rename_i h; subst h; simp
  · rename_i h; rw [if_neg (fun e => h e.symm)]

theorem setBlk_size (w : World) (b : Nat) (o : Obj) : (setBlk w b o).heap.size = w.heap.size := by simp [setBlk]

theorem setCell_blk {b o : Nat} {c : Array Value} {el : TypeId} {fr : Nat × Nat} (h : w.heap[b]? = some (.cells c el fr)) (v : Value) :
    w.setCell ⟨b, o, none⟩ v = setBlk w b (.cells (c.setIfInBounds o v) el fr) := by
  simp only [World.setCell, setBlk]
  congr 1
  apply Array.ext_getElem?
  intro i
  rw [Array.getElem?_modify, Array.getElem?_setIfInBounds]
  have hb := (Array.getElem?_eq_some_iff.1 h).1
  by_cases hi : b = i
  · subst hi
    have : w.heap[b] = .cells c el fr := by simpa [Array.getElem?_eq_getElem hb] using h
    simp [hb, this]
  · simp [hi]

theorem setBlk_setBlk (b : Nat) (o o' : Obj) : setBlk (setBlk w b o) b o' = setBlk w b o' := by
  simp [setBlk]

theorem run_store1 {b o : Nat} {c : Array Value} {el : TypeId} {fr : Nat × Nat} (h : w.heap[b]? = some (.cells c el fr)) (hf : Unfz c fr) (ho : o < c.size) {v : Value} (hv : v.oneCell' = true) :
    (store ⟨b, o, none⟩ v).run P w = .ok () (setBlk w b (.cells (c.setIfInBounds o v) el fr)) := by
  rw [run_store P w ⟨b, o, none⟩ v .plain hv]
  have h1 : w.cell? ⟨b, o, none⟩ = some c[o] := by simp [World.cell?, h, ho]
  have h2 : w.frozen? ⟨b, o, none⟩ = false := by
    simp only [World.frozen?, h, Bool.and_eq_false_iff, decide_eq_false_iff_not]
    rcases hf with hf | hf
    · omega
    · left; omega
  simp [stored, h1, h2, setCell_blk h]

theorem run_storeCells' (b : Nat) (el : TypeId) (fr : Nat × Nat) : ∀ (l : List Value) (i o : Nat) (c : Array Value) (w : World), w.heap[b]? = some (.cells c el fr) → Unfz c fr → o + i + l.length ≤ c.size → OneC l →
    (storeCells ⟨b, o, none⟩ l i).run P w = .ok () (setBlk w b (.cells (laid c (o + i) l) el fr))
  | [], i, o, c, w, h, hf, ho, h1 => by
    simp only [storeCells, Sem.run_pure, laid_nil]
    congr 1
    simp only [setBlk]
    have hb := (Array.getElem?_eq_some_iff.1 h).1
    have : w.heap.setIfInBounds b (.cells c el fr) = w.heap := by
      apply Array.ext_getElem?
      intro k
      rw [Array.getElem?_setIfInBounds]
      split
      · rename_i hk; subst hk; exact h.symm
      · rfl
    rw [this]
  | v :: l, i, o, c, w, h, hf, ho, h1 => by
    simp only [List.length_cons] at ho
    simp only [storeCells, Sem.run_bind, Addr.add_mk]
    rw [run_store1 h hf (by omega) (h1 v (by simp))]
    simp only [Result.andThen_ok]
    have hb := (Array.getElem?_eq_some_iff.1 h).1
    rw [run_storeCells' b el fr l (i + 1) o (c.setIfInBounds (o + i) v) _ (by rw [setBlk_get]; simp [hb]) (by simpa [Unfz] using hf) (by simp; omega) (fun x hx => h1 x (by simp [hx]))]
    rw [setBlk_setBlk, ← Nat.add_assoc, laid_cons (by omega)]

end

section
variable {E : Env} {w : World} {st : St} {tmps : Array Value}

/-- A block of one's own is written: all that lies elsewhere is told as it was. -/
theorem keeps_setBlk (hv : Valid E w) {b : Nat} (o : Obj) {ts : List Tg} (hp : ¬ E.prot b) (hr : ∀ t ∈ ts, ∀ x y, E.row t = some (x, y) → x ≠ b) : Keeps E E w (setBlk w b o) ts :=
  ⟨fun _ h => h, fun x hx => by rw [setBlk_get]; rw [if_neg (fun e => by subst e; exact hp hx)], fun t ht r h => ⟨h, by rw [setBlk_get, if_neg (hr t ht r.1 r.2 h)]⟩, fun _ _ _ h => h⟩

theorem Valid.setBlk (hv : Valid E w) (b : Nat) (o : Obj) : Valid E (setBlk w b o) := hv.grow (by rw [setBlk_size]; exact Nat.le_refl _)

theorem Step.setBlk (hv : Valid E w) {b : Nat} (o : Obj) (hb : Own E b) : Step E w E (setBlk w b o) :=
  ⟨rfl, rfl, rfl, by rw [setBlk_size]; exact Nat.le_refl _, fun k hk ho => by rw [setBlk_get]; rw [if_neg (fun e => by subst e; exact ho hb)], fun _ h => .inl h, fun _ h => h, fun _ h => .inl h, fun _ _ h => h⟩

/-- A box is written. -/
theorem box_write (hv : Valid E w) (hs : StR E w st tmps) {k : Tg} {b : Nat} {c : Array Value} {el : TypeId} {fr : Nat × Nat} (hk : E.box k = some b) {cs : List PV} (hf : Unfz c fr) (h1 : OneC c.toList)
    (hc : VRs E w cs c.toList) (hb : b < w.heap.size) : StR E (setBlk w b (.cells c el fr)) (st.setBox k cs) tmps := by
  have keep : ∀ p v, VR E w p v → VR E (setBlk w b (.cells c el fr)) p v := fun p v h =>
    VR.keep p v (keeps_setBlk hv _ (hv.box_lt k b hk).2 (fun t _ x y hr e => by subst e; exact hv.row_box t k x y hr hk)) h
  have keeps : ∀ p v, VRs E w p v → VRs E (setBlk w b (.cells c el fr)) p v := fun p v h =>
    VRs.keep p v (keeps_setBlk hv _ (hv.box_lt k b hk).2 (fun t _ x y hr e => by subst e; exact hv.row_box t k x y hr hk)) h
  refine ⟨fun d v hm => ?_, fun k' cs' hm => ?_⟩
  · obtain ⟨u, h2, h3⟩ := hs.tm d v hm
    exact ⟨u, h2, keep _ _ h3⟩
  · simp only [St.setBox] at hm
    rcases List.mem_cons.1 hm with hm | hm
    · cases hm
      exact ⟨b, c, el, fr, hk, by rw [setBlk_get]; simp [hb], hf, h1, keeps _ _ hc⟩
    · obtain ⟨hne, hm⟩ := mem_delB hm
      obtain ⟨b', c', el', fr', h2, h3, h4, h5, h6⟩ := hs.bx k' cs' hm
      exact ⟨b', c', el', fr', h2, by rw [setBlk_get, if_neg (fun e => by subst e; exact hne (hv.box_box _ _ _ h2 hk))]; exact h3, h4, h5, keeps _ _ h6⟩

/-- A row's element is written, whole or in part: what is told of the row's other values. -/
def updF (t : Tg) (sz idx : Nat) (g : List D → Nat → List D) : PV → PV
  | .sl u s off es => if u = t then (if s = sz then .sl u s off (if off ≤ idx then g es (idx - off) else es) else .unk) else .sl u s off es
  | .ep u s i f e => if u = t then .ep u s i f none else .ep u s i f e
  | p => p

/-- A part of an element. -/
def setCells (f : Nat) (x : D) : D → D
  | .agg cs => .agg (cs.take f ++ x.cells ++ cs.drop (f + x.sz))
  | y => x.cells.headD y

def updEs (f : Option Nat) (x : D) (es : List D) (i : Nat) : List D :=
  match f with
  | none => es.set i x
  | some f => es.modify i (setCells f x)

/-- A value's cells laid over another's. -/
def laidL (u : List Value) (f : Nat) (l : List Value) : List Value := u.take f ++ l ++ u.drop (f + l.length)

theorem laidL_length {u : List Value} {f : Nat} {l : List Value} (h : f + l.length ≤ u.length) : (laidL u f l).length = u.length := by
  simp [laidL]; omega

theorem laidL_mid {l u r v : List Value} {f : Nat} (h : f + v.length ≤ u.length) : laidL (l ++ u ++ r) (l.length + f) v = l ++ laidL u f v ++ r := by
  unfold laidL
  apply List.ext_getElem?
  intro i
  simp only [List.getElem?_append, List.getElem?_take, List.getElem?_drop, List.length_append, List.length_take, List.length_drop]
  grind

theorem elem_upd {pr : Nat → Prop} {e x : D} {u v : Value} {f : Nat} (he : DR pr w e u) (hx : DR pr w x v) (hf : f + x.sz ≤ e.sz) (h1 : 0 < x.sz) :
    ∃ u', DR pr w (setCells f x e) u' ∧ u'.cells.toList = laidL u.cells.toList f v.cells.toList := by
  have hxs := hx.size
  have hxc := hx.cells
  have hes := he.size
  have non : e.sz = 1 → u.cells.size = 1 → (∃ c cx, v.cells.toList = [c] ∧ x.cells = [cx] ∧ DR pr w cx c ∧ f = 0) := by
    intro h2 h3
    have hl : v.cells.toList.length = 1 := by simp; omega
    obtain ⟨c, hc⟩ := List.length_eq_one_iff.1 hl
    rw [hc] at hxc
    have hl2 := hxc.length
    obtain ⟨cx, hcx⟩ := List.length_eq_one_iff.1 (show x.cells.length = 1 by simpa using hl2.symm)
    rw [hcx] at hxc
    simp only [DRs] at hxc
    obtain ⟨c', us, h4, h5, rfl⟩ := hxc
    simp at h4; subst h4
    exact ⟨c, cx, hc, hcx, h5, by omega⟩
  have fin : (∀ cs, e ≠ .agg cs) → ∃ u', DR pr w (setCells f x e) u' ∧ u'.cells.toList = laidL u.cells.toList f v.cells.toList := by
    intro hne
    have h2 : e.sz = 1 := by cases e <;> first | rfl | exact absurd rfl (hne _)
    obtain ⟨c, cx, h3, h4, h5, h6⟩ := non h2 (by omega)
    subst h6
    have h7 : setCells 0 x e = cx := by cases e <;> simp [setCells, h4] <;> exact absurd rfl (hne _)
    refine ⟨c, by rw [h7]; exact h5, ?_⟩
    have h8 : c.cells = #[c] := by
      have := hx.one c (by rw [h3]; simp)
      cases c <;> simp [Value.oneCell'] at this <;> rfl
    have h9 : u.cells.toList.length = 1 := by simp; omega
    rw [h3, h8]
    simp only [laidL, List.take_zero, List.nil_append, Nat.zero_add, List.length_cons, List.length_nil]
    rw [List.drop_of_length_le (by omega)]; simp
  cases e with
  | agg cs =>
    simp only [DR] at he
    obtain ⟨arr, rfl, h0, h2⟩ := he
    simp only [D.sz] at hf
    have hl := h2.length
    refine ⟨.agg (laidL arr.toList f v.cells.toList).toArray, ?_, by simp [Value.cells]⟩
    simp only [setCells, DR]
    refine ⟨_, rfl, ?_, ?_⟩
    · intro c hc
      simp only [laidL, List.mem_append] at hc
      rcases hc with (hc | hc) | hc
      · exact h0 c (List.mem_of_mem_take hc)
      · exact hx.one c hc
      · exact h0 c (List.mem_of_mem_drop hc)
    · simp only [laidL]
      refine DRs.append (DRs.append (DRs.take _ h2) hxc) ?_
      rw [show v.cells.toList.length = x.sz by simp [hxs]]
      exact DRs.drop _ h2
  | _ => exact fin (by intro cs h; cases h)

theorem flat_set {vs : List Value} {sz : Nat} (h : ∀ u ∈ vs, u.cells.size = sz) {j : Nat} {u u' : Value} (hj : vs[j]? = some u) {f : Nat} {l : List Value} (hf : f + l.length ≤ sz)
    (hu : u'.cells.toList = laidL u.cells.toList f l) : flat (vs.set j u') = laidL (flat vs) (j * sz + f) l := by
  obtain ⟨hlt, hje⟩ := List.getElem?_eq_some_iff.1 hj
  have e1 : vs = vs.take j ++ u :: vs.drop (j + 1) := by
    rw [← hje, ← List.drop_eq_getElem_cons hlt, List.take_append_drop]
  have e2 : vs.set j u' = vs.take j ++ u' :: vs.drop (j + 1) := by
    rw [List.set_eq_take_append_cons_drop, if_pos hlt]
  have e3 : flat vs = flat (vs.take j) ++ u.cells.toList ++ flat (vs.drop (j + 1)) := by
    conv => lhs; rw [e1]
    simp [flat]
  have e4 : flat (vs.set j u') = flat (vs.take j) ++ u'.cells.toList ++ flat (vs.drop (j + 1)) := by
    rw [e2]; simp [flat]
  have hl : (flat (vs.take j)).length = j * sz := by
    rw [flat_length (sz := sz) fun x hx => h x (List.mem_of_mem_take hx), List.length_take, Nat.min_eq_left (by omega)]
  rw [e3, e4, hu, ← hl]
  rw [laidL_mid (by have := h u (List.mem_of_getElem? hj); simp; omega)]

theorem cells_at_laid {b q p : Nat} {c : Array Value} {el : TypeId} {fr : Nat × Nat} {F l : List Value} (hb : w.heap[b]? = some (.cells c el fr)) (hF : CellsAt w b q F) (hp : p + l.length ≤ F.length) :
    CellsAt (setBlk w b (.cells (laid c (q + p) l) el fr)) b q (laidL F p l) := by
  intro i x hx
  have hbs := (Array.getElem?_eq_some_iff.1 hb).1
  have hcc : ∀ i y, F[i]? = some y → c.toList[q + i]? = some y := by
    intro i y hy
    have := hF i y hy
    simp only [World.cell?, hb] at this
    simpa using this
  have hsz : ∀ i, i < F.length → q + i < c.toList.length := fun i hi => (List.getElem?_eq_some_iff.1 (hcc i _ (List.getElem?_eq_getElem hi))).1
  simp only [World.cell?, setBlk_get, if_true, hbs]
  simp only [laid, laidL, List.getElem?_append, List.getElem?_take, List.getElem?_drop, List.length_append, List.length_take] at hx ⊢
  have hil : i < F.length ∨ F.length ≤ i := Nat.lt_or_ge i F.length
  have h0 : F.length ≠ 0 → q + (F.length - 1) < c.toList.length := fun h => hsz _ (by omega)
  simp only [Option.isSome_none, Bool.false_eq_true, if_false, List.getElem?_toArray, List.getElem?_append, List.getElem?_take, List.getElem?_drop, List.length_append, List.length_take]
  have := hcc i
  have := hcc (p + l.length + (i - (min p F.length + l.length)))
  grind

theorem cells_at_out {b q p : Nat} {c : Array Value} {el : TypeId} {fr : Nat × Nat} {F l : List Value} (hb : w.heap[b]? = some (.cells c el fr)) (hF : CellsAt w b q F) (hp : p + l.length ≤ q ∨ q + F.length ≤ p) (hc : p + l.length ≤ c.size) :
    CellsAt (setBlk w b (.cells (laid c p l) el fr)) b q F := by
  intro i x hx
  have hbs := (Array.getElem?_eq_some_iff.1 hb).1
  have h1 := hF i x hx
  have hi := (List.getElem?_eq_some_iff.1 hx).1
  simp only [World.cell?, hb] at h1
  simp only [World.cell?, setBlk_get, if_true, hbs]
  simp only [Option.isSome_none, Bool.false_eq_true, if_false] at h1 ⊢
  rw [← Array.getElem?_toList] at h1
  simp only [laid, List.getElem?_toArray, List.getElem?_append, List.getElem?_take, List.getElem?_drop, List.length_append, List.length_take]
  have hcs : c.toList.length = c.size := by simp
  grind

end
end Go.Proofs.Ytaghpancpfpnhaa.Abs
