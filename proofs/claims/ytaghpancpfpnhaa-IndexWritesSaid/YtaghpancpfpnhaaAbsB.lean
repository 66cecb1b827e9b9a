/- States, what a step of the machine keeps of them, and changes of all values at once. Conditions: none. -/
import Derived.Test.YtaghpancpfpnhaaAbsA
namespace Go.Proofs.Ytaghpancpfpnhaa.Abs
open Go Go.RowKit
set_option linter.unusedVariables false

mutual
/-- A change of all rows' and boxes' names in a value. -/
def PV.mapT (f : PV → PV) : PV → PV
  | .unk => .unk
  | .d x => .d x
  | .nils => .nils
  | .sl t sz off es => f (.sl t sz off es)
  | .ptr k off => f (.ptr k off)
  | .ep t sz idx g e => f (.ep t sz idx g e)
  | .agg cs => .agg (PV.mapTL f cs)
  | .clo fn a b => .clo fn (PV.mapTL f a) (PV.mapTL f b)
  | .ifc t x => .ifc t (x.mapT f)
  | .tup vs => .tup (PV.mapTL f vs)
def PV.mapTL (f : PV → PV) : List PV → List PV
  | [] => []
  | x :: xs => x.mapT f :: PV.mapTL f xs
end

def PV.leaf : PV → Bool
  | .sl .. => true
  | .ptr .. => true
  | .ep .. => true
  | _ => false

mutual
theorem VR.map {E E' : Env} {w w' : World} {f : PV → PV} (hp : ∀ b, E.prot b → E'.prot b) (hs : ∀ b, E.prot b → w'.heap[b]? = w.heap[b]?)
    (hl : ∀ p v, p.leaf = true → VR E w p v → VR E' w' (f p) v) : ∀ (p : PV) (v : Value), VR E w p v → VR E' w' (p.mapT f) v
  | .unk, v, h => by simp only [VR, PV.mapT]
  | .d x, v, h => by simp only [VR, PV.mapT] at h ⊢; exact DR.mono hp hs x v h
  | .nils, v, h => by simpa only [VR, PV.mapT] using h
  | .sl t sz off es, v, h => by simp only [PV.mapT]; exact hl _ _ rfl h
  | .ptr t off, v, h => by simp only [PV.mapT]; exact hl _ _ rfl h
  | .ep t sz idx g e, v, h => by simp only [PV.mapT]; exact hl _ _ rfl h
  | .agg cs, v, h => by
    simp only [VR, PV.mapT] at h ⊢
    obtain ⟨arr, h1, h0, h2⟩ := h
    exact ⟨arr, h1, h0, VRs.map hp hs hl cs _ h2⟩
  | .clo fn a b, v, h => by
    simp only [VR, PV.mapT] at h ⊢
    obtain ⟨fa, fb, h1, h2, h3⟩ := h
    exact ⟨fa, fb, h1, VRs.map hp hs hl a _ h2, VRs.map hp hs hl b _ h3⟩
  | .ifc t x, v, h => by
    simp only [VR, PV.mapT] at h ⊢
    obtain ⟨u, h1, h2⟩ := h
    exact ⟨u, h1, VR.map hp hs hl x u h2⟩
  | .tup xs, v, h => by
    simp only [VR, PV.mapT] at h ⊢
    obtain ⟨arr, h1, h2⟩ := h
    exact ⟨arr, h1, VRs.map hp hs hl xs _ h2⟩
theorem VRs.map {E E' : Env} {w w' : World} {f : PV → PV} (hp : ∀ b, E.prot b → E'.prot b) (hs : ∀ b, E.prot b → w'.heap[b]? = w.heap[b]?)
    (hl : ∀ p v, p.leaf = true → VR E w p v → VR E' w' (f p) v) : ∀ (ps : List PV) (vs : List Value), VRs E w ps vs → VRs E' w' (PV.mapTL f ps) vs
  | [], vs, h => by simpa only [VRs, PV.mapTL] using h
  | x :: xs, vs, h => by
    simp only [VRs, PV.mapTL] at h ⊢
    obtain ⟨u, us, h1, h2, h3⟩ := h
    exact ⟨u, us, h1, VR.map hp hs hl x u h2, VRs.map hp hs hl xs us h3⟩
end

mutual
theorem PV.mapT_id : ∀ p : PV, p.mapT id = p
  | .unk => by simp [PV.mapT]
  | .d x => by simp [PV.mapT]
  | .nils => by simp [PV.mapT]
  | .sl t sz off es => by simp [PV.mapT]
  | .ptr t off => by simp [PV.mapT]
  | .ep t sz idx g e => by simp [PV.mapT]
  | .agg cs => by simp [PV.mapT, PV.mapTL_id cs]
  | .clo fn a b => by simp [PV.mapT, PV.mapTL_id a, PV.mapTL_id b]
  | .ifc t x => by simp [PV.mapT, PV.mapT_id x]
  | .tup xs => by simp [PV.mapT, PV.mapTL_id xs]
theorem PV.mapTL_id : ∀ ps : List PV, PV.mapTL id ps = ps
  | [] => by simp [PV.mapTL]
  | x :: xs => by simp [PV.mapTL, PV.mapT_id x, PV.mapTL_id xs]
end

/-- An abstract state: what slots hold, and what boxes hold. -/
structure St where
  tm : List (Nat × PV)
  bx : List (Tg × List PV)

def getL (d : Nat) : List (Nat × PV) → Option PV
  | [] => none
  | (e, v) :: r => if d = e then some v else getL d r

def delL (d : Nat) : List (Nat × PV) → List (Nat × PV)
  | [] => []
  | (e, v) :: r => if d = e then delL d r else (e, v) :: delL d r

def getB (k : Tg) : List (Tg × List PV) → Option (List PV)
  | [] => none
  | (e, v) :: r => if k = e then some v else getB k r

def delB (k : Tg) : List (Tg × List PV) → List (Tg × List PV)
  | [] => []
  | (e, v) :: r => if k = e then delB k r else (e, v) :: delB k r

def mapLT (f : PV → PV) : List (Nat × PV) → List (Nat × PV)
  | [] => []
  | (e, v) :: r => (e, v.mapT f) :: mapLT f r

def mapLB (f : PV → PV) : List (Tg × List PV) → List (Tg × List PV)
  | [] => []
  | (e, v) :: r => (e, PV.mapTL f v) :: mapLB f r

def St.get (st : St) (d : Nat) : Option PV := getL d st.tm
def St.put (st : St) (d : Nat) (v : PV) : St := ⟨(d, v) :: delL d st.tm, st.bx⟩
def St.del (st : St) (d : Nat) : St := ⟨delL d st.tm, st.bx⟩
def St.box (st : St) (k : Tg) : Option (List PV) := getB k st.bx
def St.setBox (st : St) (k : Tg) (cs : List PV) : St := ⟨st.tm, (k, cs) :: delB k st.bx⟩
def St.map (st : St) (f : PV → PV) : St := ⟨mapLT f st.tm, mapLB f st.bx⟩
def St.putO (st : St) : Option Nat → PV → St
  | some d, v => st.put d v
  | none, _ => st
def St.delO (st : St) : Option Nat → St
  | some d => st.del d
  | none => st

theorem getL_mem {d : Nat} {v : PV} : ∀ {l : List (Nat × PV)}, getL d l = some v → (d, v) ∈ l
  | [], h => by simp [getL] at h
  | (e, u) :: r, h => by
    simp only [getL] at h
    split at h
    · rename_i he; subst he; simp at h; subst h; simp
    · exact List.mem_cons_of_mem _ (getL_mem h)

theorem getB_mem {d : Tg} {v : List PV} : ∀ {l : List (Tg × List PV)}, getB d l = some v → (d, v) ∈ l
  | [], h => by simp [getB] at h
  | (e, u) :: r, h => by
    simp only [getB] at h
    split at h
    · rename_i he; subst he; simp at h; subst h; simp
    · exact List.mem_cons_of_mem _ (getB_mem h)

theorem mem_delL {d e : Nat} {v : PV} : ∀ {l : List (Nat × PV)}, (e, v) ∈ delL d l → e ≠ d ∧ (e, v) ∈ l
  | [], h => by simp [delL] at h
  | (e', u) :: r, h => by
    simp only [delL] at h
    split at h
    · have := mem_delL h; exact ⟨this.1, List.mem_cons_of_mem _ this.2⟩
    · rename_i he
      rcases List.mem_cons.1 h with h | h
      · cases h; exact ⟨fun e => he e.symm, by simp⟩
      · have := mem_delL h; exact ⟨this.1, List.mem_cons_of_mem _ this.2⟩

theorem mem_delB {d e : Tg} {v : List PV} : ∀ {l : List (Tg × List PV)}, (e, v) ∈ delB d l → e ≠ d ∧ (e, v) ∈ l
  | [], h => by simp [delB] at h
  | (e', u) :: r, h => by
    simp only [delB] at h
    split at h
    · have := mem_delB h; exact ⟨this.1, List.mem_cons_of_mem _ this.2⟩
    · rename_i he
      rcases List.mem_cons.1 h with h | h
      · cases h; exact ⟨fun e => he e.symm, by simp⟩
      · have := mem_delB h; exact ⟨this.1, List.mem_cons_of_mem _ this.2⟩

theorem mem_mapLT {f : PV → PV} {d : Nat} {v : PV} : ∀ {l : List (Nat × PV)}, (d, v) ∈ mapLT f l → ∃ u, (d, u) ∈ l ∧ v = u.mapT f
  | [], h => by simp [mapLT] at h
  | (e, u) :: r, h => by
    simp only [mapLT] at h
    rcases List.mem_cons.1 h with h | h
    · cases h; exact ⟨u, by simp, rfl⟩
    · obtain ⟨u', h1, h2⟩ := mem_mapLT h; exact ⟨u', List.mem_cons_of_mem _ h1, h2⟩

theorem mem_mapLB {f : PV → PV} {d : Tg} {v : List PV} : ∀ {l : List (Tg × List PV)}, (d, v) ∈ mapLB f l → ∃ u, (d, u) ∈ l ∧ v = PV.mapTL f u
  | [], h => by simp [mapLB] at h
  | (e, u) :: r, h => by
    simp only [mapLB] at h
    rcases List.mem_cons.1 h with h | h
    · cases h; exact ⟨u, by simp, rfl⟩
    · obtain ⟨u', h1, h2⟩ := mem_mapLB h; exact ⟨u', List.mem_cons_of_mem _ h1, h2⟩

/-- A block that is one's own. -/
def Own (E : Env) (b : Nat) : Prop := (∃ t o, E.row t = some (b, o)) ∨ ∃ k, E.box k = some b

/-- Rows and boxes lie apart, in memory that is there, and not in memory that stays. -/
structure Valid (E : Env) (w : World) : Prop where
  row_lt : ∀ t b o, E.row t = some (b, o) → b < w.heap.size ∧ ¬ E.prot b
  box_lt : ∀ k b, E.box k = some b → b < w.heap.size ∧ ¬ E.prot b
  row_row : ∀ t u b o o', E.row t = some (b, o) → E.row u = some (b, o') → t = u
  box_box : ∀ t u b, E.box t = some b → E.box u = some b → t = u
  row_box : ∀ t k b o, E.row t = some (b, o) → E.box k = some b → False
  prot_lt : ∀ b, E.prot b → b < w.heap.size

theorem Valid.own_lt {E : Env} {w : World} (h : Valid E w) {b : Nat} (ho : Own E b) : b < w.heap.size ∧ ¬ E.prot b := by
  rcases ho with ⟨t, o, h1⟩ | ⟨k, h1⟩
  · exact h.row_lt t b o h1
  · exact h.box_lt k b h1

/-- A machine's slots and boxes are told by an abstract state. -/
structure StR (E : Env) (w : World) (st : St) (tmps : Array Value) : Prop where
  tm : ∀ d v, (d, v) ∈ st.tm → ∃ u, tmps[d]? = some u ∧ VR E w v u
  bx : ∀ k cs, (k, cs) ∈ st.bx → ∃ b c el fr, E.box k = some b ∧ w.heap[b]? = some (.cells c el fr) ∧ Unfz c fr ∧ OneC c.toList ∧ VRs E w cs c.toList

/-- What steps keep. -/
structure Step (E : Env) (w : World) (E' : Env) (w' : World) : Prop where
  os : w'.os = w.os
  tape : w'.tape = w.tape
  output : w'.output = w.output
  size : w.heap.size ≤ w'.heap.size
  frame : ∀ b, b < w.heap.size → ¬ Own E b → w'.heap[b]? = w.heap[b]?
  own : ∀ b, Own E' b → Own E b ∨ w.heap.size ≤ b
  prot : ∀ b, E.prot b → E'.prot b
  prot' : ∀ b, E'.prot b → E.prot b ∨ Own E b ∨ w.heap.size ≤ b
  pin : ∀ t b, E.box (.up t) = some b → E'.box (.up t) = some b

theorem Step.refl (E : Env) (w : World) : Step E w E w :=
  ⟨rfl, rfl, rfl, Nat.le_refl _, fun _ _ _ => rfl, fun _ h => .inl h, fun _ h => h, fun _ h => .inl h, fun _ _ h => h⟩

theorem Step.trans {E1 E2 E3 : Env} {w1 w2 w3 : World} (h : Step E1 w1 E2 w2) (k : Step E2 w2 E3 w3) : Step E1 w1 E3 w3 := by
  refine ⟨k.os.trans h.os, k.tape.trans h.tape, k.output.trans h.output, Nat.le_trans h.size k.size, ?_, ?_, fun b hb => k.prot b (h.prot b hb), ?_, fun t b hb => k.pin t b (h.pin t b hb)⟩
  · intro b hb ho
    rw [k.frame b (Nat.lt_of_lt_of_le hb h.size) (fun h2 => (h.own b h2).elim ho (fun h3 => by omega)), h.frame b hb ho]
  · intro b hb
    rcases k.own b hb with h2 | h2
    · exact h.own b h2
    · exact .inr (Nat.le_trans h.size h2)
  · intro b hb
    rcases k.prot' b hb with h2 | h2 | h2
    · exact h.prot' b h2
    · rcases h.own b h2 with h3 | h3
      · exact .inr (.inl h3)
      · exact .inr (.inr h3)
    · exact .inr (.inr (Nat.le_trans h.size h2))

theorem Step.stays {E E' : Env} {w w' : World} (h : Step E w E' w') (hv : Valid E w) : ∀ b, E.prot b → w'.heap[b]? = w.heap[b]? :=
  fun b hb => h.frame b (hv.prot_lt b hb) (fun ho => (hv.own_lt ho).2 hb)

theorem StR.get {E : Env} {w : World} {st : St} {tmps : Array Value} (h : StR E w st tmps) {d : Nat} {v : PV} (hg : st.get d = some v) :
    ∃ u, tmps[d]? = some u ∧ VR E w v u := h.tm d v (getL_mem hg)

theorem StR.put {E : Env} {w : World} {st : St} {tmps : Array Value} (h : StR E w st tmps) {d : Nat} {v : PV} {u : Value} (hd : d < tmps.size) (hv : VR E w v u) :
    StR E w (st.put d v) (tmps.setIfInBounds d u) := by
  refine ⟨fun e p hm => ?_, h.bx⟩
  simp only [St.put] at hm
  rcases List.mem_cons.1 hm with hm | hm
  · cases hm
    exact ⟨u, by simp [Array.getElem?_setIfInBounds, hd], hv⟩
  · obtain ⟨h1, h2⟩ := mem_delL hm
    obtain ⟨x, h3, h4⟩ := h.tm e p h2
    exact ⟨x, by rw [Array.getElem?_setIfInBounds_ne (fun e' => h1 e'.symm)]; exact h3, h4⟩

theorem StR.del {E : Env} {w : World} {st : St} {tmps : Array Value} (h : StR E w st tmps) {d : Nat} (u : Value) :
    StR E w (st.del d) (tmps.setIfInBounds d u) := by
  refine ⟨fun e p hm => ?_, h.bx⟩
  simp only [St.del] at hm
  obtain ⟨h1, h2⟩ := mem_delL hm
  obtain ⟨x, h3, h4⟩ := h.tm e p h2
  exact ⟨x, by rw [Array.getElem?_setIfInBounds_ne (fun e' => h1 e'.symm)]; exact h3, h4⟩

/-- All values change at once; boxes' blocks hold what they are told to hold. -/
theorem StR.map {E E' : Env} {w w' : World} {st : St} {tmps : Array Value} {f : PV → PV} (h : StR E w st tmps)
    (hp : ∀ b, E.prot b → E'.prot b) (hs : ∀ b, E.prot b → w'.heap[b]? = w.heap[b]?)
    (hl : ∀ p v, p.leaf = true → VR E w p v → VR E' w' (f p) v)
    (hb : ∀ k cs, (k, cs) ∈ st.bx → ∀ b, E.box k = some b → E'.box k = some b ∧ w'.heap[b]? = w.heap[b]?) :
    StR E' w' (st.map f) tmps := by
  refine ⟨fun d v hm => ?_, fun k cs hm => ?_⟩
  · obtain ⟨u, h1, rfl⟩ := mem_mapLT hm
    obtain ⟨x, h2, h3⟩ := h.tm d u h1
    exact ⟨x, h2, VR.map hp hs hl u x h3⟩
  · obtain ⟨u, h1, rfl⟩ := mem_mapLB hm
    obtain ⟨b, c, el, fr, h2, h3, h4, h0, h5⟩ := h.bx k u h1
    obtain ⟨h6, h7⟩ := hb k u h1 b h2
    exact ⟨b, c, el, fr, h6, by rw [h7]; exact h3, h4, h0, VRs.map hp hs hl u _ h5⟩

theorem mapLT_id : ∀ l : List (Nat × PV), mapLT id l = l
  | [] => rfl
  | (e, v) :: r => by simp [mapLT, PV.mapT_id, mapLT_id r]
theorem mapLB_id : ∀ l : List (Tg × List PV), mapLB id l = l
  | [] => rfl
  | (e, v) :: r => by simp [mapLB, PV.mapTL_id, mapLB_id r]
theorem St.map_id (st : St) : st.map id = st := by cases st; simp [St.map, mapLT_id, mapLB_id]

/-- Nothing changes but the world's count of draws, or new blocks: the state is told as it was. -/
theorem StR.keep {E E' : Env} {w w' : World} {st : St} {tmps : Array Value} (h : StR E w st tmps)
    (hp : ∀ b, E.prot b → E'.prot b) (hs : ∀ b, E.prot b → w'.heap[b]? = w.heap[b]?)
    (hr : ∀ t r, E.row t = some r → E'.row t = some r ∧ w'.heap[r.1]? = w.heap[r.1]?) (hb : ∀ k b, E.box k = some b → E'.box k = some b ∧ w'.heap[b]? = w.heap[b]?) :
    StR E' w' st tmps := by
  have := h.map (E' := E') (w' := w') (f := id) hp hs (fun p v hl hv => VR.keep p v ⟨hp, hs, fun t _ r hr' => hr t r hr', fun t _ b hb' => (hb t b hb').1⟩ hv) (fun k cs _ b hb' => hb k b hb')
  rwa [St.map_id] at this

end Go.Proofs.Ytaghpancpfpnhaa.Abs
