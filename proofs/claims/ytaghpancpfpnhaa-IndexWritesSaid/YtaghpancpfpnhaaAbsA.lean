/- Abstract states for walks: pure data, values with owned rows and boxes, and what it means that a machine's state is told by one. Conditions: none. -/
import Derived.WalkKit
import Derived.Below
import Derived.KernelRfl
namespace Go.Proofs.Ytaghpancpfpnhaa.Abs
open Go Go.RowKit
set_option linter.unusedVariables false

/-- Names of rows and boxes. -/
inductive Tg where
  | s (n : Nat)
  | h (n : Nat)
  | up (t : Tg)
  deriving DecidableEq, Inhabited

/-- Pure data. -/
inductive D where
  | bool (b : Bool)
  | int (k : IntKind) (n : Int)
  | flt (k : FloatKind) (n : Nat)
  | str (s : ByteArray)
  | lst (es : List D)
  | agg (cs : List D)
  | ifc (t : Nat) (x : D)
  | nilif
  | nilptr
  | nilfn
  | nilmap
  | clo (fn : Fn) (first captured : List D)
  | cp (cs : List D) (off : Nat)
  deriving Inhabited

/-- How many cells a datum has. -/
def D.sz : D → Nat
  | .agg cs => cs.length
  | _ => 1

/-- A datum's cells. -/
def D.cells : D → List D
  | .agg cs => cs
  | x => [x]

/-- Values that may lead to rows and boxes. -/
inductive PV where
  | unk
  | d (x : D)
  | nils
  | sl (t : Tg) (sz off : Nat) (es : List D)
  | ptr (k : Tg) (off : Nat)
  | ep (t : Tg) (sz idx : Nat) (f : Option Nat) (e : Option D)
  | agg (cs : List PV)
  | clo (fn : Fn) (first captured : List PV)
  | ifc (t : Nat) (x : PV)
  | tup (vs : List PV)
  deriving Inhabited

mutual
/-- The names in a value. -/
def PV.tags : PV → List Tg
  | .unk => []
  | .d _ => []
  | .nils => []
  | .sl t _ _ _ => [t]
  | .ptr k _ => [k]
  | .ep t _ _ _ _ => [t]
  | .agg cs => PV.tagsL cs
  | .clo _ a b => PV.tagsL a ++ PV.tagsL b
  | .ifc _ x => x.tags
  | .tup vs => PV.tagsL vs
def PV.tagsL : List PV → List Tg
  | [] => []
  | x :: xs => x.tags ++ PV.tagsL xs
end

mutual
/-- A value as data. -/
def PV.toD : PV → Option D
  | .unk => none
  | .d x => some x
  | .nils => some (.lst [])
  | .sl _ _ _ es => some (.lst es)
  | .ptr _ _ => none
  | .ep _ _ _ _ _ => none
  | .agg cs => (PV.toDL cs).map .agg
  | .clo fn a b => match PV.toDL a, PV.toDL b with
    | some a', some b' => some (.clo fn a' b')
    | _, _ => none
  | .ifc t x => x.toD.map (.ifc t)
  | .tup _ => none
def PV.toDL : List PV → Option (List D)
  | [] => some []
  | x :: xs => match x.toD, PV.toDL xs with
    | some y, some ys => some (y :: ys)
    | _, _ => none
end

/-- None of a row's own cells is frozen. -/
def Unfz (c : Array Value) (fr : Nat × Nat) : Prop := fr.2 ≤ fr.1 ∨ c.size ≤ fr.1

/-- Cells in a row. -/
def CellsAt (w : World) (b o : Nat) (cs : List Value) : Prop :=
  ∀ i c, cs[i]? = some c → w.cell? ⟨b, o + i, none⟩ = some c

/-- Each is the value of one cell. -/
def OneC (vs : List Value) : Prop := ∀ c ∈ vs, c.oneCell' = true

def flat (vs : List Value) : List Value := vs.flatMap fun u => u.cells.toList

mutual
/-- A value tells a datum, by memory that stays. -/
def DR (pr : Nat → Prop) (w : World) : D → Value → Prop
  | .bool b, v => v = .bool b
  | .int k n, v => v = .int k n
  | .flt k n, v => v = .float k n
  | .str s, v => v = .string s
  | .lst es, v => (es = [] ∧ ∃ a c, v = .slice a 0 c) ∨
      ∃ (b o cap sz : Nat) (vs : List Value), v = .slice (some ⟨b, o, none⟩) es.length cap ∧ es.length ≤ cap ∧ pr b ∧
        (∀ u ∈ vs, u.cells.size = sz) ∧ CellsAt w b o (flat vs) ∧ DRs pr w es vs
  | .agg cs, v => ∃ arr : Array Value, v = .agg arr ∧ OneC arr.toList ∧ DRs pr w cs arr.toList
  | .ifc t x, v => ∃ u, v = .iface t u ∧ DR pr w x u
  | .nilif, v => v = .nilIface
  | .nilptr, v => v = .pointer none
  | .nilfn, v => v = .nilFunc
  | .nilmap, v => v = .map none
  | .clo fn a b, v => ∃ fa fb : Array Value, v = .func fn fa fb ∧ DRs pr w a fa.toList ∧ DRs pr w b fb.toList
  | .cp cs f, v => ∃ (b o : Nat) (vs : List Value), v = .pointer (some ⟨b, o + f, none⟩) ∧ pr b ∧ OneC vs ∧ CellsAt w b o vs ∧ DRs pr w cs vs
def DRs (pr : Nat → Prop) (w : World) : List D → List Value → Prop
  | [], vs => vs = []
  | x :: xs, vs => ∃ u us, vs = u :: us ∧ DR pr w x u ∧ DRs pr w xs us
end

/-- Where rows and boxes lie, and which memory stays. -/
structure Env where
  row : Tg → Option (Nat × Nat)
  box : Tg → Option Nat
  prot : Nat → Prop

mutual
def VR (E : Env) (w : World) : PV → Value → Prop
  | .unk, _ => True
  | .d x, v => DR E.prot w x v
  | .nils, v => v = .slice none 0 0
  | .sl t sz off es, v => (es = [] ∧ ∃ a, v = .slice a 0 0) ∨
      ∃ (b o cap : Nat) (c : Array Value) (el : TypeId) (fr : Nat × Nat) (vs : List Value), E.row t = some (b, o) ∧ v = .slice (some ⟨b, o + off * sz, none⟩) es.length cap ∧ es.length ≤ cap ∧
        w.heap[b]? = some (.cells c el fr) ∧ Unfz c fr ∧ o + (off + cap) * sz ≤ c.size ∧
        (∀ u ∈ vs, u.cells.size = sz) ∧ CellsAt w b (o + off * sz) (flat vs) ∧ DRs E.prot w es vs
  | .ptr k off, v => ∃ b, E.box k = some b ∧ v = .pointer (some ⟨b, off, none⟩)
  | .ep t sz idx f e, v => ∃ (b o : Nat) (c : Array Value) (el : TypeId) (fr : Nat × Nat), E.row t = some (b, o) ∧ v = .pointer (some ⟨b, o + idx * sz + f.getD 0, none⟩) ∧
        w.heap[b]? = some (.cells c el fr) ∧ Unfz c fr ∧ o + idx * sz + sz ≤ c.size ∧
        (∀ x, e = some x → ∃ u, DR E.prot w x u ∧ u.cells.size = sz ∧ CellsAt w b (o + idx * sz) u.cells.toList)
  | .agg cs, v => ∃ arr : Array Value, v = .agg arr ∧ OneC arr.toList ∧ VRs E w cs arr.toList
  | .clo fn a b, v => ∃ fa fb : Array Value, v = .func fn fa fb ∧ VRs E w a fa.toList ∧ VRs E w b fb.toList
  | .ifc t x, v => ∃ u, v = .iface t u ∧ VR E w x u
  | .tup xs, v => ∃ arr : Array Value, v = .tuple arr ∧ VRs E w xs arr.toList
def VRs (E : Env) (w : World) : List PV → List Value → Prop
  | [], vs => vs = []
  | x :: xs, vs => ∃ u us, vs = u :: us ∧ VR E w x u ∧ VRs E w xs us
end

theorem CellsAt.mono {w w' : World} {b o : Nat} {cs : List Value} (h : CellsAt w b o cs) (hb : w'.heap[b]? = w.heap[b]?) : CellsAt w' b o cs := by
  intro i c hc
  rw [World.cell?_of_block (w := w) (w' := w') (a := ⟨b, o + i, none⟩) hb]
  exact h i c hc

theorem CellsAt.nil (w : World) (b o : Nat) : CellsAt w b o [] := by intro i c h; simp at h

theorem CellsAt.append {w : World} {b o : Nat} {xs ys : List Value} : CellsAt w b o (xs ++ ys) ↔ CellsAt w b o xs ∧ CellsAt w b (o + xs.length) ys := by
  constructor
  · intro h
    refine ⟨fun i c hc => h i c ?_, fun i c hc => ?_⟩
    · have hi := (List.getElem?_eq_some_iff.1 hc).1
      rw [List.getElem?_append_left hi]; exact hc
    · have := h (xs.length + i) c (by rw [List.getElem?_append_right (by omega)]; simpa using hc)
      rwa [← Nat.add_assoc] at this
  · rintro ⟨h1, h2⟩ i c hc
    by_cases hi : i < xs.length
    · rw [List.getElem?_append_left hi] at hc; exact h1 i c hc
    · rw [List.getElem?_append_right (by omega)] at hc
      have := h2 _ c hc
      rwa [show o + xs.length + (i - xs.length) = o + i from by omega] at this

mutual
theorem DR.mono {pr pr' : Nat → Prop} {w w' : World} (hp : ∀ b, pr b → pr' b) (hw : ∀ b, pr b → w'.heap[b]? = w.heap[b]?) :
    ∀ (x : D) (v : Value), DR pr w x v → DR pr' w' x v
  | .bool b, v, h => by simpa only [DR] using h
  | .int k n, v, h => by simpa only [DR] using h
  | .flt k n, v, h => by simpa only [DR] using h
  | .str s, v, h => by simpa only [DR] using h
  | .lst es, v, h => by
    simp only [DR] at h ⊢
    rcases h with h | ⟨b, o, cap, sz, vs, h1, h2, h3, h4, h5, h6⟩
    · exact .inl h
    · exact .inr ⟨b, o, cap, sz, vs, h1, h2, hp b h3, h4, h5.mono (hw b h3), DRs.mono hp hw es vs h6⟩
  | .agg cs, v, h => by
    simp only [DR] at h ⊢
    obtain ⟨arr, h1, h0, h2⟩ := h
    exact ⟨arr, h1, h0, DRs.mono hp hw cs _ h2⟩
  | .ifc t x, v, h => by
    simp only [DR] at h ⊢
    obtain ⟨u, h1, h2⟩ := h
    exact ⟨u, h1, DR.mono hp hw x u h2⟩
  | .nilif, v, h => by simpa only [DR] using h
  | .nilptr, v, h => by simpa only [DR] using h
  | .nilfn, v, h => by simpa only [DR] using h
  | .nilmap, v, h => by simpa only [DR] using h
  | .clo fn a b, v, h => by
    simp only [DR] at h ⊢
    obtain ⟨fa, fb, h1, h2, h3⟩ := h
    exact ⟨fa, fb, h1, DRs.mono hp hw a _ h2, DRs.mono hp hw b _ h3⟩
  | .cp cs f, v, h => by
    simp only [DR] at h ⊢
    obtain ⟨b, o, vs, h1, h2, h0, h3, h4⟩ := h
    exact ⟨b, o, vs, h1, hp b h2, h0, h3.mono (hw b h2), DRs.mono hp hw cs _ h4⟩
theorem DRs.mono {pr pr' : Nat → Prop} {w w' : World} (hp : ∀ b, pr b → pr' b) (hw : ∀ b, pr b → w'.heap[b]? = w.heap[b]?) :
    ∀ (xs : List D) (vs : List Value), DRs pr w xs vs → DRs pr' w' xs vs
  | [], vs, h => by simpa only [DRs] using h
  | x :: xs, vs, h => by
    simp only [DRs] at h ⊢
    obtain ⟨u, us, h1, h2, h3⟩ := h
    exact ⟨u, us, h1, DR.mono hp hw x u h2, DRs.mono hp hw xs us h3⟩
end

theorem DRs.length {pr : Nat → Prop} {w : World} : ∀ {xs : List D} {vs : List Value}, DRs pr w xs vs → vs.length = xs.length
  | [], vs, h => by simp only [DRs] at h; simp [h]
  | x :: xs, vs, h => by
    simp only [DRs] at h
    obtain ⟨u, us, rfl, _, h3⟩ := h
    simp [DRs.length h3]

theorem DRs.append {pr : Nat → Prop} {w : World} : ∀ {xs ys : List D} {vs us : List Value}, DRs pr w xs vs → DRs pr w ys us → DRs pr w (xs ++ ys) (vs ++ us)
  | [], ys, vs, us, h, k => by simp only [DRs] at h; subst h; simpa using k
  | x :: xs, ys, vs, us, h, k => by
    simp only [DRs] at h
    obtain ⟨u, us', rfl, h2, h3⟩ := h
    simp only [List.cons_append, DRs]
    exact ⟨u, _, rfl, h2, DRs.append h3 k⟩

theorem DRs.getElem? {pr : Nat → Prop} {w : World} : ∀ {xs : List D} {vs : List Value} {i : Nat} {x : D}, DRs pr w xs vs → xs[i]? = some x → ∃ u, vs[i]? = some u ∧ DR pr w x u
  | [], vs, i, x, h, hi => by simp at hi
  | y :: xs, vs, 0, x, h, hi => by
    simp only [DRs] at h
    obtain ⟨u, us, rfl, h2, _⟩ := h
    simp at hi; subst hi
    exact ⟨u, rfl, h2⟩
  | y :: xs, vs, i + 1, x, h, hi => by
    simp only [DRs] at h
    obtain ⟨u, us, rfl, _, h3⟩ := h
    simp at hi
    obtain ⟨u', h4, h5⟩ := DRs.getElem? h3 hi
    exact ⟨u', by simpa using h4, h5⟩

theorem DRs.take {pr : Nat → Prop} {w : World} : ∀ {xs : List D} {vs : List Value} (n : Nat), DRs pr w xs vs → DRs pr w (xs.take n) (vs.take n)
  | [], vs, n, h => by simp only [DRs] at h; subst h; simp [DRs]
  | x :: xs, vs, 0, h => by simp [DRs]
  | x :: xs, vs, n + 1, h => by
    simp only [DRs] at h
    obtain ⟨u, us, rfl, h2, h3⟩ := h
    simp only [List.take_succ_cons, DRs]
    exact ⟨u, _, rfl, h2, DRs.take n h3⟩

theorem DRs.drop {pr : Nat → Prop} {w : World} : ∀ {xs : List D} {vs : List Value} (n : Nat), DRs pr w xs vs → DRs pr w (xs.drop n) (vs.drop n)
  | [], vs, n, h => by simp only [DRs] at h; subst h; simp [DRs]
  | x :: xs, vs, 0, h => by simpa using h
  | x :: xs, vs, n + 1, h => by
    simp only [DRs] at h
    obtain ⟨u, us, rfl, h2, h3⟩ := h
    simpa using DRs.drop n h3

/-- As many cells as the datum says. -/
theorem DR.size {pr : Nat → Prop} {w : World} {x : D} {v : Value} (h : DR pr w x v) : v.cells.size = x.sz := by
  cases x with
  | lst es =>
    simp only [DR] at h
    rcases h with ⟨_, a, c, rfl⟩ | ⟨b, o, cap, sz, vs, rfl, _⟩ <;> simp [Value.cells, D.sz]
  | agg cs =>
    simp only [DR] at h
    obtain ⟨arr, rfl, h0, h2⟩ := h
    have := h2.length
    simpa [Value.cells, D.sz] using this
  | ifc t x => simp only [DR] at h; obtain ⟨u, rfl, _⟩ := h; simp [Value.cells, D.sz]
  | clo fn a b => simp only [DR] at h; obtain ⟨fa, fb, rfl, _⟩ := h; simp [Value.cells, D.sz]
  | cp cs f => simp only [DR] at h; obtain ⟨b, o, vs, rfl, _⟩ := h; simp [Value.cells, D.sz]
  | _ => simp only [DR] at h; subst h; simp [Value.cells, D.sz]

/-- A datum's cells are told by its value's. -/
theorem DR.cells {pr : Nat → Prop} {w : World} {x : D} {v : Value} (h : DR pr w x v) : DRs pr w x.cells v.cells.toList := by
  cases x with
  | agg cs =>
    simp only [DR] at h
    obtain ⟨arr, rfl, h0, h2⟩ := h
    simpa [Value.cells, D.cells] using h2
  | lst es =>
    have h' := h
    simp only [DR] at h
    rcases h with ⟨_, a, c, rfl⟩ | ⟨b, o, cap, sz, vs, rfl, _⟩ <;> simpa [Value.cells, D.cells, DRs] using h'
  | ifc t x => have h' := h; simp only [DR] at h; obtain ⟨u, rfl, _⟩ := h; simpa [Value.cells, D.cells, DRs] using h'
  | clo fn a b => have h' := h; simp only [DR] at h; obtain ⟨fa, fb, rfl, _⟩ := h; simpa [Value.cells, D.cells, DRs] using h'
  | cp cs f => have h' := h; simp only [DR] at h; obtain ⟨b, o, vs, rfl, _⟩ := h; simpa [Value.cells, D.cells, DRs] using h'
  | _ => have h' := h; simp only [DR] at h; subst h; simpa [Value.cells, D.cells, DRs] using h'

theorem VRs.length {E : Env} {w : World} : ∀ {xs : List PV} {vs : List Value}, VRs E w xs vs → vs.length = xs.length
  | [], vs, h => by simp only [VRs] at h; simp [h]
  | x :: xs, vs, h => by
    simp only [VRs] at h
    obtain ⟨u, us, rfl, _, h3⟩ := h
    simp [VRs.length h3]

theorem VRs.getElem? {E : Env} {w : World} : ∀ {xs : List PV} {vs : List Value} {i : Nat} {x : PV}, VRs E w xs vs → xs[i]? = some x → ∃ u, vs[i]? = some u ∧ VR E w x u
  | [], vs, i, x, h, hi => by simp at hi
  | y :: xs, vs, 0, x, h, hi => by
    simp only [VRs] at h
    obtain ⟨u, us, rfl, h2, _⟩ := h
    simp at hi; subst hi
    exact ⟨u, rfl, h2⟩
  | y :: xs, vs, i + 1, x, h, hi => by
    simp only [VRs] at h
    obtain ⟨u, us, rfl, _, h3⟩ := h
    simp at hi
    obtain ⟨u', h4, h5⟩ := VRs.getElem? h3 hi
    exact ⟨u', by simpa using h4, h5⟩

theorem VRs.append {E : Env} {w : World} : ∀ {xs ys : List PV} {vs us : List Value}, VRs E w xs vs → VRs E w ys us → VRs E w (xs ++ ys) (vs ++ us)
  | [], ys, vs, us, h, k => by simp only [VRs] at h; subst h; simpa using k
  | x :: xs, ys, vs, us, h, k => by
    simp only [VRs] at h
    obtain ⟨u, us', rfl, h2, h3⟩ := h
    simp only [List.cons_append, VRs]
    exact ⟨u, _, rfl, h2, VRs.append h3 k⟩

/-- A datum's cells are values of one cell. -/
theorem DR.one {pr : Nat → Prop} {w : World} {x : D} {v : Value} (h : DR pr w x v) : OneC v.cells.toList := by
  cases x with
  | agg cs =>
    simp only [DR] at h
    obtain ⟨arr, rfl, h0, h2⟩ := h
    simpa [Value.cells] using h0
  | lst es =>
    simp only [DR] at h
    rcases h with ⟨_, a, c, rfl⟩ | ⟨b, o, cap, sz, vs, rfl, _⟩ <;> simp [Value.cells, OneC, Value.oneCell']
  | ifc t x => simp only [DR] at h; obtain ⟨u, rfl, _⟩ := h; simp [Value.cells, OneC, Value.oneCell']
  | clo fn a b => simp only [DR] at h; obtain ⟨fa, fb, rfl, _⟩ := h; simp [Value.cells, OneC, Value.oneCell']
  | cp cs f => simp only [DR] at h; obtain ⟨b, o, vs, rfl, _⟩ := h; simp [Value.cells, OneC, Value.oneCell']
  | _ => simp only [DR] at h; subst h; simp [Value.cells, OneC, Value.oneCell']

theorem DRs.one {pr : Nat → Prop} {w : World} : ∀ {xs : List D} {vs : List Value}, DRs pr w xs vs → OneC (flat vs)
  | [], vs, h => by simp only [DRs] at h; subst h; simp [flat, OneC]
  | x :: xs, vs, h => by
    simp only [DRs] at h
    obtain ⟨u, us, rfl, h2, h3⟩ := h
    have := DRs.one h3
    intro c hc
    simp only [flat, List.flatMap_cons, List.mem_append] at hc
    rcases hc with hc | hc
    · exact h2.one c hc
    · exact this c hc

/-- What a step keeps of a value: its rows' and boxes' places, their rows' blocks, and the memory that stays. -/
structure Keeps (E E' : Env) (w w' : World) (ts : List Tg) : Prop where
  prot : ∀ b, E.prot b → E'.prot b
  stays : ∀ b, E.prot b → w'.heap[b]? = w.heap[b]?
  row : ∀ t ∈ ts, ∀ r, E.row t = some r → E'.row t = some r ∧ w'.heap[r.1]? = w.heap[r.1]?
  box : ∀ t ∈ ts, ∀ b, E.box t = some b → E'.box t = some b

theorem Keeps.sub {E E' : Env} {w w' : World} {ts us : List Tg} (h : Keeps E E' w w' ts) (hs : ∀ t ∈ us, t ∈ ts) : Keeps E E' w w' us :=
  ⟨h.prot, h.stays, fun t ht => h.row t (hs t ht), fun t ht => h.box t (hs t ht)⟩

mutual
theorem VR.keep {E E' : Env} {w w' : World} : ∀ (p : PV) (v : Value), Keeps E E' w w' p.tags → VR E w p v → VR E' w' p v
  | .unk, v, k, h => by simp only [VR]
  | .d x, v, k, h => by simp only [VR] at h ⊢; exact DR.mono k.prot k.stays x v h
  | .nils, v, k, h => by simpa only [VR] using h
  | .sl t sz off es, v, k, h => by
    simp only [VR] at h ⊢
    rcases h with h | ⟨b, o, cap, c, el, fr, vs, h1, h2, h3, h4, hf, h5, h6, h7, h8⟩
    · exact .inl h
    · obtain ⟨k1, k2⟩ := k.row t (by simp [PV.tags]) _ h1
      exact .inr ⟨b, o, cap, c, el, fr, vs, k1, h2, h3, by rw [k2]; exact h4, hf, h5, h6, h7.mono k2, DRs.mono k.prot k.stays _ _ h8⟩
  | .ptr t off, v, k, h => by
    simp only [VR] at h ⊢
    obtain ⟨b, h1, h2⟩ := h
    exact ⟨b, k.box t (by simp [PV.tags]) _ h1, h2⟩
  | .ep t sz idx f e, v, k, h => by
    simp only [VR] at h ⊢
    obtain ⟨b, o, c, el, fr, h1, h2, h3, hf, h4, h5⟩ := h
    obtain ⟨k1, k2⟩ := k.row t (by simp [PV.tags]) _ h1
    refine ⟨b, o, c, el, fr, k1, h2, by rw [k2]; exact h3, hf, h4, fun x hx => ?_⟩
    obtain ⟨u, h6, h7, h8⟩ := h5 x hx
    exact ⟨u, DR.mono k.prot k.stays _ _ h6, h7, h8.mono k2⟩
  | .agg cs, v, k, h => by
    simp only [VR] at h ⊢
    obtain ⟨arr, h1, h0, h2⟩ := h
    exact ⟨arr, h1, h0, VRs.keep cs _ (k.sub (by simp [PV.tags])) h2⟩
  | .clo fn a b, v, k, h => by
    simp only [VR] at h ⊢
    obtain ⟨fa, fb, h1, h2, h3⟩ := h
    exact ⟨fa, fb, h1, VRs.keep a _ (k.sub (by simp [PV.tags]; intro t ht; exact .inl ht)) h2, VRs.keep b _ (k.sub (by simp [PV.tags]; intro t ht; exact .inr ht)) h3⟩
  | .ifc t x, v, k, h => by
    simp only [VR] at h ⊢
    obtain ⟨u, h1, h2⟩ := h
    exact ⟨u, h1, VR.keep x u (k.sub (by simp [PV.tags])) h2⟩
  | .tup xs, v, k, h => by
    simp only [VR] at h ⊢
    obtain ⟨arr, h1, h2⟩ := h
    exact ⟨arr, h1, VRs.keep xs _ (k.sub (by simp [PV.tags])) h2⟩
theorem VRs.keep {E E' : Env} {w w' : World} : ∀ (ps : List PV) (vs : List Value), Keeps E E' w w' (PV.tagsL ps) → VRs E w ps vs → VRs E' w' ps vs
  | [], vs, k, h => by simpa only [VRs] using h
  | x :: xs, vs, k, h => by
    simp only [VRs] at h ⊢
    obtain ⟨u, us, h1, h2, h3⟩ := h
    exact ⟨u, us, h1, VR.keep x u (k.sub (by simp [PV.tagsL]; intro t ht; exact .inl ht)) h2, VRs.keep xs us (k.sub (by simp [PV.tagsL]; intro t ht; exact .inr ht)) h3⟩
end

end Go.Proofs.Ytaghpancpfpnhaa.Abs
