/- Operations that read, all of them: what they come to, and that the machine comes to it. Conditions: none. -/
import Derived.Test.YtaghpancpfpnhaaAbsC
namespace Go.Proofs.Ytaghpancpfpnhaa.Abs
open Go Go.RowKit
set_option linter.unusedVariables false
set_option linter.unusedSimpArgs false

inductive AOp where
  | mov (x : Opd)
  | pick (c a b : Opd)
  | bin (op : BinOp) (bt : BT) (x y : Opd)
  | un (op : UnOp) (x : Opd)
  | convI (k : IntKind) (x : Opd)
  | convS (x : Opd)
  | nilck (x : Opd)
  | mkif (t : Nat) (x : Opd)
  | mkfn (fn : Fn) (first captured : List Opd)
  | fieldA (off : Nat) (x : Opd)
  | field (ag : Bool) (off sz : Nat) (x : Opd)
  | idxA (sz : Nat) (x i : Opd)
  | idxAr (sz len : Nat) (x i : Opd)
  | idxS (x i : Opd)
  | idxV (ag : Bool) (sz len : Nat) (x i : Opd)
  | load (ag : Bool) (sz : Nat) (a : Opd)
  | sliceS (sz : Nat) (x : Opd) (lo hi mx : Option Opd)
  | extract (x : Opd) (j : Nat)
  | len (x : Opd)
  | lenS (x : Opd)
  | build (z : List D) (parts : List (Nat × Nat × Opd))
  | mnmx (mx : Bool) (x y : Opd)
  | tass (x : Opd) (t : Nat) (ok : Bool)
  | alloc (el sz : Nat) (z : List D)
  | box (el : Nat) (x : Opd)
  | bslice (el sz : Nat) (parts : List Opd)
  | mkS (el sz bytes : Nat) (z : D) (l c : Opd)
  | store (sz : Nat) (a x : Opd)
  | app (el sz bytes : Nat) (x y : Opd)
  | copy (sz : Nat) (x y : Opd)
  | call (f : Nat) (args : List Opd)
  | callv (f : Opd) (args : List Opd)
  | invk (x : Opd) (m : String) (args : List Opd)
  deriving Inhabited

/-- Data that are bytes. -/
def D.isU8 : D → Prop
  | .int .u8 _ => True
  | _ => False
def D.byte : D → UInt8
  | .int _ n => UInt8.ofNat n.toNat
  | _ => 0
def strOf (es : List D) : ByteArray := ⟨(es.map D.byte).toArray⟩

def asInt? : Option PV → Option (IntKind × Int)
  | some (.d (.int k n)) => some (k, n)
  | _ => none

/-- An index, or a bound. -/
def ix (f : Opd → Option PV) (o : Opd) : Option (IntKind × Int) := asInt? (f o)

def getD' (es : List D) (i : Nat) : D := es.getD i default

/-- A cut of a list. -/
def cutL {α : Type} (es : List α) (l h : Nat) : List α := (es.take h).drop l

/-- An optional bound: what it is, else the other. -/
def bound (f : Opd → Option PV) (o : Option Opd) (d : Nat) : Option (Option Int × Nat) :=
  match o with
  | none => some (none, d)
  | some x => (ix f x).map fun r => (some r.2, r.2.toNat)

def inB (o : Option Int) (lo hi : Nat) : Prop :=
  match o with
  | none => lo ≤ hi
  | some n => (lo : Int) ≤ n ∧ n ≤ (hi : Int)

/-- The cells of values, one behind the other. -/
def PV.cells : PV → List PV
  | .agg cs => cs
  | .d (.agg cs) => cs.map .d
  | p => [p]

def PV.known : PV → Bool
  | .unk => false
  | .tup _ => false
  | _ => true

/-- What a struct is built of. -/
def fillP (z : List PV) : List (Nat × Nat × PV) → Option (List PV)
  | [] => some z
  | (off, sz, p) :: rest =>
    if p.cells.length = sz ∧ off + sz ≤ z.length ∧ p.known = true then fillP (z.take off ++ p.cells ++ z.drop (off + sz)) rest else none

def valsO (f : Opd → Option PV) : List Opd → Option (List PV)
  | [] => some []
  | x :: xs => match f x, valsO f xs with
    | some p, some ps => some (p :: ps)
    | _, _ => none

/-- What an operation that only reads comes to, and on what terms. -/
def rop (op : AOp) (f : Opd → Option PV) (bx : Tg → Option (List PV)) : Option (Prop × PV) :=
  match op with
  | .mov x => some (True, (f x).getD .unk)
  | .pick c a b => match f c with
    | some (.d (.bool t)) => some (True, bif t then (f a).getD .unk else (f b).getD .unk)
    | _ => none
  | .bin op bt x y => match f x, f y with
    | some a, some b => absBin op bt a b
    | _, _ => none
  | .un op x => match f x with
    | some a => absUn op a
    | none => none
  | .convI k x => match f x with
    | some (.d (.int _ n)) => some (True, .d (.int k (k.wrap n)))
    | _ => none
  | .convS x => match f x with
    | some (.d (.lst es)) => some (∀ e ∈ es, e.isU8, .d (.str (strOf es)))
    | some (.sl _ 1 _ es) => some (∀ e ∈ es, e.isU8, .d (.str (strOf es)))
    | some .nils => some (True, .d (.str (strOf [])))
    | _ => none
  | .nilck x => match f x with
    | some (.ptr k o) => some (True, .ptr k o)
    | some (.ep t sz i g e) => some (True, .ep t sz i g e)
    | some (.d (.cp cs g)) => some (True, .d (.cp cs g))
    | _ => none
  | .mkif t x => match f x with
    | some (.d y) => some (True, .d (.ifc t y))
    | some p => some (True, .ifc t p)
    | none => none
  | .mkfn fn a b => match valsO f a, valsO f b with
    | some [], some [] => some (True, .d (.clo fn [] []))
    | some a', some b' => some (True, .clo fn a' b')
    | _, _ => none
  | .fieldA off x => match f x with
    | some (.ptr k o) => some (True, .ptr k (o + off))
    | some (.ep t sz i g e) => some (True, .ep t sz i (some (g.getD 0 + off)) e)
    | some (.d (.cp cs g)) => some (True, .d (.cp cs (g + off)))
    | _ => none
  | .field ag off sz x => match f x with
    | some (.d (.agg cs)) => if ag then some (off + sz ≤ cs.length, .d (.agg ((cs.drop off).take sz))) else some (off < cs.length, .d (getD' cs off))
    | some (.agg cs) => if ag then some (off + sz ≤ cs.length, .agg ((cs.drop off).take sz)) else some (off < cs.length, cs.getD off .unk)
    | _ => none
  | .idxA sz x i => match f x, ix f i with
    | some (.sl t sz' off es), some (_, n) => if sz' = sz then some (0 ≤ n ∧ n < (es.length : Int), .ep t sz (off + n.toNat) none (some (getD' es n.toNat))) else none
    | some (.d (.lst es)), some (_, n) => some (0 ≤ n ∧ n < (es.length : Int) ∧ (getD' es n.toNat).sz = sz, .d (.cp (getD' es n.toNat).cells 0))
    | _, _ => none
  | .idxAr sz len x i => match f x, ix f i with
    | some (.ptr k o), some (_, n) => some (0 ≤ n ∧ n < (len : Int), .ptr k (o + n.toNat * sz))
    | some (.ep t sz' j g e), some (_, n) => some (0 ≤ n ∧ n < (len : Int), .ep t sz' j (some (g.getD 0 + n.toNat * sz)) e)
    | some (.d (.cp cs g)), some (_, n) => some (0 ≤ n ∧ n < (len : Int), .d (.cp cs (g + n.toNat * sz)))
    | _, _ => none
  | .idxS x i => match f x, ix f i with
    | some (.d (.str s)), some (_, n) => some (0 ≤ n ∧ n < (s.size : Int), .d (.int .u8 ((s.data.getD n.toNat 0).toNat : Int)))
    | _, _ => none
  | .idxV ag sz len x i => match f x, ix f i with
    | some (.d (.agg cs)), some (_, n) => if ag then some (0 ≤ n ∧ n < (len : Int) ∧ n.toNat * sz + sz ≤ cs.length, .d (.agg ((cs.drop (n.toNat * sz)).take sz)))
      else some (0 ≤ n ∧ n < (len : Int) ∧ n.toNat * sz < cs.length, .d (getD' cs (n.toNat * sz)))
    | some (.agg cs), some (_, n) => if ag then some (0 ≤ n ∧ n < (len : Int) ∧ n.toNat * sz + sz ≤ cs.length, .agg ((cs.drop (n.toNat * sz)).take sz))
      else some (0 ≤ n ∧ n < (len : Int) ∧ n.toNat * sz < cs.length, cs.getD (n.toNat * sz) .unk)
    | _, _ => none
  | .load ag sz a => match f a with
    | some (.ptr k o) => match bx k with
      | some cs => if ag then some (o + sz ≤ cs.length, .agg ((cs.drop o).take sz)) else some (o < cs.length, cs.getD o .unk)
      | none => none
    | some (.ep t sz' i g (some e)) => if ag then some (g.getD 0 + sz ≤ e.cells.length, .d (.agg ((e.cells.drop (g.getD 0)).take sz))) else some (g.getD 0 < e.cells.length, .d (getD' e.cells (g.getD 0)))
    | some (.d (.cp cs g)) => if ag then some (g + sz ≤ cs.length, .d (.agg ((cs.drop g).take sz))) else some (g < cs.length, .d (getD' cs g))
    | _ => none
  | .sliceS sz x lo hi none => match f x with
    | some (.sl t sz' off es) => match bound f lo 0, bound f hi es.length with
      | some (bl, l), some (bh, h) => if sz' = sz then some (inB bh 0 es.length ∧ inB bl 0 h, .sl t sz (off + l) (cutL es l h)) else none
      | _, _ => none
    | some (.d (.lst es)) => match bound f lo 0, bound f hi es.length with
      | some (bl, l), some (bh, h) => some (inB bh 0 es.length ∧ inB bl 0 h ∧ (∀ e ∈ es, e.sz = sz), .d (.lst (cutL es l h)))
      | _, _ => none
    | some .nils => match bound f lo 0, bound f hi 0 with
      | some (bl, l), some (bh, h) => some (inB bh 0 0 ∧ inB bl 0 h, .nils)
      | _, _ => none
    | _ => none
  | .extract x j => match f x with
    | some (.tup vs) => match vs[j]? with
      | some p => some (True, p)
      | none => none
    | _ => none
  | .len x => match f x with
    | some (.d (.lst es)) => some (True, .d (.int .i64 (es.length : Int)))
    | some (.sl _ _ _ es) => some (True, .d (.int .i64 (es.length : Int)))
    | some .nils => some (True, .d (.int .i64 0))
    | _ => none
  | .lenS x => match f x with
    | some (.d (.str s)) => some (True, .d (.int .i64 (s.size : Int)))
    | _ => none
  | .build z parts => match valsO f (parts.map fun r => r.2.2) with
    | some ps => (fillP (z.map .d) ((parts.zip ps).map fun r => (r.1.1, r.1.2.1, r.2))).map fun cs => (True, .agg cs)
    | none => none
  | .mnmx mx x y => match f x, f y with
    | some (.d (.int k a)), some (.d (.int _ b)) => some (True, .d (.int k (if mx then (if b > a then b else a) else (if b < a then b else a))))
    | _, _ => none
  | .tass x t ok => match f x with
    | some (.d (.ifc u y)) => if u = t then some (True, if ok then .tup [.d y, .d (.bool true)] else .d y) else none
    | some (.ifc u y) => if u = t then some (True, if ok then .tup [y, .d (.bool true)] else y) else none
    | _ => none
  | _ => none

theorem aggT_cases (u : TypeDesc) : aggT u = true ∨ aggT u = false := by cases aggT u <;> simp

theorem Addr.add_mk (b o n : Nat) : Addr.add ⟨b, o, none⟩ n = ⟨b, o + n, none⟩ := Addr.add_lit b o n

theorem getD'_eq {es : List D} {i : Nat} (h : i < es.length) : es[i]? = some (getD' es i) := by
  simp [getD', List.getD_eq_getElem?_getD, List.getElem?_eq_getElem h]

/-- Where an element's cells stand among all. -/
theorem flat_at {vs : List Value} {sz : Nat} (h : ∀ u ∈ vs, u.cells.size = sz) {i : Nat} {u : Value} (hi : vs[i]? = some u) :
    ∃ l r, flat vs = l ++ u.cells.toList ++ r ∧ l.length = i * sz := by
  induction vs generalizing i with
  | nil => simp at hi
  | cons v vs ih =>
    cases i with
    | zero =>
      simp at hi; subst hi
      exact ⟨[], flat vs, by simp [flat], by simp⟩
    | succ i =>
      simp at hi
      obtain ⟨l, r, h1, h2⟩ := ih (fun u hu => h u (List.mem_cons_of_mem _ hu)) hi
      refine ⟨v.cells.toList ++ l, r, by simp only [flat, List.flatMap_cons] at h1 ⊢; rw [h1]; simp, ?_⟩
      have := h v (by simp)
      simp [h2, this, Nat.add_mul, Nat.add_comm]

theorem CellsAt.elem {w : World} {b o sz : Nat} {vs : List Value} (hc : CellsAt w b o (flat vs)) (h : ∀ u ∈ vs, u.cells.size = sz) {i : Nat} {u : Value} (hi : vs[i]? = some u) :
    CellsAt w b (o + i * sz) u.cells.toList := by
  obtain ⟨l, r, h1, h2⟩ := flat_at h hi
  rw [h1, CellsAt.append, CellsAt.append] at hc
  rw [← h2]; exact hc.1.2

theorem flat_length {vs : List Value} {sz : Nat} (h : ∀ u ∈ vs, u.cells.size = sz) : (flat vs).length = vs.length * sz := by
  induction vs with
  | nil => simp [flat]
  | cons v vs ih =>
    have h1 := h v (by simp)
    have h2 := ih fun u hu => h u (List.mem_cons_of_mem _ hu)
    simp only [flat, List.flatMap_cons, List.length_append, Array.length_toList] at h2 ⊢
    rw [h1, h2, List.length_cons, Nat.add_mul]; omega

theorem flat_append (xs ys : List Value) : flat (xs ++ ys) = flat xs ++ flat ys := by simp [flat]

theorem flat_take {vs : List Value} {sz : Nat} (h : ∀ u ∈ vs, u.cells.size = sz) (n : Nat) : flat (vs.take n) = (flat vs).take (n * sz) := by
  by_cases hn : n ≤ vs.length
  · have h1 : flat vs = flat (vs.take n) ++ flat (vs.drop n) := by rw [← flat_append, List.take_append_drop]
    have h2 := flat_length (vs := vs.take n) (sz := sz) fun u hu => h u (List.mem_of_mem_take hu)
    have h3 : (flat (vs.take n)).length = n * sz := by rw [h2, List.length_take, Nat.min_eq_left hn]
    conv => rhs; rw [h1, ← h3, List.take_left]
  · rw [List.take_of_length_le (by omega), List.take_of_length_le]
    rw [flat_length h]; exact Nat.mul_le_mul_right _ (by omega)

theorem flat_drop {vs : List Value} {sz : Nat} (h : ∀ u ∈ vs, u.cells.size = sz) (n : Nat) : flat (vs.drop n) = (flat vs).drop (n * sz) := by
  by_cases hn : n ≤ vs.length
  · have h1 : flat vs = flat (vs.take n) ++ flat (vs.drop n) := by rw [← flat_append, List.take_append_drop]
    have h2 := flat_length (vs := vs.take n) (sz := sz) fun u hu => h u (List.mem_of_mem_take hu)
    have h3 : (flat (vs.take n)).length = n * sz := by rw [h2, List.length_take, Nat.min_eq_left hn]
    rw [h1, ← h3, List.drop_left]
  · rw [List.drop_of_length_le (by omega), List.drop_of_length_le]
    · rfl
    · rw [flat_length h]; exact Nat.mul_le_mul_right _ (by omega)

theorem CellsAt.drop {w : World} {b o : Nat} {cs : List Value} (h : CellsAt w b o cs) (n : Nat) : CellsAt w b (o + n) (cs.drop n) := by
  intro i c hc
  rw [List.getElem?_drop] at hc
  have := h (n + i) c hc
  rwa [← Nat.add_assoc] at this
theorem CellsAt.take {w : World} {b o : Nat} {cs : List Value} (h : CellsAt w b o cs) (n : Nat) : CellsAt w b o (cs.take n) := by
  intro i c hc
  rw [List.getElem?_take] at hc
  split at hc
  · exact h i c hc
  · cases hc

/-- A run of cells is loaded. -/
theorem run_loadCells_at {P : Program} {w : World} {b o : Nat} {cs : List Value} (h : CellsAt w b o cs) :
    (loadCells ⟨b, o, none⟩ cs.length).run P w = .ok cs.toArray w := by
  have := run_loadCells_list (P := P) (w := w) ⟨b, o, none⟩ cs (fun j v hv => by rw [Addr.add_mk]; exact h j v hv)
  simpa using this

theorem run_load_at {P : Program} {w : World} {b o : Nat} {v : Value} (h : w.cell? ⟨b, o, none⟩ = some v) : (load ⟨b, o, none⟩).run P w = .ok v w := by
  show Sem.run P (.load .plain _ .pure) w = _
  simp [Sem.run, h]

theorem run_loadVar_agg {P : Program} {w : World} {t : TypeId} {u : TypeDesc} {i : TypeInfo} (hu : P.underlying t = some u) (hi : P.info? t = some i) (hg : aggT u = true)
    {b o : Nat} {cs : List Value} (h : CellsAt w b o cs) (hl : cs.length = i.size) : (loadVar t ⟨b, o, none⟩).run P w = .ok (.agg cs.toArray) w := by
  simp only [loadVar, Sem.run_bind, run_isAgg' hu, Result.andThen_ok, hg, if_true, run_sizeOf' hi, ← hl, run_loadCells_at h, Sem.run_pure]
theorem run_loadVar_one {P : Program} {w : World} {t : TypeId} {u : TypeDesc} (hu : P.underlying t = some u) (hg : aggT u = false)
    {b o : Nat} {v : Value} (h : w.cell? ⟨b, o, none⟩ = some v) : (loadVar t ⟨b, o, none⟩).run P w = .ok v w := by
  simp only [loadVar, Sem.run_bind, run_isAgg' hu, Result.andThen_ok, hg, Bool.false_eq_true, if_false, run_load_at h]

theorem DRs.slice {pr : Nat → Prop} {w : World} {xs : List D} {vs : List Value} (h : DRs pr w xs vs) (o n : Nat) : DRs pr w ((xs.drop o).take n) ((vs.drop o).take n) :=
  DRs.take n (DRs.drop o h)

theorem OneC.slice {vs : List Value} (h : OneC vs) (o n : Nat) : OneC ((vs.drop o).take n) :=
  fun c hc => h c (List.mem_of_mem_drop (List.mem_of_mem_take hc))

theorem VRs.take {E : Env} {w : World} : ∀ {xs : List PV} {vs : List Value} (n : Nat), VRs E w xs vs → VRs E w (xs.take n) (vs.take n)
  | [], vs, n, h => by simp only [VRs] at h; subst h; simp [VRs]
  | x :: xs, vs, 0, h => by simp [VRs]
  | x :: xs, vs, n + 1, h => by
    simp only [VRs] at h
    obtain ⟨u, us, rfl, h2, h3⟩ := h
    simp only [List.take_succ_cons, VRs]
    exact ⟨u, _, rfl, h2, VRs.take n h3⟩

theorem VRs.drop {E : Env} {w : World} : ∀ {xs : List PV} {vs : List Value} (n : Nat), VRs E w xs vs → VRs E w (xs.drop n) (vs.drop n)
  | [], vs, n, h => by simp only [VRs] at h; subst h; simp [VRs]
  | x :: xs, vs, 0, h => by simpa using h
  | x :: xs, vs, n + 1, h => by
    simp only [VRs] at h
    obtain ⟨u, us, rfl, h2, h3⟩ := h
    simpa using VRs.drop n h3

theorem VRs.at {E : Env} {w : World} {xs : List PV} {vs : List Value} {i : Nat} (h : VRs E w xs vs) (hi : i < xs.length) : ∃ u, vs[i]? = some u ∧ VR E w (xs.getD i .unk) u := by
  have : xs[i]? = some (xs.getD i .unk) := by simp [List.getD_eq_getElem?_getD, List.getElem?_eq_getElem hi]
  exact h.getElem? this
theorem DRs.at {pr : Nat → Prop} {w : World} {xs : List D} {vs : List Value} {i : Nat} (h : DRs pr w xs vs) (hi : i < xs.length) : ∃ u, vs[i]? = some u ∧ DR pr w (getD' xs i) u :=
  h.getElem? (getD'_eq hi)

/-- A value's cells, told one by one. -/
theorem VR.cells {E : Env} {w : World} {p : PV} {v : Value} (h : VR E w p v) (hp : p.known = true) : VRs E w p.cells v.cells.toList := by
  cases p with
  | unk => cases hp
  | agg cs =>
    simp only [VR] at h
    obtain ⟨arr, rfl, h0, h2⟩ := h
    simpa [Value.cells, PV.cells] using h2
  | d x =>
    simp only [VR] at h
    have h1 := h.cells
    cases x with
    | agg cs =>
      simp only [D.cells] at h1
      simp only [PV.cells]
      generalize v.cells.toList = vs at h1
      clear h hp
      induction cs generalizing vs with
      | nil => simpa [VRs, DRs] using h1
      | cons c cs ih =>
        simp only [DRs] at h1
        obtain ⟨u, us, rfl, h2, h3⟩ := h1
        simp only [List.map_cons, VRs]
        exact ⟨u, us, rfl, by simpa only [VR] using h2, ih us h3⟩
    | _ =>
      simp only [D.cells, DRs] at h1
      obtain ⟨u, us, h2, h3, rfl⟩ := h1
      simp only [PV.cells, VRs]
      exact ⟨u, _, h2, by simpa only [VR] using h3, rfl⟩
  | nils => have h' := h; simp only [VR] at h; subst h; simp only [PV.cells, VRs, Value.cells]; exact ⟨_, _, rfl, h', rfl⟩
  | sl t sz off es =>
    have h' := h
    simp only [VR] at h
    rcases h with ⟨_, a, rfl⟩ | ⟨b, o, cap, c, el, fr, vs, _, rfl, _⟩ <;> (simp only [PV.cells, VRs, Value.cells]; exact ⟨_, _, rfl, h', rfl⟩)
  | ptr k o => have h' := h; simp only [VR] at h; obtain ⟨b, _, rfl⟩ := h; simp only [PV.cells, VRs, Value.cells]; exact ⟨_, _, rfl, h', rfl⟩
  | ep t sz i g e => have h' := h; simp only [VR] at h; obtain ⟨b, o, c, el, fr, _, rfl, _⟩ := h; simp only [PV.cells, VRs, Value.cells]; exact ⟨_, _, rfl, h', rfl⟩
  | clo fn a b => have h' := h; simp only [VR] at h; obtain ⟨fa, fb, rfl, _⟩ := h; simp only [PV.cells, VRs, Value.cells]; exact ⟨_, _, rfl, h', rfl⟩
  | ifc t x => have h' := h; simp only [VR] at h; obtain ⟨u, rfl, _⟩ := h; simp only [PV.cells, VRs, Value.cells]; exact ⟨_, _, rfl, h', rfl⟩
  | tup xs => cases hp

theorem VR.one {E : Env} {w : World} {p : PV} {v : Value} (h : VR E w p v) (hp : p.known = true) : OneC v.cells.toList := by
  cases p with
  | unk => cases hp
  | agg cs =>
    simp only [VR] at h
    obtain ⟨arr, rfl, h0, h2⟩ := h
    simpa [Value.cells] using h0
  | d x => simp only [VR] at h; exact h.one
  | nils => simp only [VR] at h; subst h; simp [Value.cells, OneC, Value.oneCell']
  | sl t sz off es =>
    simp only [VR] at h
    rcases h with ⟨_, a, rfl⟩ | ⟨b, o, cap, c, el, fr, vs, _, rfl, _⟩ <;> simp [Value.cells, OneC, Value.oneCell']
  | ptr k o => simp only [VR] at h; obtain ⟨b, _, rfl⟩ := h; simp [Value.cells, OneC, Value.oneCell']
  | ep t sz i g e => simp only [VR] at h; obtain ⟨b, o, c, el, fr, _, rfl, _⟩ := h; simp [Value.cells, OneC, Value.oneCell']
  | clo fn a b => simp only [VR] at h; obtain ⟨fa, fb, rfl, _⟩ := h; simp [Value.cells, OneC, Value.oneCell']
  | ifc t x => simp only [VR] at h; obtain ⟨u, rfl, _⟩ := h; simp [Value.cells, OneC, Value.oneCell']
  | tup xs => cases hp

/-- An element of an owned or a lasting list: where it lies. -/
theorem lst_elem {pr : Nat → Prop} {w : World} {es vs} {b o sz : Nat} (h4 : ∀ u ∈ vs, u.cells.size = sz) (h5 : CellsAt w b o (flat vs)) (h6 : DRs pr w es vs) {i : Nat} (hi : i < es.length) :
    ∃ u, DR pr w (getD' es i) u ∧ u.cells.size = sz ∧ CellsAt w b (o + i * sz) u.cells.toList := by
  obtain ⟨u, h7, h8⟩ := h6.at hi
  exact ⟨u, h8, h4 u (List.mem_of_getElem? h7), h5.elem h4 h7⟩

end Go.Proofs.Ytaghpancpfpnhaa.Abs
