/- The machine's operations as abstract ones, and that those that read come to what is told. Conditions: none. -/
import Derived.Test.YtaghpancpfpnhaaAbsD
namespace Go.Proofs.Ytaghpancpfpnhaa.Abs
open Go Go.RowKit
set_option linter.unusedVariables false
set_option linter.unusedSimpArgs false

def trOs : List Operand → Option (List Opd)
  | [] => some []
  | x :: xs => match trO x, trOs xs with
    | some y, some ys => some (y :: ys)
    | _, _ => none

def trOo : Option Operand → Option (Option Opd)
  | none => some none
  | some x => (trO x).map some

/-- A closed value as data. -/
def dV : Value → Option D
  | .bool b => some (.bool b)
  | .int k n => some (.int k n)
  | .float k n => some (.flt k n)
  | .string s => some (.str s)
  | .pointer none => some .nilptr
  | .slice none 0 0 => some (.lst [])
  | .map none => some .nilmap
  | .nilFunc => some .nilfn
  | .nilIface => some .nilif
  | _ => none
def dVs : List Value → Option (List D)
  | [] => some []
  | x :: xs => match dV x, dVs xs with
    | some y, some ys => some (y :: ys)
    | _, _ => none

/-- A type's zero value, cell by cell. -/
def zeroOf (P : Program) (t : TypeId) : Option (List D) :=
  match P.info? t with
  | some i => match i.zero with
    | some z => dVs z.cells.toList
    | none => none
  | none => none

/-- The places of a struct's or an array's parts. -/
def placeOf (P : Program) (t : TypeId) (i : Nat) : Option (Nat × Nat) :=
  match P.underlying t with
  | some (.struct fs) => match fs[i]? with
    | some f => (P.info? f.type).map fun j => (f.offset, j.size)
    | none => none
  | some (.array _ e) => (P.info? e).map fun j => (i * j.size, j.size)
  | _ => none

def trParts (P : Program) (t : TypeId) : List (Nat × Operand) → Option (List (Nat × Nat × Opd))
  | [] => some []
  | (i, x) :: r => match placeOf P t i, trO x, trParts P t r with
    | some (o, s), some y, some ys => some ((o, s, y) :: ys)
    | _, _, _ => none

/-- A type's zero value as data, of so many cells. -/
def zeroD (P : Program) (t : TypeId) : Option D :=
  match P.info? t, P.underlying t, zeroOf P t with
  | some i, some u, some z => if z.length = i.size ∧ i.size ≠ 0 then (if aggT u then some (.agg z) else match z with
    | [x] => some x
    | _ => none) else none
  | _, _, _ => none

def trPartsS : List (Nat × Operand) → Option (List (Nat × Opd))
  | [] => some []
  | (i, x) :: r => match trO x, trPartsS r with
    | some y, some ys => some ((i, y) :: ys)
    | _, _ => none

/-- Do all of a struct's fields have an info? -/
def fieldsOk (P : Program) (t : TypeId) : Bool :=
  match P.underlying t with
  | some (.struct fs) => fs.all fun f => (P.info? f.type).isSome
  | some (.array _ e) => (P.info? e).isSome
  | _ => true

/-- The machine's operation as an abstract one. -/
def trOp (P : Program) : Op → Option AOp
  | .move x => (trO x).map .mov
  | .assign x => (trO x).map .mov
  | .pick c a b => match trO c, trO a, trO b with
    | some c', some a', some b' => some (.pick c' a' b')
    | _, _, _ => none
  | .binOp op t x y _ => match P.underlying t, trO x, trO y with
    | some u, some x', some y' => some (.bin op (btOf u) x' y')
    | _, _, _ => none
  | .unOp op _ x => (trO x).map (.un op)
  | .convert s d x => match P.underlying s, P.underlying d, trO x with
    | some (.int _), some (.int k), some x' => some (.convI k x')
    | some (.slice e), some .string, some x' => match P.underlying e with
      | some (.int .u8) => some (.convS x')
      | _ => none
    | _, _, _ => none
  | .nilCheck x => (trO x).map .nilck
  | .makeInterface t x => match P.underlying t, trO x with
    | some (.interface _), _ => none
    | some _, some x' => some (.mkif t x')
    | _, _ => none
  | .makeFunc fn a b => match trOs a.toList, trOs b.toList with
    | some a', some b' => some (.mkfn fn a' b')
    | _, _ => none
  | .fieldAddr s x i => match P.underlying s, trO x with
    | some (.struct fs), some x' => match fs[i]? with
      | some f => match P.info? f.type with
        | some j => if j.size = 0 then none else some (.fieldA f.offset x')
        | none => none
      | none => none
    | _, _ => none
  | .field s x i => match P.underlying s, trO x with
    | some (.struct fs), some x' => match fs[i]? with
      | some f => match P.info? f.type, P.underlying f.type with
        | some j, some u => some (.field (aggT u) f.offset j.size x')
        | _, _ => none
      | none => none
    | _, _ => none
  | .indexAddr t x i => match P.underlying t, trO x, trO i with
    | some (.slice e), some x', some i' => (P.info? e).map fun j => .idxA j.size x' i'
    | some (.array n e), some x', some i' => (P.info? e).map fun j => .idxAr j.size n x' i'
    | _, _, _ => none
  | .index t x i => match P.underlying t, trO x, trO i with
    | some .string, some x', some i' => some (.idxS x' i')
    | some (.array n e), some x', some i' => match P.info? e, P.underlying e with
      | some j, some u => some (.idxV (aggT u) j.size n x' i')
      | _, _ => none
    | _, _, _ => none
  | .load t x => match P.underlying t, P.info? t, trO x with
    | some u, some j, some x' => some (.load (aggT u) j.size x')
    | _, _, _ => none
  | .slice t x lo hi mx => match P.underlying t, trO x, trOo lo, trOo hi, mx with
    | some (.slice e), some x', some lo', some hi', none => (P.info? e).map fun j => .sliceS j.size x' lo' hi' none
    | _, _, _, _, _ => none
  | .extract x j => (trO x).map fun x' => .extract x' j
  | .build t parts => match P.underlying t, zeroOf P t, trParts P t parts.toList with
    | some u, some z, some ps => if aggT u && fieldsOk P t then some (.build z ps) else none
    | _, _, _ => none
  | .typeAssert x _ t ok => match P.underlying t, trO x with
    | some (.interface _), _ => none
    | some _, some x' => some (.tass x' t ok)
    | _, _ => none
  | .call c => match c.callee with
    | .builtin .len => match c.argTypes.toList, c.args.toList with
      | [t], [x] => match P.underlying t, trO x with
        | some (.slice _), some x' => some (.len x')
        | some .string, some x' => some (.lenS x')
        | _, _ => none
      | _, _ => none
    | .builtin .max => match c.args.toList with
      | [x, y] => match trO x, trO y with
        | some x', some y' => some (.mnmx true x' y')
        | _, _ => none
      | _ => none
    | .builtin .min => match c.args.toList with
      | [x, y] => match trO x, trO y with
        | some x', some y' => some (.mnmx false x' y')
        | _, _ => none
      | _ => none
    | .builtin .append => match c.argTypes.toList, c.args.toList with
      | [t, u], [x, y] => match P.underlying t, P.underlying u, trO x, trO y with
        | some (.slice e), some (.slice _), some x', some y' => match P.info? e, zeroD P e with
          | some j, some _ => some (.app e j.size j.bytes x' y')
          | _, _ => none
        | _, _, _, _ => none
      | _, _ => none
    | .builtin .copy => match c.argTypes.toList, c.args.toList with
      | [t, u], [x, y] => match P.underlying t, trO x, trO y with
        | some (.slice e), some x', some y' => (P.info? e).map fun j => .copy j.size x' y'
        | _, _, _ => none
      | _, _ => none
    | .builtin _ => none
    | .value (.func f) => (trOs c.args.toList).map (.call f)
    | .value x => match trO x, trOs c.args.toList with
      | some x', some as => some (.callv x' as)
      | _, _ => none
    | .invoke x m => match trO x, trOs c.args.toList with
      | some x', some as => some (.invk x' m as)
      | _, _ => none
  | .alloc e => match P.info? e, zeroOf P e with
    | some j, some z => some (.alloc e j.size z)
    | _, _ => none
  | .box e x => (trO x).map (.box e)
  | .buildSlice t n parts => match P.underlying t, trOs (parts.toList.map (·.2)) with
    | some (.slice e), some ps => match P.info? e with
      | some j => match zeroD P e with
        | some _ => if parts.toList.map (·.1) = List.range n ∧ n * j.size ≤ 1000 then some (.bslice e j.size ps) else none
        | none => none
      | none => none
    | _, _ => none
  | .makeSlice t l c => match P.underlying t, trO l, trO c with
    | some (.slice e), some l', some c' => match P.info? e, zeroD P e with
      | some j, some z => some (.mkS e j.size j.bytes z l' c')
      | _, _ => none
    | _, _, _ => none
  | .store t x y => match P.info? t, trO x, trO y with
    | some j, some x', some y' => some (.store j.size x' y')
    | _, _, _ => none
  | _ => none

section
variable {P : Program} {E : Env} {w : World} {ρ : Operand → Value} {f : Opd → Option PV}

/-- What operands hold is told. -/
def OpdR (E : Env) (w : World) (ρ : Operand → Value) (f : Opd → Option PV) : Prop :=
  ∀ x o p, trO x = some o → f o = some p → VR E w p (ρ x)

theorem trOs_sound (hO : OpdR E w ρ f) : ∀ {xs : List Operand} {os : List Opd} {ps : List PV}, trOs xs = some os → valsO f os = some ps → VRs E w ps (xs.map ρ)
  | [], os, ps, h, hp => by simp only [trOs, Option.some.injEq] at h; subst h; simp only [valsO, Option.some.injEq] at hp; subst hp; simp [VRs]
  | x :: xs, os, ps, h, hp => by
    simp only [trOs] at h
    split at h
    · rename_i y ys h1 h2
      simp only [Option.some.injEq] at h; subst h
      simp only [valsO] at hp
      split at hp
      · rename_i p ps' h3 h4
        simp only [Option.some.injEq] at hp; subst hp
        simp only [List.map_cons, VRs]
        exact ⟨_, _, rfl, hO _ _ _ h1 h3, trOs_sound hO h2 h4⟩
      · cases hp
    · cases h

theorem ix_sound (hO : OpdR E w ρ f) {x : Operand} {o : Opd} (h : trO x = some o) {k : IntKind} {n : Int} (hi : ix f o = some (k, n)) : ρ x = .int k n := by
  unfold ix asInt? at hi
  split at hi
  · rename_i k' n' h1
    simp only [Option.some.injEq, Prod.mk.injEq] at hi; obtain ⟨rfl, rfl⟩ := hi
    have := hO _ _ _ h h1
    simpa only [VR, DR] using this
  · cases hi

theorem dV_sound {v : Value} {x : D} (h : dV v = some x) (pr : Nat → Prop) (w : World) : DR pr w x v ∧ x.sz = 1 := by
  unfold dV at h
  split at h <;> first | (cases h; simp [DR, D.sz]; done) | cases h

theorem dVs_sound : ∀ {vs : List Value} {xs : List D}, dVs vs = some xs → ∀ (pr : Nat → Prop) (w : World), DRs pr w xs vs
  | [], xs, h, pr, w => by simp only [dVs, Option.some.injEq] at h; subst h; simp [DRs]
  | v :: vs, xs, h, pr, w => by
    simp only [dVs] at h
    split at h
    · rename_i y ys h1 h2
      simp only [Option.some.injEq] at h; subst h
      simp only [DRs]
      exact ⟨_, _, rfl, (dV_sound h1 pr w).1, dVs_sound h2 pr w⟩
    · cases h

theorem dVs_one : ∀ {vs : List Value} {xs : List D}, dVs vs = some xs → OneC vs
  | [], xs, h => by simp [OneC]
  | v :: vs, xs, h => by
    simp only [dVs] at h
    split at h
    · rename_i y ys h1 h2
      have ih := dVs_one h2
      intro c hc
      rcases List.mem_cons.1 hc with rfl | hc
      · unfold dV at h1
        split at h1 <;> first | rfl | cases h1
      · exact ih c hc
    · cases h

theorem VRs_d : ∀ {xs : List D} {vs : List Value}, DRs E.prot w xs vs → VRs E w (xs.map .d) vs
  | [], vs, h => by simpa [VRs, DRs] using h
  | x :: xs, vs, h => by
    simp only [DRs] at h
    obtain ⟨u, us, rfl, h1, h2⟩ := h
    simp only [List.map_cons, VRs]
    exact ⟨u, us, rfl, by simpa only [VR] using h1, VRs_d h2⟩

theorem DRs_d : ∀ {xs : List D} {vs : List Value}, VRs E w (xs.map .d) vs → DRs E.prot w xs vs
  | [], vs, h => by simpa [VRs, DRs] using h
  | x :: xs, vs, h => by
    simp only [List.map_cons, VRs] at h
    obtain ⟨u, us, rfl, h1, h2⟩ := h
    simp only [DRs]
    exact ⟨u, us, rfl, by simpa only [VR] using h1, DRs_d h2⟩

end

end Go.Proofs.Ytaghpancpfpnhaa.Abs
