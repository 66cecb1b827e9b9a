/- Operations that read: what they come to in an abstract state, and that the machine comes to it. Conditions: none. -/
import Derived.Test.YtaghpancpfpnhaaAbsB
import Derived.WalkLawsBesides
namespace Go.Proofs.Ytaghpancpfpnhaa.Abs
open Go Go.RowKit
set_option linter.unusedVariables false
set_option linter.unusedSimpArgs false

inductive Opd where
  | t (n : Nat)
  | c (p : PV)
  deriving Inhabited

def St.val (st : St) : Opd → Option PV
  | .t n => st.get n
  | .c p => some p

def trV : Value → Option PV
  | .bool b => some (.d (.bool b))
  | .int k n => some (.d (.int k n))
  | .float k n => some (.d (.flt k n))
  | .string s => some (.d (.str s))
  | .pointer none => some (.d .nilptr)
  | .slice none 0 0 => some .nils
  | .map none => some (.d .nilmap)
  | .nilFunc => some (.d .nilfn)
  | .nilIface => some (.d .nilif)
  | _ => none

def trO : Operand → Option Opd
  | .tmp t => some (.t t)
  | .const v => (trV v).map .c
  | .func f => some (.c (.d (.clo (.func f) [] [])))
  | .global _ => none

theorem trV_sound {v : Value} {p : PV} (h : trV v = some p) (E : Env) (w : World) : VR E w p v := by
  unfold trV at h
  split at h <;> first | (cases h; simp only [VR, DR]; done) | (cases h; simp [VR, DR]; done) | cases h

theorem trO_sound {x : Operand} {o : Opd} (h : trO x = some o) {E : Env} {w : World} {st : St} {a : Act} (hs : StR E w st a.tmps) {p : PV} (hp : st.val o = some p) :
    VR E w p (a.eval x) := by
  cases x with
  | tmp t =>
    simp only [trO, Option.some.injEq] at h; subst h
    obtain ⟨u, h1, h2⟩ := hs.get hp
    simp only [Act.eval, Array.getD_eq_getD_getElem?, h1, Option.getD_some]; exact h2
  | const v =>
    simp only [trO, Option.map_eq_some_iff] at h
    obtain ⟨q, h1, rfl⟩ := h
    simp only [St.val, Option.some.injEq] at hp; subst hp
    exact trV_sound h1 E w
  | func f =>
    simp only [trO, Option.some.injEq] at h; subst h
    simp only [St.val, Option.some.injEq] at hp; subst hp
    simp only [VR, DR, Act.eval, DRs]
    exact ⟨#[], #[], rfl, rfl, rfl⟩
  | global g => simp [trO] at h

/-- What a comparison or a sum is of. -/
inductive BT where
  | int | bool | str | slice | ptr | func | other
  deriving DecidableEq, Inhabited

def bAnd (k : IntKind) (x y : Int) : Int := k.wrap (BitVec.ofInt k.bits x &&& BitVec.ofInt k.bits y).toNat
def bOr (k : IntKind) (x y : Int) : Int := k.wrap (BitVec.ofInt k.bits x ||| BitVec.ofInt k.bits y).toNat
def bXor (k : IntKind) (x y : Int) : Int := k.wrap (BitVec.ofInt k.bits x ^^^ BitVec.ofInt k.bits y).toNat
def bAndNot (k : IntKind) (x y : Int) : Int := k.wrap (BitVec.ofInt k.bits x &&& ~~~ BitVec.ofInt k.bits y).toNat
def sShl (k : IntKind) (x y : Int) : Int := k.wrap (x * 2 ^ (min y.toNat k.bits))
def sShr (k : IntKind) (x y : Int) : Int := x.fdiv (2 ^ (min y.toNat k.bits))

def iRes (op : BinOp) (k : IntKind) (x y : Int) : Option (Prop × D) :=
  match op with
  | .add => some (True, .int k (k.wrap (x + y)))
  | .sub => some (True, .int k (k.wrap (x - y)))
  | .mul => some (True, .int k (k.wrap (x * y)))
  | .quo => some (y ≠ 0, .int k (k.wrap (x.tdiv y)))
  | .rem => some (y ≠ 0, .int k (x.tmod y))
  | .and => some (True, .int k (bAnd k x y))
  | .or => some (True, .int k (bOr k x y))
  | .xor => some (True, .int k (bXor k x y))
  | .andNot => some (True, .int k (bAndNot k x y))
  | .eql => some (True, .bool (x == y))
  | .neq => some (True, .bool (x != y))
  | .lss => some (True, .bool (decide (x < y)))
  | .leq => some (True, .bool (decide (x ≤ y)))
  | .gtr => some (True, .bool (decide (x > y)))
  | .geq => some (True, .bool (decide (x ≥ y)))
  | _ => none

def sRes (op : BinOp) (x y : ByteArray) : Option (Prop × D) :=
  match op with
  | .eql => some (True, .bool (x.toList == y.toList))
  | .neq => some (True, .bool (!(x.toList == y.toList)))
  | _ => none

/-- Of a value: what it is held against nil: is it nil, and on what terms is that sure? -/
def nilTest (bt : BT) (a : PV) : Option (Prop × Bool) :=
  match bt, a with
  | .slice, .nils => some (True, true)
  | .ptr, .d .nilptr => some (True, true)
  | .ptr, .ptr _ _ => some (True, false)
  | .ptr, .ep _ _ _ _ _ => some (True, false)
  | .ptr, .d (.cp _ _) => some (True, false)
  | .func, .d .nilfn => some (True, true)
  | .func, .clo _ _ _ => some (True, false)
  | .func, .d (.clo _ _ _) => some (True, false)
  | _, _ => none

def nilOf : BT → PV → Bool
  | .slice, .nils => true
  | .ptr, .d .nilptr => true
  | .func, .d .nilfn => true
  | _, _ => false

def absBin (op : BinOp) (bt : BT) (a b : PV) : Option (Prop × PV) :=
  match bt, a, b with
  | .int, .d (.int k x), .d (.int k' y) =>
    match op with
    | .shl => some (0 ≤ y, .d (.int k (sShl k x y)))
    | .shr => some (0 ≤ y, .d (.int k (sShr k x y)))
    | _ => if k = k' then (iRes op k x y).map fun r => (r.1, .d r.2) else none
  | .bool, .d (.bool x), .d (.bool y) =>
    match op with
    | .eql => some (True, .d (.bool (x == y)))
    | .neq => some (True, .d (.bool (!(x == y))))
    | _ => none
  | .str, .d (.str x), .d (.str y) => (sRes op x y).map fun r => (r.1, .d r.2)
  | bt, a, b =>
    match op, nilTest bt a, nilOf bt b with
    | .eql, some (c, n), true => some (c, .d (.bool n))
    | .neq, some (c, n), true => some (c, .d (.bool (!n)))
    | _, _, _ => none

def absUn (op : UnOp) (a : PV) : Option (Prop × PV) :=
  match op, a with
  | .neg, .d (.int k n) => some (True, .d (.int k (k.wrap (0 - n))))
  | .xor, .d (.int k n) => some (True, .d (.int k (bXor k (if k.signed then -1 else k.max) n)))
  | .not, .d (.bool b) => some (True, .d (.bool (!b)))
  | _, _ => none

section
variable {P : Program} {w : World}

theorem run_typeInfo' {t : TypeId} {i : TypeInfo} (h : P.info? t = some i) (w : World) : (typeInfo t).run P w = .ok i w := by
  simp [typeInfo, h]
theorem run_sizeOf' {t : TypeId} {i : TypeInfo} (h : P.info? t = some i) (w : World) : (sizeOf t).run P w = .ok i.size w := by
  simp [sizeOf, run_typeInfo' h]
theorem run_zeroValue' {t : TypeId} {i : TypeInfo} {z : Value} (h : P.info? t = some i) (hz : i.zero = some z) (w : World) : (zeroValue t).run P w = .ok z w := by
  simp [zeroValue, run_typeInfo' h, hz]

def aggT : TypeDesc → Bool
  | .struct _ => true
  | .array _ _ => true
  | _ => false

theorem run_isAgg' {t : TypeId} {u : TypeDesc} (h : P.underlying t = some u) (w : World) : (isAgg t).run P w = .ok (aggT u) w := by
  simp only [isAgg, Sem.run_bind, run_underlying h, Result.andThen_ok]
  cases u <;> rfl
end

/-- What a type's values are compared as. -/
def btOf : TypeDesc → BT
  | .int _ => .int
  | .bool => .bool
  | .string => .str
  | .slice _ => .slice
  | .pointer _ => .ptr
  | .func _ _ _ => .func
  | _ => .other

theorem equal_of_in {P : Program} {w : World} {t : TypeId} {x y : Value} {b : Bool} (h : ∀ d, (Op.equalIn (d + 1) t x y).run P w = .ok b w) : (Op.equal t x y).run P w = .ok b w := h 9999

theorem nilTest_sound {P : Program} {w : World} {E : Env} {t : TypeId} {u : TypeDesc} (hu : P.underlying t = some u) {a b : PV} {va vb : Value} {c : Prop} {n : Bool}
    (h : nilTest (btOf u) a = some (c, n)) (hc : c) (hn : nilOf (btOf u) b = true) (ha : VR E w a va) (hb : VR E w b vb) (op : BinOp) (x y : Operand) :
    eqGuard op t x y va vb = pure () ∧ (Op.equal t va vb).run P w = .ok n w ∧ (binOp .eql t va vb = do pure (.bool (← Op.equal t va vb))) ∧ (binOp .neq t va vb = do pure (.bool (!(← Op.equal t va vb)))) := by
  cases u <;> simp only [btOf] at h hn <;> try (simp [nilTest] at h; done)
  case slice e =>
    have hb' : vb = .slice none 0 0 := by cases b <;> simp [nilOf] at hn; simpa only [VR] using hb
    subst hb'
    unfold nilTest at h
    split at h <;> simp only [Option.some.injEq, Prod.mk.injEq, reduceCtorEq] at h <;> first | (obtain ⟨rfl, rfl⟩ := h) | skip
    all_goals try contradiction
    · simp only [VR] at ha; subst ha
      exact ⟨by simp only [eqGuard_at_slice], equal_of_in fun d => by simp [Op.equalIn, run_underlying hu], rfl, rfl⟩
  case pointer e =>
    have hb' : vb = .pointer none := by
      cases b with
      | d x => cases x <;> simp [nilOf] at hn; simpa only [VR, DR] using hb
      | _ => simp [nilOf] at hn
    subst hb'
    unfold nilTest at h
    split at h <;> simp only [Option.some.injEq, Prod.mk.injEq, reduceCtorEq] at h <;> first | (obtain ⟨rfl, rfl⟩ := h) | skip
    all_goals try contradiction
    · simp only [VR, DR] at ha; subst ha
      exact ⟨by simp only [eqGuard_at_pointer], equal_of_in fun d => by simp [Op.equalIn, run_underlying hu], rfl, rfl⟩
    · simp only [VR] at ha; obtain ⟨bb, _, rfl⟩ := ha
      exact ⟨by simp only [eqGuard_at_pointer], equal_of_in fun d => by simp [Op.equalIn, run_underlying hu], rfl, rfl⟩
    · simp only [VR] at ha; obtain ⟨bb, o, cc, el, fr, _, rfl, _⟩ := ha
      exact ⟨by simp only [eqGuard_at_pointer], equal_of_in fun d => by simp [Op.equalIn, run_underlying hu], rfl, rfl⟩
    · simp only [VR, DR] at ha; obtain ⟨bb, o, vs, rfl, _⟩ := ha
      exact ⟨by simp only [eqGuard_at_pointer], equal_of_in fun d => by simp [Op.equalIn, run_underlying hu], rfl, rfl⟩
  case func ps rs v =>
    have hb' : vb = .nilFunc := by
      cases b with
      | d x => cases x <;> simp [nilOf] at hn; simpa only [VR, DR] using hb
      | _ => simp [nilOf] at hn
    subst hb'
    unfold nilTest at h
    split at h <;> simp only [Option.some.injEq, Prod.mk.injEq, reduceCtorEq] at h <;> first | (obtain ⟨rfl, rfl⟩ := h) | skip
    all_goals try contradiction
    · simp only [VR, DR] at ha; subst ha
      exact ⟨by simp only [eqGuard_at_nilFunc], equal_of_in fun d => by simp [Op.equalIn, run_underlying hu], rfl, rfl⟩
    · simp only [VR] at ha; obtain ⟨fa, fb, rfl, _⟩ := ha
      exact ⟨by simp only [eqGuard_at_func], equal_of_in fun d => by simp [Op.equalIn, run_underlying hu], rfl, rfl⟩
    · simp only [VR, DR] at ha; obtain ⟨fa, fb, rfl, _⟩ := ha
      exact ⟨by simp only [eqGuard_at_func], equal_of_in fun d => by simp [Op.equalIn, run_underlying hu], rfl, rfl⟩

/-- A row that may be nil or not: held against nil. -/
def ambNil (op : BinOp) (bt : BT) (a b : Option PV) : Option (Bool × List D) :=
  match op, bt, a, b with
  | .eql, .slice, some (.sl _ _ _ es), some .nils => some (true, es)
  | .eql, .slice, some (.d (.lst es)), some .nils => some (true, es)
  | .neq, .slice, some (.sl _ _ _ es), some .nils => some (false, es)
  | .neq, .slice, some (.d (.lst es)), some .nils => some (false, es)
  | _, _, _, _ => none

theorem slice_nil {P : Program} {w : World} {t : TypeId} {e : TypeId} (hu : P.underlying t = some (.slice e)) (a : Option Addr) (n c : Nat) :
    (Op.equal t (.slice a n c) (.slice none 0 0)).run P w = .ok a.isNone w := by
  refine equal_of_in fun d => ?_
  cases a <;> simp [Op.equalIn, run_underlying hu]

theorem ambNil_sound {P : Program} {w : World} {E : Env} {op : BinOp} {t : TypeId} {u : TypeDesc} (hu : P.underlying t = some u) {x y : Operand} {a b : Option PV} {va vb : Value} {e : Bool} {es : List D}
    (h : ambNil op (btOf u) a b = some (e, es)) (ha : ∀ p, a = some p → VR E w p va) (hb : ∀ p, b = some p → VR E w p vb) :
    ∃ n : Bool, (do eqGuard op t x y va vb; binOp op t va vb : Sem Value).run P w = .ok (.bool n) w ∧ (es ≠ [] → n = !e) := by
  have hsl : ∀ e', u = .slice e' → ∀ v n c, va = .slice v n c → vb = .slice none 0 0 → (op = .eql ∧ e = true ∨ op = .neq ∧ e = false) → (es ≠ [] → v.isNone = false) →
      ∃ n : Bool, (do eqGuard op t x y va vb; binOp op t va vb : Sem Value).run P w = .ok (.bool n) w ∧ (es ≠ [] → n = !e) := by
    rintro e' rfl v n c rfl rfl hop hes
    rcases hop with ⟨rfl, rfl⟩ | ⟨rfl, rfl⟩
    · refine ⟨v.isNone, ?_, fun h => by simp [hes h]⟩
      simp only [eqGuard_at_slice, Sem.run_bind, Sem.run_pure, Result.andThen_ok, binOp, slice_nil hu]
    · refine ⟨!v.isNone, ?_, fun h => by simp [hes h]⟩
      simp only [eqGuard_at_slice, Sem.run_bind, Sem.run_pure, Result.andThen_ok, binOp, slice_nil hu]
  have row : ∀ t' sz off (q : PV) es', VR E w (.sl t' sz off es') va → ∃ v n c, va = .slice v n c ∧ (es' ≠ [] → v.isNone = false) := by
    intro t' sz off q es' hv
    simp only [VR] at hv
    rcases hv with ⟨h1, a, rfl⟩ | ⟨bb, o, cap, cc, el, fr, vs, h1, rfl, _⟩
    · exact ⟨_, _, _, rfl, fun h => absurd h1 h⟩
    · exact ⟨_, _, _, rfl, fun _ => rfl⟩
  have lst : ∀ es', VR E w (.d (.lst es')) va → ∃ v n c, va = .slice v n c ∧ (es' ≠ [] → v.isNone = false) := by
    intro es' hv
    simp only [VR, DR] at hv
    rcases hv with ⟨h1, a, c, rfl⟩ | ⟨bb, o, cap, sz, vs, rfl, _⟩
    · exact ⟨_, _, _, rfl, fun h => absurd h1 h⟩
    · exact ⟨_, _, _, rfl, fun _ => rfl⟩
  have hut : btOf u = .slice → ∃ e', u = .slice e' := by
    intro h; cases u <;> simp [btOf] at h; exact ⟨_, rfl⟩
  unfold ambNil at h
  split at h
  all_goals (try (cases h; done))
  all_goals
    rename_i hbt
    obtain ⟨e', rfl⟩ := hut hbt
    simp only [Option.some.injEq, Prod.mk.injEq] at h
    obtain ⟨rfl, rfl⟩ := h
    have hb' := hb _ rfl
    simp only [VR] at hb'
    first
      | (obtain ⟨v, n, c, h1, h2⟩ := row _ _ _ .unk _ (ha _ rfl); exact hsl _ rfl v n c h1 hb' (by simp) h2)
      | (obtain ⟨v, n, c, h1, h2⟩ := lst _ (ha _ rfl); exact hsl _ rfl v n c h1 hb' (by simp) h2)

theorem absBin_sound {P : Program} {w : World} {E : Env} {op : BinOp} {t : TypeId} {u : TypeDesc} (hu : P.underlying t = some u) {x y : Operand} {a b : PV} {va vb : Value}
    {c : Prop} {r : PV} (h : absBin op (btOf u) a b = some (c, r)) (hc : c) (ha : VR E w a va) (hb : VR E w b vb) :
    ∃ v, (do eqGuard op t x y va vb; binOp op t va vb : Sem Value).run P w = .ok v w ∧ VR E w r v := by
  unfold absBin at h
  split at h
  · rename_i k x k' y hbt
    simp only [VR, DR] at ha hb; subst ha; subst hb
    simp only [eqGuard_at_int, Sem.run_bind, Sem.run_pure, Result.andThen_ok]
    split at h
    · simp only [Option.some.injEq, Prod.mk.injEq] at h; obtain ⟨rfl, rfl⟩ := h
      exact ⟨_, by simp [binOp, Op.shift, Int.not_lt.2 hc]; rfl, by simp [VR, DR, sShl]⟩
    · simp only [Option.some.injEq, Prod.mk.injEq] at h; obtain ⟨rfl, rfl⟩ := h
      exact ⟨_, by simp [binOp, Op.shift, Int.not_lt.2 hc]; rfl, by simp [VR, DR, sShr]⟩
    · split at h
      · rename_i hk; subst hk
        unfold iRes at h
        split at h <;> simp only [Option.map_some, Option.map_none, Option.some.injEq, Prod.mk.injEq, reduceCtorEq] at h <;> obtain ⟨rfl, rfl⟩ := h <;>
          first
            | exact ⟨_, by simp [binOp, Op.intArith, Op.intBits, Op.intCmp]; rfl, by simp [VR, DR, bAnd, bOr, bXor, bAndNot]⟩
            | exact ⟨_, by simp [binOp, Op.intDiv, hc]; rfl, by simp [VR, DR]⟩
      · cases h
  · rename_i x y hbt
    simp only [VR, DR] at ha hb; subst ha; subst hb
    have hu' : P.underlying t = some .bool := by cases u <;> simp [btOf] at hbt <;> exact hu
    simp only [eqGuard_at_bool, Sem.run_bind, Sem.run_pure, Result.andThen_ok]
    split at h
    · simp only [Option.some.injEq, Prod.mk.injEq] at h; obtain ⟨rfl, rfl⟩ := h
      exact ⟨_, run_eql_bool w t x y hu', by simp [VR, DR]⟩
    · simp only [Option.some.injEq, Prod.mk.injEq] at h; obtain ⟨rfl, rfl⟩ := h
      exact ⟨_, run_neq_bool w t x y hu', by simp [VR, DR]⟩
    · cases h
  · rename_i x y hbt
    simp only [VR, DR] at ha hb; subst ha; subst hb
    simp only [eqGuard_at_string, Sem.run_bind, Sem.run_pure, Result.andThen_ok]
    unfold sRes at h
    split at h <;> simp only [Option.map_some, Option.map_none, Option.some.injEq, Prod.mk.injEq, reduceCtorEq] at h <;> obtain ⟨rfl, rfl⟩ := h <;>
      exact ⟨_, by simp [binOp, Op.stringOp]; rfl, by simp [VR, DR]⟩
  · split at h
    · rename_i c' n h1 h2
      simp only [Option.some.injEq, Prod.mk.injEq] at h; obtain ⟨rfl, rfl⟩ := h
      obtain ⟨k1, k2, k3, _⟩ := nilTest_sound hu h1 hc h2 ha hb .eql x y
      exact ⟨.bool n, by simp only [k1, k3, Sem.run_bind, Sem.run_pure, Result.andThen_ok, k2], by simp [VR, DR]⟩
    · rename_i c' n h1 h2
      simp only [Option.some.injEq, Prod.mk.injEq] at h; obtain ⟨rfl, rfl⟩ := h
      obtain ⟨k1, k2, _, k4⟩ := nilTest_sound hu h1 hc h2 ha hb .neq x y
      exact ⟨.bool (!n), by simp only [k1, k4, Sem.run_bind, Sem.run_pure, Result.andThen_ok, k2], by simp [VR, DR]⟩
    · cases h

theorem absUn_sound {P : Program} {w : World} {E : Env} {op : UnOp} {a : PV} {va : Value} {c : Prop} {r : PV} (h : absUn op a = some (c, r)) (ha : VR E w a va) :
    ∃ v, (Op.unary op va).run P w = .ok v w ∧ VR E w r v := by
  unfold absUn at h
  split at h <;> simp only [Option.some.injEq, Prod.mk.injEq, reduceCtorEq] at h <;> obtain ⟨rfl, rfl⟩ := h <;> simp only [VR, DR] at ha <;> subst ha
  · exact ⟨_, by simp [Op.unary, Op.intArith]; rfl, by simp [VR, DR]⟩
  · exact ⟨_, by simp [Op.unary, Op.intBits]; rfl, by simp [VR, DR, bXor]⟩
  · exact ⟨_, by simp [Op.unary]; rfl, by simp [VR, DR]⟩

end Go.Proofs.Ytaghpancpfpnhaa.Abs
