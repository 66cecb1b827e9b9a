/- Rules by which a walk in an abstract state is worked out. Conditions: none. -/
import Derived.Test.YtaghpancpfpnhaaAbsW
import Derived.IntWalk
namespace Go.Proofs.Ytaghpancpfpnhaa.Abs
open Go Go.RowKit
set_option linter.unusedVariables false
set_option linter.unusedSimpArgs false

/-- Two ways on, by a truth. -/
def gsplit (g b : Bool) (A B : Prop) : Prop := (g = b → A) ∧ (g = !b → B)
theorem gs_tt {A B : Prop} : gsplit true true A B = A := by simp [gsplit]
theorem gs_ff {A B : Prop} : gsplit false false A B = A := by simp [gsplit]
theorem gs_tf {A B : Prop} : gsplit true false A B = B := by simp [gsplit]
theorem gs_ft {A B : Prop} : gsplit false true A B = B := by simp [gsplit]
theorem gs_any {g b : Bool} {A B : Prop} : gsplit g b A B = ((g = b → A) ∧ (g = !b → B)) := rfl

section
variable {P : Program} {N n : Nat} {tm : List (Nat × PV)} {bx : List (Tg × List PV)} {Q : Kd → St → Prop} {K : St → Prop}

theorem w_skip : vc P N .skip ⟨tm, bx⟩ Q = Q .norm ⟨tm, bx⟩ := rfl
theorem w_reg {ops : List AOper} : vc P N (.reg ops) ⟨tm, bx⟩ Q = vcOps P ops ⟨tm, bx⟩ (Q .norm) := rfl
theorem w_draw {its : List DIt} : vc P N (.draw its) ⟨tm, bx⟩ Q = vcDraw P its ⟨tm, bx⟩ (Q .norm) := rfl
theorem w_dN : vcDraw P [] ⟨tm, bx⟩ K = K ⟨tm, bx⟩ := rfl
theorem w_dR {dst : Option Nat} {op : AOp} {stay : List AOper} {rest : List DIt} : vcDraw P (⟨⟨dst, none, n, op⟩, false, stay⟩ :: rest) ⟨tm, bx⟩ K = match rop op (St.val ⟨tm, bx⟩) (St.box ⟨tm, bx⟩) with
    | some (c, v) => c ∧ (HoldsAll stay (St.putO ⟨tm, bx⟩ dst v) ∧ vcDraw P rest (St.putO ⟨tm, bx⟩ dst v) K)
    | none => False := rfl
theorem w_dS {dst : Option Nat} {op : AOp} {stay : List AOper} {rest : List DIt} : vcDraw P (⟨⟨dst, none, n, op⟩, true, stay⟩ :: rest) ⟨tm, bx⟩ K = stepK P n op ⟨tm, bx⟩ fun v st' => (fun st2 => HoldsAll stay st2 ∧ vcDraw P rest st2 K) (st'.putO dst v) := rfl
theorem w_dRg {dst : Option Nat} {t : Nat} {b : Bool} {op : AOp} {stay : List AOper} {rest : List DIt} : vcDraw P (⟨⟨dst, some (t, b), n, op⟩, false, stay⟩ :: rest) ⟨tm, bx⟩ K = match getL t tm with
    | some (.d (.bool g)) => gsplit g b (vcDraw P (⟨⟨dst, none, n, op⟩, false, stay⟩ :: rest) (St.lit ⟨tm, bx⟩ t b) K) (HoldsAll stay (St.putO (St.lit ⟨tm, bx⟩ t (!b)) dst (.tup [])) ∧ vcDraw P rest (St.putO (St.lit ⟨tm, bx⟩ t (!b)) dst (.tup [])) K)
    | some (.tup []) => HoldsAll stay (St.putO ⟨tm, bx⟩ dst (.tup [])) ∧ vcDraw P rest (St.putO ⟨tm, bx⟩ dst (.tup [])) K
    | _ => False := rfl
theorem w_dSg {dst : Option Nat} {t : Nat} {b : Bool} {op : AOp} {stay : List AOper} {rest : List DIt} : vcDraw P (⟨⟨dst, some (t, b), n, op⟩, true, stay⟩ :: rest) ⟨tm, bx⟩ K = match getL t tm with
    | some (.d (.bool g)) => gsplit g b (vcDraw P (⟨⟨dst, none, n, op⟩, true, stay⟩ :: rest) (St.lit ⟨tm, bx⟩ t b) K) (HoldsAll stay (St.putO (St.lit ⟨tm, bx⟩ t (!b)) dst (.tup [])) ∧ vcDraw P rest (St.putO (St.lit ⟨tm, bx⟩ t (!b)) dst (.tup [])) K)
    | some (.tup []) => HoldsAll stay (St.putO ⟨tm, bx⟩ dst (.tup [])) ∧ vcDraw P rest (St.putO ⟨tm, bx⟩ dst (.tup [])) K
    | _ => False := rfl
theorem w_hN {st : St} : HoldsAll [] st = True := rfl
theorem w_hC {o : AOper} {r : List AOper} : HoldsAll (o :: r) ⟨tm, bx⟩ = (Holds o ⟨tm, bx⟩ ∧ HoldsAll r ⟨tm, bx⟩) := rfl
theorem w_h {dst : Option Nat} {op : AOp} : Holds ⟨dst, none, n, op⟩ ⟨tm, bx⟩ = match rop op (St.val ⟨tm, bx⟩) (St.box ⟨tm, bx⟩) with
    | some (c, v) => c ∧ (match dst with
      | some d => onlyL d v tm
      | none => True)
    | none => False := rfl
theorem w_hg {dst : Option Nat} {t : Nat} {b : Bool} {op : AOp} : Holds ⟨dst, some (t, b), n, op⟩ ⟨tm, bx⟩ = match getL t tm with
    | some (.d (.bool g)) => gsplit g b (match rop op (St.val ⟨tm, bx⟩) (St.box ⟨tm, bx⟩) with
      | some (c, v) => c ∧ (match dst with
        | some d => onlyL d v tm
        | none => True)
      | none => False) (match dst with
      | some d => onlyL d (.tup []) tm
      | none => True)
    | some (.tup []) => (match dst with
      | some d => onlyL d (.tup []) tm
      | none => True)
    | _ => False := rfl
theorem w_seq {a b : AC} : vc P N (.seq a b) ⟨tm, bx⟩ Q = vc P N a ⟨tm, bx⟩ fun k s => match k with
    | .norm => vc P N b s Q
    | k => Q k s := rfl
theorem w_cond {c : Opd} {a b : AC} : vc P N (.cond c a b) ⟨tm, bx⟩ Q = match St.val ⟨tm, bx⟩ c with
    | some (.d (.bool t)) => gsplit t true (vc P N a (St.litO ⟨tm, bx⟩ c true) Q) (vc P N b (St.litO ⟨tm, bx⟩ c false) Q)
    | _ => False := rfl
theorem w_block {id : Nat} {a : AC} : vc P N (.block id a) ⟨tm, bx⟩ Q = vc P N a ⟨tm, bx⟩ fun k s => match k with
    | .exit i => if i = id then Q .norm s else Q (.exit i) s
    | k => Q k s := rfl
theorem w_loop {a : AC} : vc P N (.loop a) ⟨tm, bx⟩ Q = EvC P N (.loop a) ⟨tm, bx⟩ Q := rfl
theorem w_exit {id : Nat} : vc P N (.exit id) ⟨tm, bx⟩ Q = Q (.exit id) ⟨tm, bx⟩ := rfl
theorem w_ret : vc P N .ret ⟨tm, bx⟩ Q = Q .ret ⟨tm, bx⟩ := rfl

theorem w_nil : vcOps P [] ⟨tm, bx⟩ K = K ⟨tm, bx⟩ := rfl
theorem w_op {dst : Option Nat} {op : AOp} {rest : List AOper} : vcOps P (⟨dst, none, n, op⟩ :: rest) ⟨tm, bx⟩ K = stepK P n op ⟨tm, bx⟩ fun v st' => vcOps P rest (st'.putO dst v) K := rfl
theorem w_opg {dst : Option Nat} {t : Nat} {b : Bool} {op : AOp} {rest : List AOper} : vcOps P (⟨dst, some (t, b), n, op⟩ :: rest) ⟨tm, bx⟩ K = match getL t tm with
    | some (.d (.bool g)) => gsplit g b (stepK P n op (St.lit ⟨tm, bx⟩ t b) fun v st' => vcOps P rest (st'.putO dst v) K) (vcOps P rest (St.putO (St.lit ⟨tm, bx⟩ t (!b)) dst (.tup [])) K)
    | some (.tup []) => vcOps P rest (St.putO ⟨tm, bx⟩ dst (.tup [])) K
    | _ => False := rfl
theorem w_step {op : AOp} {K : PV → St → Prop} : stepK P n op ⟨tm, bx⟩ K = match rop op (St.val ⟨tm, bx⟩) (St.box ⟨tm, bx⟩) with
    | some (c, v) => c ∧ K v ⟨tm, bx⟩
    | none => match wop (16 * n + 15) op ⟨tm, bx⟩ with
      | some (c, v, st') => c ∧ K v st'
      | none => callK P n op ⟨tm, bx⟩ K := rfl
theorem w_putO {d : Nat} {v : PV} : St.putO ⟨tm, bx⟩ (some d) v = ⟨(d, v) :: delL d tm, bx⟩ := rfl
theorem w_putN {v : PV} : St.putO ⟨tm, bx⟩ none v = ⟨tm, bx⟩ := rfl
theorem w_put {d : Nat} {v : PV} : St.put ⟨tm, bx⟩ d v = ⟨(d, v) :: delL d tm, bx⟩ := rfl
theorem w_delO {d : Nat} : St.delO ⟨tm, bx⟩ (some d) = ⟨delL d tm, bx⟩ := rfl
theorem w_delN : St.delO ⟨tm, bx⟩ none = ⟨tm, bx⟩ := rfl
theorem w_get {d : Nat} : St.get ⟨tm, bx⟩ d = getL d tm := rfl
theorem w_valT {d : Nat} : St.val ⟨tm, bx⟩ (.t d) = getL d tm := rfl
theorem w_valC {p : PV} : St.val ⟨tm, bx⟩ (.c p) = some p := rfl
theorem w_box {k : Tg} : St.box ⟨tm, bx⟩ k = getB k bx := rfl
theorem w_init {ps : List PV} : initSt ps bx = ⟨enum 0 ps, bx⟩ := rfl
theorem w_rebind {t : Tg} : St.rebind ⟨tm, bx⟩ t = ⟨mapLT (killF t) tm, delB t (mapLB (killF t) bx)⟩ := rfl

theorem ab_add {k : IntKind} {x y : Int} : absBin .add .int (.d (.int k x)) (.d (.int k y)) = some (True, .d (.int k (k.wrap (x + y)))) := by simp [absBin, iRes]
theorem ab_sub {k : IntKind} {x y : Int} : absBin .sub .int (.d (.int k x)) (.d (.int k y)) = some (True, .d (.int k (k.wrap (x - y)))) := by simp [absBin, iRes]
theorem ab_mul {k : IntKind} {x y : Int} : absBin .mul .int (.d (.int k x)) (.d (.int k y)) = some (True, .d (.int k (k.wrap (x * y)))) := by simp [absBin, iRes]
theorem ab_and {k : IntKind} {x y : Int} : absBin .and .int (.d (.int k x)) (.d (.int k y)) = some (True, .d (.int k (bAnd k x y))) := by simp [absBin, iRes]
theorem ab_or {k : IntKind} {x y : Int} : absBin .or .int (.d (.int k x)) (.d (.int k y)) = some (True, .d (.int k (bOr k x y))) := by simp [absBin, iRes]
theorem ab_xor {k : IntKind} {x y : Int} : absBin .xor .int (.d (.int k x)) (.d (.int k y)) = some (True, .d (.int k (bXor k x y))) := by simp [absBin, iRes]
theorem ab_andNot {k : IntKind} {x y : Int} : absBin .andNot .int (.d (.int k x)) (.d (.int k y)) = some (True, .d (.int k (bAndNot k x y))) := by simp [absBin, iRes]
theorem ab_eql {k : IntKind} {x y : Int} : absBin .eql .int (.d (.int k x)) (.d (.int k y)) = some (True, .d (.bool (x == y))) := by simp [absBin, iRes]
theorem ab_neq {k : IntKind} {x y : Int} : absBin .neq .int (.d (.int k x)) (.d (.int k y)) = some (True, .d (.bool (x != y))) := by simp [absBin, iRes]
theorem ab_lss {k : IntKind} {x y : Int} : absBin .lss .int (.d (.int k x)) (.d (.int k y)) = some (True, .d (.bool (decide (x < y)))) := by simp [absBin, iRes]
theorem ab_leq {k : IntKind} {x y : Int} : absBin .leq .int (.d (.int k x)) (.d (.int k y)) = some (True, .d (.bool (decide (x ≤ y)))) := by simp [absBin, iRes]
theorem ab_gtr {k : IntKind} {x y : Int} : absBin .gtr .int (.d (.int k x)) (.d (.int k y)) = some (True, .d (.bool (decide (x > y)))) := by simp [absBin, iRes]
theorem ab_geq {k : IntKind} {x y : Int} : absBin .geq .int (.d (.int k x)) (.d (.int k y)) = some (True, .d (.bool (decide (x ≥ y)))) := by simp [absBin, iRes]
theorem ab_quo {k : IntKind} {x y : Int} : absBin .quo .int (.d (.int k x)) (.d (.int k y)) = some (y ≠ 0, .d (.int k (k.wrap (x.tdiv y)))) := by simp [absBin, iRes]
theorem ab_rem {k : IntKind} {x y : Int} : absBin .rem .int (.d (.int k x)) (.d (.int k y)) = some (y ≠ 0, .d (.int k (x.tmod y))) := by simp [absBin, iRes]
theorem ab_shl {k j : IntKind} {x y : Int} : absBin .shl .int (.d (.int k x)) (.d (.int j y)) = some (0 ≤ y, .d (.int k (sShl k x y))) := rfl
theorem ab_shr {k j : IntKind} {x y : Int} : absBin .shr .int (.d (.int k x)) (.d (.int j y)) = some (0 ≤ y, .d (.int k (sShr k x y))) := rfl
theorem ab_beql {x y : Bool} : absBin .eql .bool (.d (.bool x)) (.d (.bool y)) = some (True, .d (.bool (x == y))) := rfl
theorem ab_bneq {x y : Bool} : absBin .neq .bool (.d (.bool x)) (.d (.bool y)) = some (True, .d (.bool (!(x == y)))) := rfl
theorem an_1 {es : List D} {t k : Tg} {sz off o i : Nat} {f : Option Nat} {e : Option D} {fn : Fn} {a b : List PV} {x y : List D} : absBin .eql .slice (.d (.lst es)) .nils = none := rfl
theorem an_2 {es : List D} {t k : Tg} {sz off o i : Nat} {f : Option Nat} {e : Option D} {fn : Fn} {a b : List PV} {x y : List D} : absBin .eql .slice (.sl t sz off es) .nils = none := rfl
theorem an_3 {es : List D} {t k : Tg} {sz off o i : Nat} {f : Option Nat} {e : Option D} {fn : Fn} {a b : List PV} {x y : List D} : absBin .eql .slice .nils .nils = some (True, .d (.bool true)) := rfl
theorem an_4 {es : List D} {t k : Tg} {sz off o i : Nat} {f : Option Nat} {e : Option D} {fn : Fn} {a b : List PV} {x y : List D} : absBin .eql .ptr (.d .nilptr) (.d .nilptr) = some (True, .d (.bool true)) := rfl
theorem an_5 {es : List D} {t k : Tg} {sz off o i : Nat} {f : Option Nat} {e : Option D} {fn : Fn} {a b : List PV} {x y : List D} : absBin .eql .ptr (.ptr k o) (.d .nilptr) = some (True, .d (.bool false)) := rfl
theorem an_6 {es : List D} {t k : Tg} {sz off o i : Nat} {f : Option Nat} {e : Option D} {fn : Fn} {a b : List PV} {x y : List D} : absBin .eql .ptr (.ep t sz i f e) (.d .nilptr) = some (True, .d (.bool false)) := rfl
theorem an_7 {es : List D} {t k : Tg} {sz off o i : Nat} {f : Option Nat} {e : Option D} {fn : Fn} {a b : List PV} {x y : List D} : absBin .eql .ptr (.d (.cp es o)) (.d .nilptr) = some (True, .d (.bool false)) := rfl
theorem an_8 {es : List D} {t k : Tg} {sz off o i : Nat} {f : Option Nat} {e : Option D} {fn : Fn} {a b : List PV} {x y : List D} : absBin .eql .func (.d .nilfn) (.d .nilfn) = some (True, .d (.bool true)) := rfl
theorem an_9 {es : List D} {t k : Tg} {sz off o i : Nat} {f : Option Nat} {e : Option D} {fn : Fn} {a b : List PV} {x y : List D} : absBin .eql .func (.clo fn a b) (.d .nilfn) = some (True, .d (.bool false)) := rfl
theorem an_10 {es : List D} {t k : Tg} {sz off o i : Nat} {f : Option Nat} {e : Option D} {fn : Fn} {a b : List PV} {x y : List D} : absBin .eql .func (.d (.clo fn x y)) (.d .nilfn) = some (True, .d (.bool false)) := rfl
theorem an_11 {es : List D} {t k : Tg} {sz off o i : Nat} {f : Option Nat} {e : Option D} {fn : Fn} {a b : List PV} {x y : List D} : absBin .neq .slice (.d (.lst es)) .nils = none := rfl
theorem an_12 {es : List D} {t k : Tg} {sz off o i : Nat} {f : Option Nat} {e : Option D} {fn : Fn} {a b : List PV} {x y : List D} : absBin .neq .slice (.sl t sz off es) .nils = none := rfl
theorem an_13 {es : List D} {t k : Tg} {sz off o i : Nat} {f : Option Nat} {e : Option D} {fn : Fn} {a b : List PV} {x y : List D} : absBin .neq .slice .nils .nils = some (True, .d (.bool false)) := rfl
theorem an_14 {es : List D} {t k : Tg} {sz off o i : Nat} {f : Option Nat} {e : Option D} {fn : Fn} {a b : List PV} {x y : List D} : absBin .neq .ptr (.d .nilptr) (.d .nilptr) = some (True, .d (.bool false)) := rfl
theorem an_15 {es : List D} {t k : Tg} {sz off o i : Nat} {f : Option Nat} {e : Option D} {fn : Fn} {a b : List PV} {x y : List D} : absBin .neq .ptr (.ptr k o) (.d .nilptr) = some (True, .d (.bool true)) := rfl
theorem an_16 {es : List D} {t k : Tg} {sz off o i : Nat} {f : Option Nat} {e : Option D} {fn : Fn} {a b : List PV} {x y : List D} : absBin .neq .ptr (.ep t sz i f e) (.d .nilptr) = some (True, .d (.bool true)) := rfl
theorem an_17 {es : List D} {t k : Tg} {sz off o i : Nat} {f : Option Nat} {e : Option D} {fn : Fn} {a b : List PV} {x y : List D} : absBin .neq .ptr (.d (.cp es o)) (.d .nilptr) = some (True, .d (.bool true)) := rfl
theorem an_18 {es : List D} {t k : Tg} {sz off o i : Nat} {f : Option Nat} {e : Option D} {fn : Fn} {a b : List PV} {x y : List D} : absBin .neq .func (.d .nilfn) (.d .nilfn) = some (True, .d (.bool false)) := rfl
theorem an_19 {es : List D} {t k : Tg} {sz off o i : Nat} {f : Option Nat} {e : Option D} {fn : Fn} {a b : List PV} {x y : List D} : absBin .neq .func (.clo fn a b) (.d .nilfn) = some (True, .d (.bool true)) := rfl
theorem an_20 {es : List D} {t k : Tg} {sz off o i : Nat} {f : Option Nat} {e : Option D} {fn : Fn} {a b : List PV} {x y : List D} : absBin .neq .func (.d (.clo fn x y)) (.d .nilfn) = some (True, .d (.bool true)) := rfl
theorem an_str {x y : ByteArray} : absBin .eql .str (.d (.str x)) (.d (.str y)) = some (True, .d (.bool (x.toList == y.toList))) := rfl
theorem an_strn {x y : ByteArray} : absBin .neq .str (.d (.str x)) (.d (.str y)) = some (True, .d (.bool (!(x.toList == y.toList)))) := rfl
theorem sz_22 {k : IntKind} {n : Int} {b : Bool} {j : FloatKind} {m : Nat} {s : ByteArray} {es cs : List D} {x : D} {fn : Fn} : D.sz (.int k n) = 1 := rfl
theorem sz_23 {k : IntKind} {n : Int} {b : Bool} {j : FloatKind} {m : Nat} {s : ByteArray} {es cs : List D} {x : D} {fn : Fn} : D.sz (.bool b) = 1 := rfl
theorem sz_24 {k : IntKind} {n : Int} {b : Bool} {j : FloatKind} {m : Nat} {s : ByteArray} {es cs : List D} {x : D} {fn : Fn} : D.sz (.flt j m) = 1 := rfl
theorem sz_25 {k : IntKind} {n : Int} {b : Bool} {j : FloatKind} {m : Nat} {s : ByteArray} {es cs : List D} {x : D} {fn : Fn} : D.sz (.str s) = 1 := rfl
theorem sz_26 {k : IntKind} {n : Int} {b : Bool} {j : FloatKind} {m : Nat} {s : ByteArray} {es cs : List D} {x : D} {fn : Fn} : D.sz (.lst es) = 1 := rfl
theorem sz_27 {k : IntKind} {n : Int} {b : Bool} {j : FloatKind} {m : Nat} {s : ByteArray} {es cs : List D} {x : D} {fn : Fn} : D.sz (.agg es) = es.length := rfl
theorem sz_28 {k : IntKind} {n : Int} {b : Bool} {j : FloatKind} {m : Nat} {s : ByteArray} {es cs : List D} {x : D} {fn : Fn} : D.sz (.ifc m x) = 1 := rfl
theorem sz_29 {k : IntKind} {n : Int} {b : Bool} {j : FloatKind} {m : Nat} {s : ByteArray} {es cs : List D} {x : D} {fn : Fn} : D.sz .nilif = 1 := rfl
theorem sz_30 {k : IntKind} {n : Int} {b : Bool} {j : FloatKind} {m : Nat} {s : ByteArray} {es cs : List D} {x : D} {fn : Fn} : D.sz .nilptr = 1 := rfl
theorem sz_31 {k : IntKind} {n : Int} {b : Bool} {j : FloatKind} {m : Nat} {s : ByteArray} {es cs : List D} {x : D} {fn : Fn} : D.sz .nilfn = 1 := rfl
theorem sz_32 {k : IntKind} {n : Int} {b : Bool} {j : FloatKind} {m : Nat} {s : ByteArray} {es cs : List D} {x : D} {fn : Fn} : D.sz .nilmap = 1 := rfl
theorem sz_33 {k : IntKind} {n : Int} {b : Bool} {j : FloatKind} {m : Nat} {s : ByteArray} {es cs : List D} {x : D} {fn : Fn} : D.sz (.clo fn es cs) = 1 := rfl
theorem sz_34 {k : IntKind} {n : Int} {b : Bool} {j : FloatKind} {m : Nat} {s : ByteArray} {es cs : List D} {x : D} {fn : Fn} : D.sz (.cp es m) = 1 := rfl
theorem w_lit {t : Nat} {b : Bool} : St.lit ⟨tm, bx⟩ t b = ⟨(t, .d (.bool b)) :: delL t tm, bx⟩ := rfl
theorem w_litT {t : Nat} {b : Bool} : St.litO ⟨tm, bx⟩ (.t t) b = ⟨(t, .d (.bool b)) :: delL t tm, bx⟩ := rfl
theorem w_litC {p : PV} {b : Bool} : St.litO ⟨tm, bx⟩ (.c p) b = ⟨tm, bx⟩ := rfl
theorem w_frzN : St.frz ⟨tm, bx⟩ [] = ⟨tm, bx⟩ := rfl
theorem w_frzC {t : Tg} {ts : List Tg} : St.frz ⟨tm, bx⟩ (t :: ts) = ⟨mapLT (frzF (t :: ts)) tm, mapLB (frzF (t :: ts)) bx⟩ := rfl
theorem w_map {f : PV → PV} : St.map ⟨tm, bx⟩ f = ⟨mapLT f tm, mapLB f bx⟩ := rfl
theorem w_setBox {k : Tg} {cs : List PV} : St.setBox ⟨tm, bx⟩ k cs = ⟨tm, (k, cs) :: delB k bx⟩ := rfl
theorem w_rebindsN : St.rebinds ⟨tm, bx⟩ n [] = ⟨tm, bx⟩ := rfl
theorem w_rebindsC {j : Nat} {ts : List Tg} : St.rebinds ⟨tm, bx⟩ n (.s j :: ts) = (St.rebinds ⟨tm, bx⟩ n ts).rebind (.s (16 * n + j)) := rfl
theorem w_rebindsU {u : Tg} {ts : List Tg} : St.rebinds ⟨tm, bx⟩ n (.up u :: ts) = St.rebinds ⟨tm, bx⟩ n ts := rfl
theorem w_give {ρ : List (Tg × Tg)} {bx' : List (Tg × List PV)} : St.give ⟨tm, bx⟩ ρ n bx' = ⟨mapLT (killG (ρ.map Prod.snd)) tm, sgB ρ n bx' ++ dropB (ρ.map Prod.snd) (mapLB (killG (ρ.map Prod.snd)) bx)⟩ := rfl

/-- A call of a function that is named. -/
def callF (P : Program) (n f : Nat) (args : List Opd) (st : St) (K : PV → St → Prop) : Prop :=
  (match valsO st.val args with
    | some ps => callWith P n f ps st K
    | none => False) ∨ callGive P n f args st K
theorem w_callF {f : Nat} {args : List Opd} {K : PV → St → Prop} : callK P n (.call f args) ⟨tm, bx⟩ K = callF P n f args ⟨tm, bx⟩ K := rfl
theorem w_callB {op : BinOp} {bt : BT} {x y : Opd} {K : PV → St → Prop} : callK P n (.bin op bt x y) ⟨tm, bx⟩ K = match ambNil op bt (St.val ⟨tm, bx⟩ x) (St.val ⟨tm, bx⟩ y) with
    | some (e, es) => (es ≠ [] → K (.d (.bool (!e))) ⟨tm, bx⟩) ∧ (es = [] → ∀ b, K (.d (.bool b)) ⟨tm, bx⟩)
    | none => False := rfl
theorem w_callV {x : Opd} {args : List Opd} {K : PV → St → Prop} : callK P n (.callv x args) ⟨tm, bx⟩ K = match St.val ⟨tm, bx⟩ x, valsO (St.val ⟨tm, bx⟩) args with
    | some (.d (.clo (.func g) a b)), some ps => callWith P n g (a.map .d ++ ps ++ b.map .d) ⟨tm, bx⟩ K
    | some (.clo (.func g) a b), some ps => callWith P n g (a ++ ps ++ b) ⟨tm, bx⟩ K
    | _, _ => False := rfl

/-- A call by a contract over data: what is handed in stays the caller's. -/
theorem use_F {f : Nat} {args : List Opd} {st : St} {ds : List D} {r : PV} {K : PV → St → Prop} (h : EvF P f ds r) (h1 : (valsO st.val args).bind (PV.toDBL st.box) = some ds) (h2 : r.rok = true) (h3 : r.noLst) (hK : K (r.mapT (retag n)) (st.rebinds n r.tags)) : callF P n f args st K := by
  obtain ⟨ps, g1, g2⟩ := Option.bind_eq_some_iff.1 h1
  refine .inl ?_
  rw [g1]
  exact ⟨ds, r, h, h2, .inl ⟨g2, h3, hK⟩⟩
/-- The same: what is handed in (the rows F) stays as it is from now on. -/
theorem use_Z {f : Nat} {args : List Opd} {st : St} {ds : List D} {r : PV} {K : PV → St → Prop} (F : List Tg) (h : EvF P f ds r) (h1 : (valsO st.val args).bind PV.toDL = some ds) (hF : (valsO st.val args).map PV.tagsL = some F) (h2 : r.rok = true) (hK : K (r.mapT (retag n)) ((st.frz F).rebinds n r.tags)) : callF P n f args st K := by
  obtain ⟨ps, g1, g2⟩ := Option.bind_eq_some_iff.1 h1
  rw [g1] at hF
  simp only [Option.map_some, Option.some.injEq] at hF; subst hF
  refine .inl ?_
  rw [g1]
  exact ⟨ds, r, h, h2, .inr ⟨g2, hK⟩⟩
/-- A call that is handed rows and boxes. -/
theorem use_G {f : Nat} {args : List Opd} {st : St} {ps : List PV} {bx : List (Tg × List PV)} {r : PV} {bx' : List (Tg × List PV)} {K : PV → St → Prop} (h : EvG P f ps bx r bx') (ρ : List (Tg × Tg)) (F : List Tg) (h1 : (ρ.map Prod.snd).Nodup) (h2 : upIn ρ bx = true) (h3 : r.gok ρ = true) (h4 : gokB ρ bx' = true)
    (h5 : match valsO ((st.frz F).rebinds n (r.tags ++ tagsB bx')).val args with
      | some as => PV.leL (gvR ρ) (gvB ρ) as ps
      | none => False) (h6 : leBx (gvR ρ) (gvB ρ) ((st.frz F).rebinds n (r.tags ++ tagsB bx')) bx)
    (hK : K (r.mapT (sgF ρ n)) (((st.frz F).rebinds n (r.tags ++ tagsB bx')).give ρ n bx')) : callF P n f args st K := by
  split at h5
  · rename_i as g1
    exact .inr ⟨ps, bx, r, bx', ρ, F, as, h, h1, h2, h3, h4, g1, h6, .inl h5, hK⟩
  · exact h5.elim
/-- The same: data that are handed in stay the caller's. -/
theorem use_B {f : Nat} {args : List Opd} {st : St} {ps : List PV} {bx : List (Tg × List PV)} {r : PV} {bx' : List (Tg × List PV)} {K : PV → St → Prop} (h : EvG P f ps bx r bx') (ρ : List (Tg × Tg)) (h1 : (ρ.map Prod.snd).Nodup) (h2 : upIn ρ bx = true) (h3 : r.gok ρ = true) (h4 : gokB ρ bx' = true)
    (h5 : match valsO (st.rebinds n (r.tags ++ tagsB bx')).val args with
      | some as => argsB (ρ.map Prod.snd) (gvR ρ) (gvB ρ) as ps
      | none => False) (h6 : leBx (gvR ρ) (gvB ρ) (st.rebinds n (r.tags ++ tagsB bx')) bx) (h8 : r.noLst) (h9 : noLstB bx')
    (hK : K (r.mapT (sgF ρ n)) ((st.rebinds n (r.tags ++ tagsB bx')).give ρ n bx')) : callF P n f args st K := by
  split at h5
  · rename_i as g1
    exact .inr ⟨ps, bx, r, bx', ρ, [], as, h, h1, h2, h3, h4, g1, h6, .inr ⟨h5, h8, h9⟩, hK⟩
  · exact h5.elim

/-- One result. -/
theorem ret1 {m : Nat} {r p : PV} (ρ : List (Tg × Tg)) (hg : getL m tm = some p) (hle : St.le ρ ⟨[(0, p)], bx⟩ ⟨[(0, r)], []⟩) : RetOK [.t m] r [] .ret ⟨tm, bx⟩ := by
  refine ⟨trivial, ?_⟩
  simp only [resP, resL, St.get, hg]
  exact ⟨trivial, ρ, hle⟩
/-- Results of any number. -/
theorem retN {res : List RV} {r p : PV} {c : Prop} (ρ : List (Tg × Tg)) (hg : resP res ⟨tm, bx⟩ = some (c, p)) (hc : c) (hle : St.le ρ ⟨[(0, p)], bx⟩ ⟨[(0, r)], []⟩) : RetOK res r [] .ret ⟨tm, bx⟩ := by
  refine ⟨trivial, ?_⟩
  simp only [hg]
  exact ⟨hc, ρ, hle⟩

/-- Rows of whole numbers. -/
abbrev ints (k : IntKind) (l : List Int) : List D := l.map (D.int k)

theorem getD_ints {k : IntKind} {l : List Int} {i : Nat} (h : i < l.length) : getD' (ints k l) i = .int k (l.getD i 0) := by
  simp [getD', ints, h]
theorem getD_ints' {k : IntKind} {l : List Int} {i : Int} (h0 : 0 ≤ i) (h : i < (l.length : Int)) : getD' (ints k l) i.toNat = .int k (l.getD i.toNat 0) := getD_ints (by omega)
theorem cells_int {k : IntKind} {x : Int} : D.cells (.int k x) = [.int k x] := rfl
theorem getD_one {x : D} : getD' [x] 0 = x := rfl
theorem len_ints {k : IntKind} {l : List Int} : (ints k l).length = l.length := by simp [ints]
theorem sz_ints {k : IntKind} {l : List Int} : ∀ e ∈ ints k l, e.sz = 1 := by
  intro e he; simp only [ints, List.mem_map] at he; obtain ⟨x, _, rfl⟩ := he; rfl
theorem flat_ints {k : IntKind} {l : List Int} : ∀ e ∈ ints k l, e.flatD := by
  intro e he; simp only [ints, List.mem_map] at he; obtain ⟨x, _, rfl⟩ := he; simp [D.flatD]

/-- A loop, with what holds of the members met. -/
theorem loop_inv {ι : Type} {a : AC} {P : Program} {N : Nat} {Q : Kd → St → Prop} (S : ι → St) (I : ι → Prop) (μ : ι → Nat) (x : ι) (h0 : I x) {st : St} (ρ : List (Tg × Tg)) (hx : St.le ρ st (S x))
    (h : ∀ x, I x → vc P N a (S x) fun k st' => match k with | .norm => ∃ y ρ, (I y ∧ μ y < μ x) ∧ St.le ρ st' (S y) | k => Q k st') : EvC P N (.loop a) st Q :=
  loop_of (ι := {x // I x}) (fun x => S x.1) (fun x => μ x.1) ⟨x, h0⟩ ρ hx fun x => by
    have := h x.1 x.2
    refine (?_ : (fun (R : Kd → St → Prop) => vc P N a (S x.1) R) _)
    refine cast (congrArg (fun R => vc P N a (S x.1) R) ?_) this
    funext k st'
    cases k with
    | norm =>
      simp only
      apply propext
      constructor
      · rintro ⟨y, ρ, ⟨h1, h2⟩, h3⟩; exact ⟨⟨y, h1⟩, ρ, h2, h3⟩
      · rintro ⟨⟨y, h1⟩, ρ, h2, h3⟩; exact ⟨y, ρ, ⟨h1, h2⟩, h3⟩
    | _ => rfl

end
end Go.Proofs.Ytaghpancpfpnhaa.Abs
