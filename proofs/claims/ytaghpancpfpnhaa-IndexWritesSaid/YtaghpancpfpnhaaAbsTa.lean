/- Regions whose order is drawn: what reads may run late. Conditions: none. -/
import Derived.Test.YtaghpancpfpnhaaAbsT
import Derived.Orders
namespace Go.Proofs.Ytaghpancpfpnhaa.Abs
open Go Go.RowKit
set_option linter.unusedVariables false
set_option linter.unusedSimpArgs false

/-- An operation that only reads. -/
def AOp.isR : AOp → Bool
  | .alloc .. => false
  | .box .. => false
  | .bslice .. => false
  | .mkS .. => false
  | .store .. => false
  | .app .. => false
  | .copy .. => false
  | .call .. => false
  | .callv .. => false
  | .invk .. => false
  | _ => true

/-- One operation of a drawn region: is it waited for, and which reads may still be to come. -/
structure DIt where
  o : AOper
  sync : Bool
  stay : List AOper
  deriving Inhabited

/-- What must have run. -/
def preds (ops : Array Oper) (i : Nat) : List Nat := match ops[i]? with
  | some o => (o.after.toList.filter (Region.binds .any)).map (·.on)
  | none => []

def ancs (ops : Array Oper) : Nat → List (List Nat)
  | 0 => []
  | k + 1 =>
    let as := ancs ops k
    let ps := preds ops k
    as ++ [(ps ++ ps.flatMap fun p => as.getD p []).eraseDups]

def noAnti (ops : Array Oper) (x y : Oper) : Bool := match y.dst with
  | some d => !(x.looksAt ops).contains d && x.dst != some d
  | none => true

def selfB (ops : Array Oper) (x : Oper) : Bool := match x.dst with
  | some d => !(x.looksAt ops).contains d
  | none => true

def pairB (ops : Array Oper) (tb : List (List Nat)) (i j : Nat) (sj : Bool) : Bool := match ops[i]?, ops[j]? with
  | some x, some y => if (tb.getD j []).contains i then sj || noAnti ops x y else x.apart ops y
  | _, _ => false

def okOrd (ops : Array Oper) (tb : List (List Nat)) : List (Nat × Bool) → Bool
  | [] => true
  | (i, s) :: rest => (rest.all fun q => !(preds ops i).contains q.1 && q.1 != i && (if s then (tb.getD q.1 []).contains i else pairB ops tb i q.1 q.2)) &&
      (s || ((ops[i]?).map (selfB ops)).getD false) && okOrd ops tb rest

def closedB (ops : Array Oper) (tb : List (List Nat)) : Bool := (List.range ops.size).all fun i =>
  (tb.getD i []).all fun j => (preds ops i).contains j || (preds ops i).any fun p => (tb.getD p []).contains j

/-- All that must have run stands ahead. -/
def topoB (ops : Array Oper) : List Nat → List (Nat × Bool) → Bool
  | _, [] => true
  | pl, (i, _) :: r => (preds ops i).all pl.contains && topoB ops (i :: pl) r

def drawOK (ops : Array Oper) (tb : List (List Nat)) (ord : List (Nat × Bool)) : Bool :=
  ord.length == ops.size && (List.range ops.size).all (fun i => (ord.map Prod.fst).contains i) && ord.all (fun q => decide (q.1 < ops.size)) && closedB ops tb && okOrd ops tb ord && Region.noSelect ops && topoB ops [] ord && decide (tb.length ≤ ops.size)

/-- Reads first, as early as they can. -/
def orderGo (ops : Array Oper) (sync : Nat → Bool) : Nat → List Nat → List Nat → List (Nat × Bool)
  | 0, _, _ => []
  | f + 1, rem, done =>
    match rem.find? fun i => !sync i && (preds ops i).all done.contains with
    | some i => (i, false) :: orderGo ops sync f (rem.erase i) (i :: done)
    | none => match rem.find? fun i => (preds ops i).all done.contains with
      | some i => (i, true) :: orderGo ops sync f (rem.erase i) (i :: done)
      | none => []

def syncOf (ops : Array Oper) (tb : List (List Nat)) (al : List AOper) (i : Nat) : Bool :=
  match al[i]?, ops[i]? with
  | some a, some y => !a.op.isR || (List.range ops.size).any fun j => j != i && match ops[j]? with
    | some x => !noAnti ops x y && !(tb.getD j []).contains i
    | none => false
  | _, _ => true

def itsOf (tb : List (List Nat)) (al : List AOper) : List Nat → List (Nat × Bool) → List DIt
  | _, [] => []
  | pre, (i, s) :: r => ⟨al.getD i default, s, if s then (pre.filter fun j => !(tb.getD i []).contains j).map fun j => al.getD j default else []⟩ :: itsOf tb al (if s then pre else pre ++ [i]) r

/-- A drawn region, in an order that stands for all. -/
def drawIts (P : Program) (ops : Array Oper) (al : List AOper) : Option (List DIt) :=
  let tb := ancs ops ops.size
  let ord := orderGo ops (syncOf ops tb al) ops.size (List.range ops.size) []
  if P.follows .mixedOrders && drawOK ops tb ord then some (itsOf tb al [] ord) else none

/-- A read's value. -/
def readK (o : AOper) (st : St) (K : PV → Prop) : Prop := match rop o.op st.val st.box with
  | some (c, v) => c ∧ K v
  | none => False

/-- A slot is told to hold this alone. -/
def onlyL (d : Nat) (p : PV) : List (Nat × PV) → Prop
  | [] => True
  | (e, v) :: r => (d = e → v = p) ∧ onlyL d p r
theorem onlyL_mem {d : Nat} {p q : PV} : ∀ {l : List (Nat × PV)}, onlyL d p l → (d, q) ∈ l → q = p
  | [], _, h => by simp at h
  | (e, v) :: r, h, hm => by
    simp only [onlyL] at h
    rcases List.mem_cons.1 hm with hm | hm
    · cases hm; exact h.1 rfl
    · exact onlyL_mem h.2 hm
/-- A read that may be to come still gives what its slot is told to hold. -/
def HoldsR (o : AOper) (st : St) : Prop := readK o st fun v => match o.dst with
  | some d => onlyL d v st.tm
  | none => True
def Holds (o : AOper) (st : St) : Prop := match o.guard with
  | none => HoldsR o st
  | some (t, b) => match st.get t with
    | some (.d (.bool g)) => (g = b → HoldsR o st) ∧ (g = !b → match o.dst with
      | some d => onlyL d (.tup []) st.tm
      | none => True)
    | some (.tup []) => (match o.dst with
      | some d => onlyL d (.tup []) st.tm
      | none => True)
    | _ => False
def HoldsAll : List AOper → St → Prop
  | [], _ => True
  | o :: r, st => Holds o st ∧ HoldsAll r st

def itK (P : Program) (it : DIt) (st : St) (K : St → Prop) : Prop :=
  match it.sync with
  | true => stepK P it.o.n it.o.op st fun v st' => K (st'.putO it.o.dst v)
  | false => readK it.o st fun v => K (st.putO it.o.dst v)

/-- A drawn region, in the order that stands for all. -/
def vcDraw (P : Program) : List DIt → St → (St → Prop) → Prop
  | [], st, K => K st
  | it :: rest, st, K => match it.o.guard with
    | none => itK P it st fun st2 => HoldsAll it.stay st2 ∧ vcDraw P rest st2 K
    | some (t, b) => match st.get t with
      | some (.d (.bool g)) => (g = b → itK P it (st.lit t b) fun st2 => HoldsAll it.stay st2 ∧ vcDraw P rest st2 K) ∧ (g = !b → HoldsAll it.stay ((st.lit t (!b)).putO it.o.dst (.tup [])) ∧ vcDraw P rest ((st.lit t (!b)).putO it.o.dst (.tup [])) K)
      | some (.tup []) => HoldsAll it.stay (st.putO it.o.dst (.tup [])) ∧ vcDraw P rest (st.putO it.o.dst (.tup [])) K
      | _ => False

section
variable {P : Program} {N : Nat}

theorem trOpers_get {ops : Array Oper} : ∀ {l : List Oper} {n : Nat} {al : List AOper}, trOpers P N ops n l = some al → ∀ i o, l[i]? = some o → ∃ ao, al[i]? = some ao ∧ trOper P N ops (n + i) o = some ao
  | [], n, al, h, i, o, hi => by simp at hi
  | x :: l, n, al, h, i, o, hi => by
    simp only [trOpers] at h
    split at h
    · rename_i a as h1 h2
      simp only [Option.some.injEq] at h; subst h
      cases i with
      | zero => simp at hi; subst hi; exact ⟨a, by simp, h1⟩
      | succ i =>
        simp only [List.getElem?_cons_succ] at hi
        obtain ⟨ao, g1, g2⟩ := trOpers_get h2 i o hi
        exact ⟨ao, by simpa using g1, by rw [show n + (i + 1) = n + 1 + i from by omega]; exact g2⟩
    · cases h

theorem wanted_none {ops : Array Oper} {o : Oper} (h : trGuard ops o.guard = some none) (tmps : Array Value) : Region.wanted o (yielded ops tmps) = true := by
  unfold trGuard at h
  split at h
  · rename_i hog; simp [Region.wanted, hog]
  · split at h <;> cases h

/-- What a read that may be to come promises: its slot, as filled, holds what it gives. -/
def Prom (P : Program) (ops : Array Oper) (o : Oper) (as : Act) (w : World) : Prop :=
  (Region.wanted o (yielded ops as.tmps) = true → ∃ u, (execOp as.eval o).run P w = .ok (.value u) w ∧ ∀ d, o.dst = some d → as.tmps[d]? = some u) ∧
  (Region.wanted o (yielded ops as.tmps) = false → ∀ d, o.dst = some d → as.tmps[d]? = some undef)

theorem Prom.put {ops : Array Oper} {o : Oper} {as : Act} {w : World} (h : Prom P ops o as w) (hs : ∀ cs b, o.op ≠ .select cs b) {dst : Option Nat} (u : Value) (h1 : ∀ d, dst = some d → d ∉ o.looksAt ops) (h2 : ∀ d, dst = some d → o.dst ≠ some d) : Prom P ops o (as.put dst u) w := by
  have he := execOp_put (ops := ops) o hs as dst u h1
  have hw := wanted_put (ops := ops) o as dst u h1
  have hg : ∀ d, o.dst = some d → (as.put dst u).tmps[d]? = as.tmps[d]? := by
    intro d hd
    cases dst with
    | none => rfl
    | some e =>
      have : e ≠ d := fun h => h2 e rfl (by rw [h]; exact hd)
      simp [Act.put, Array.getElem?_setIfInBounds_ne this]
  refine ⟨fun h' => ?_, fun h' d hd => ?_⟩
  · rw [hw] at h'
    obtain ⟨v, g1, g2⟩ := h.1 h'
    exact ⟨v, by rw [he]; exact g1, fun d hd => by rw [hg d hd]; exact g2 d hd⟩
  · rw [hw] at h'
    rw [hg d hd]; exact h.2 h' d hd

/-- A state told of an act tells of it where a slot is filled with what it is told to hold. -/
theorem StR.fill {E : Env} {w : World} {st : St} {tmps : Array Value} (h : StR E w st tmps) {d : Nat} {u : Value} (hd : d < tmps.size) (hp : ∀ p, (d, p) ∈ st.tm → VR E w p u) : StR E w st (tmps.setIfInBounds d u) := by
  refine ⟨fun e p hm => ?_, h.bx⟩
  by_cases he : d = e
  · subst he
    exact ⟨u, by simp [Array.getElem?_setIfInBounds, hd], hp p hm⟩
  · obtain ⟨x, g1, g2⟩ := h.tm e p hm
    exact ⟨x, by rw [Array.getElem?_setIfInBounds_ne he]; exact g1, g2⟩

end
end Go.Proofs.Ytaghpancpfpnhaa.Abs
