/- Appends, as the machine runs them. Conditions: none. -/
import Derived.Test.YtaghpancpfpnhaaAbsN
namespace Go.Proofs.Ytaghpancpfpnhaa.Abs
open Go Go.RowKit
set_option linter.unusedVariables false
set_option linter.unusedSimpArgs false

section
variable {P : Program} {w : World}

theorem zeroD_sound {t : TypeId} {x : D} (h : zeroD P t = some x) : ∃ i z, P.info? t = some i ∧ i.zero = some z ∧ z.cells.size = i.size ∧ i.size ≠ 0 ∧ x.sz = i.size ∧ OneC z.cells.toList ∧
    (∀ pr w, ∃ v, DR pr w x v ∧ v.cells.toList = z.cells.toList) := by
  unfold zeroD at h
  split at h
  · rename_i i u zs h1 h2 h3
    obtain ⟨i', z, g1, g2, g3, g4⟩ := zeroOf_sound h3
    rw [h1] at g1; cases g1
    split at h
    · rename_i hl
      have hzl : z.cells.toList.length = zs.length := (g4 (fun _ => False) default).length
      have hzs : z.cells.size = i.size := by simpa [hl.1] using hzl
      split at h
      · simp only [Option.some.injEq] at h; subst h
        refine ⟨i, z, h1, g2, hzs, hl.2, by simpa [D.sz] using hl.1, g3, fun pr w => ⟨.agg z.cells, ?_, by simp [Value.cells]⟩⟩
        simp only [DR]; exact ⟨_, rfl, g3, g4 pr w⟩
      · split at h
        · rename_i y
          simp only [Option.some.injEq] at h; subst h
          have hx : y.sz = 1 := by
            have := g4 (fun _ => False) default
            simp only [DRs] at this
            obtain ⟨u', us, e1, e2, rfl⟩ := this
            rw [← e2.size]
            have h1c := g3 u' (by rw [e1]; simp)
            cases u' <;> simp [Value.oneCell'] at h1c <;> simp [Value.cells]
          refine ⟨i, z, h1, g2, hzs, hl.2, by rw [hx, ← hl.1]; rfl, g3, fun pr w => ?_⟩
          have := g4 pr w
          simp only [DRs] at this
          obtain ⟨u', us, e1, e2, rfl⟩ := this
          refine ⟨u', e2, ?_⟩
          rw [e1]
          have h1c := g3 u' (by rw [e1]; simp)
          cases u' <;> simp [Value.oneCell'] at h1c <;> simp [Value.cells]
        · cases h
    · cases h
  · cases h

theorem firstCells_run {size n b o len cap : Nat} {cs : List Value} (h : CellsAt w b o cs) (hl : cs.length = n * size) :
    (Builtin.firstCells size n (.slice (some ⟨b, o, none⟩) len cap)).run P w = .ok cs.toArray w := by
  simp only [Builtin.firstCells, ← hl, run_loadCells_at h]
theorem firstCells_nil {size : Nat} {a : Option Addr} {len cap : Nat} : (Builtin.firstCells size 0 (.slice a len cap)).run P w = .ok #[] w := by
  cases a <;> simp [Builtin.firstCells, loadCells, loadCellsFrom]

/-- The other operand's cells. -/
def Src (P : Program) (w : World) (size m : Nat) (y : Value) (cs : List Value) : Prop :=
  ∃ a c, y = .slice a m c ∧ cs.length = m * size ∧ OneC cs ∧ ∀ w', (∀ b o, a = some ⟨b, o, none⟩ → m ≠ 0 → w'.heap[b]? = w.heap[b]?) → (Builtin.firstCells size m y).run P w' = .ok cs.toArray w'

theorem Src.of {size m b o c : Nat} {cs : List Value} (h : CellsAt w b o cs) (hl : cs.length = m * size) (h1 : OneC cs) : Src P w size m (.slice (some ⟨b, o, none⟩) m c) cs := by
  refine ⟨_, _, rfl, hl, h1, fun w' hw => ?_⟩
  by_cases hm : m = 0
  · subst hm
    rw [firstCells_nil]
    have : cs = [] := List.eq_nil_of_length_eq_zero (by simpa using hl)
    rw [this]
  · exact firstCells_run (h.mono (hw b o rfl hm)) hl

theorem Src.nil {size : Nat} (a : Option Addr) (c : Nat) : Src P w size 0 (.slice a 0 c) [] :=
  ⟨a, c, rfl, by simp, by simp [OneC], fun w' _ => by rw [firstCells_nil]⟩

theorem append_room {t u ty e e' : TypeId} {i : TypeInfo} (ht : P.underlying t = some (.slice e)) (hu : P.underlying u = some (.slice e')) (hi : P.info? e = some i) {b o len cap m : Nat} {y : Value} {cs : List Value}
    {c : Array Value} {el : TypeId} {fr : Nat × Nat} (hb : w.heap[b]? = some (.cells c el fr)) (hf : Unfz c fr) (hs : Src P w i.size m y cs) (hroom : len + m ≤ cap) (hfit : o + cap * i.size ≤ c.size) :
    (Builtin.append_ #[t, u] ty #[.slice (some ⟨b, o, none⟩) len cap, y]).run P w = .ok (.slice (some ⟨b, o, none⟩) (len + m) cap) (setBlk w b (.cells (laid c (o + len * i.size) cs) el fr)) := by
  obtain ⟨a, cc, rfl, hl, h1, hrun⟩ := hs
  have h2 := hrun w (fun _ _ _ _ => rfl)
  have h3 := run_storeCells' (P := P) b el fr cs 0 (o + len * i.size) c w hb hf (by
    have := Nat.mul_le_mul_right i.size hroom
    rw [Nat.add_mul] at this; omega) h1
  simp only [Nat.add_zero] at h3
  simp [Builtin.append_, run_underlying ht, run_underlying hu, run_sizeOf' hi, Builtin.lenOf, hroom, h2, Addr.add_mk, h3]

theorem append_noroom {t u ty e e' : TypeId} {i : TypeInfo} {z : Value} (ht : P.underlying t = some (.slice e)) (hu : P.underlying u = some (.slice e')) (hi : P.info? e = some i) (hz : i.zero = some z)
    (hzs : z.cells.size = i.size) {a0 : Option Addr} {len cap m : Nat} {y : Value} {cs old : List Value} (hold : (Builtin.firstCells i.size len (.slice a0 len cap)).run P w.drew = .ok old.toArray w.drew) (hol : old.length = len * i.size)
    (hs : Src P w i.size m y cs) (hroom : ¬ len + m ≤ cap) (h47 : len + m ≤ 140737488355328) (hby : (len + m) * i.bytes ≤ 140737488355328) :
    ∃ newCap rest, len + m ≤ newCap ∧ (old ++ cs ++ rest).length = newCap * i.size ∧
      (Builtin.append_ #[t, u] ty #[.slice a0 len cap, y]).run P w = .ok (.slice (some ⟨w.heap.size, 0, none⟩) (len + m) newCap) (w.drew.alloc (.cells (old ++ cs ++ rest).toArray e)) := by
  obtain ⟨a, cc, rfl, hl, h1, hrun⟩ := hs
  have h2 := hrun w.drew (fun _ _ _ _ => rfl)
  have hfits := growslice_fits (need := len + m) (old := cap) (bytes := i.bytes) (by omega) hby
  let newCap := Question.cut (.appendCap (len + m) cap e) (w.tape w.drawn (.appendCap (len + m) cap e))
  have hnc : len + m ≤ newCap := by simp only [newCap, Question.cut]; omega
  refine ⟨newCap, (Builtin.zeroCells z.cells (newCap - (len + m))).toList, hnc, ?_, ?_⟩
  · simp only [List.length_append, hol, hl, Array.length_toList, size_zeroCells, hzs]
    rw [← Nat.add_mul, ← Nat.add_mul]; congr 1; omega
  · have hmax : ¬ (IntKind.i64.max < ((len + m : Nat) : Int) ∧ (False ∨ i.bytes = 0)) := by
      intro h; have := h.1; simp only [IntKind.max_i64] at this; omega
    have h48 : ¬ (281474976710656 < Builtin.nextslicecap (len + m) cap * i.bytes) := by omega
    have hch : (choose (.appendCap (len + m) cap e)).run P w = .ok newCap w.drew := by
      simp [run_choose, Question.forced, newCap]
    simp only [IntKind.max_i64] at hmax
    simp [Builtin.append_, run_underlying ht, run_underlying hu, run_sizeOf' hi, Builtin.lenOf, hroom, run_typeInfo' hi, h48, run_zeroValue' hi hz, newRow]
    rw [if_neg (by intro h; omega)]
    simp [Question.forced, hold, h2]
    refine ⟨rfl, ?_⟩
    congr 2
    apply Array.toList_inj.1
    simp [newCap]

end
end Go.Proofs.Ytaghpancpfpnhaa.Abs
