/- Plain facts: what may be sent, by its scheme. Conditions: none. -/
import Derived.Test.YtdgdgfckcnjpfaaGreatPG1
namespace Go.Proofs.YtdgdgfckcnjpfaaGreat.Abs
open Go Go.RowKit Go.IntWalk
set_option linter.unusedVariables false
set_option linter.unusedSimpArgs false
set_option linter.unusedSectionVars false
set_option linter.unnecessarySimpa false
set_option maxRecDepth 100000
theorem wid_le {n w : Nat} : wid n ≤ w ↔ n < 2 ^ w := by
  unfold wid
  split
  · rename_i h; subst h; simp [Nat.two_pow_pos]
  · rename_i h
    rw [show n.log2 + 1 ≤ w ↔ n.log2 < w by omega]
    exact Nat.log2_lt h

/-- What may be, by its scheme. -/
inductive MayS (s : T_api_Sent) : Prop where
  | dense (d0 : 0 < s.F_Dim) (d1 : s.F_Dim ≤ 4096) (h : s.F_Scheme = 0) (v : (s.F_V.length : Int) = s.F_Dim) (z : s.F_L = [] ∧ s.F_Scale = 0 ∧ s.F_Wide = 0 ∧ s.F_Lev = [] ∧ s.F_Neg = [])
  | top (d0 : 0 < s.F_Dim) (d1 : s.F_Dim ≤ 4096) (h : s.F_Scheme = 1) (c : checkP s.F_Dim s.F_L = 0) (v : s.F_L.length = s.F_V.length) (z : s.F_Scale = 0 ∧ s.F_Wide = 0 ∧ s.F_Lev = [] ∧ s.F_Neg = [])
  | level (d0 : 0 < s.F_Dim) (d1 : s.F_Dim ≤ 4096) (h : s.F_Scheme = 2) (w0 : 0 < s.F_Wide) (w1 : s.F_Wide ≤ 8) (l : (s.F_Lev.length : Int) = s.F_Dim) (x : ∀ n ∈ s.F_Lev, n.toNat < 2 ^ s.F_Wide.toNat) (c : 0 ≤ s.F_Scale) (n : (s.F_Neg.length : Int) = s.F_Dim) (z : s.F_L = [] ∧ s.F_V = [])
  | sign (d0 : 0 < s.F_Dim) (d1 : s.F_Dim ≤ 4096) (h : s.F_Scheme = 3) (c : 0 ≤ s.F_Scale) (n : (s.F_Neg.length : Int) = s.F_Dim) (z : s.F_L = [] ∧ s.F_V = [] ∧ s.F_Wide = 0 ∧ s.F_Lev = [])

theorem may_iff {s : T_api_Sent} : mayP s = true ↔ MayS s := by
  constructor
  · intro h
    by_cases c0 : s.F_Scheme = 0
    · simp [mayP, bareP, c0, zeroS, dimOk] at h
      exact .dense h.1.1.1 h.1.1.2 c0 h.1.2 h.2
    by_cases c1 : s.F_Scheme = 1
    · simp [mayP, bareP, c0, c1, zeroS, dimOk] at h
      exact .top h.1.1.1.1 h.1.1.1.2 c1 h.1.1.2 (by omega) h.2
    by_cases c2 : s.F_Scheme = 2
    · simp [mayP, bareP, c0, c1, c2, zeroS, dimOk] at h
      obtain ⟨⟨⟨⟨⟨⟨⟨⟨a, b⟩, c⟩, d⟩, e⟩, f⟩, g⟩, i⟩, z⟩ := h
      exact .level a b c2 c d e (fun n hn => wid_le.1 (by have := f n hn; omega)) g i z
    by_cases c3 : s.F_Scheme = 3
    · simp [mayP, bareP, c0, c1, c2, c3, zeroS, dimOk] at h
      obtain ⟨⟨⟨⟨a, b⟩, c⟩, d⟩, z⟩ := h
      exact .sign a b c3 c d z
    · simp [mayP, bareP, c0, c1, c2, c3] at h
  · rintro (⟨d0, d1, h, v, z⟩ | ⟨d0, d1, h, c, v, z⟩ | ⟨d0, d1, h, w0, w1, l, x, c, n, z⟩ | ⟨d0, d1, h, c, n, z⟩)
    · simp [mayP, bareP, h, zeroS, dimOk]; exact ⟨⟨⟨d0, d1⟩, v⟩, z⟩
    · simp [mayP, bareP, h, zeroS, dimOk]; exact ⟨⟨⟨⟨d0, d1⟩, c⟩, by omega⟩, z⟩
    · simp [mayP, bareP, h, zeroS, dimOk]; exact ⟨⟨⟨⟨⟨⟨⟨⟨d0, d1⟩, w0⟩, w1⟩, l⟩, fun n hn => by have := wid_le.2 (x n hn); omega⟩, c⟩, n⟩, z⟩
    · simp [mayP, bareP, h, zeroS, dimOk]; exact ⟨⟨⟨⟨d0, d1⟩, c⟩, n⟩, z⟩
end Go.Proofs.YtdgdgfckcnjpfaaGreat.Abs
