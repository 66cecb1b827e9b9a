/- Plain facts: loops that compare. Conditions: none. -/
import Derived.Test.YtdgdgfckcnjpfaaGreatPL5
namespace Go.Proofs.YtdgdgfckcnjpfaaGreat.Abs
open Go Go.RowKit Go.IntWalk
set_option linter.unusedVariables false
set_option linter.unusedSimpArgs false
set_option linter.unusedSectionVars false
set_option linter.unnecessarySimpa false
set_option maxRecDepth 100000
set_option linter.unusedSimpArgs false
set_option linter.unusedSectionVars false
set_option maxRecDepth 100000

theorem eqLoop {α : Type} [Inhabited α] [DecidableEq α] (F : Int → Option (Sum Bool Unit)) (a b : List α)
    (hF : ∀ k : Int, F k = if k < (a.length : Int) then if 0 ≤ k ∧ k < (a.length : Int) then if 0 ≤ k ∧ k < (b.length : Int) then if at' a k ≠ at' b k then some (.inl false) else F (IntKind.i64.wrap (k + 1)) else none else none else some (.inr ()))
    (hl : a.length = b.length) (hb : a.length ≤ 4611686018427387904) : ∀ (t u : List α) (k : Nat), a.drop k = t → b.drop k = u → F (k : Int) = some (if t = u then .inr () else .inl false)
  | [], u, k, h1, h2 => by
    have := List.drop_eq_nil_iff.1 h1
    have h3 : u = [] := by rw [← h2]; exact List.drop_eq_nil_of_le (by omega)
    rw [hF, if_neg (drop_end h1), h3]; rfl
  | x :: t, [], k, h1, h2 => by
    have := List.drop_eq_nil_iff.1 h2
    have := (drop_at h1).1
    omega
  | x :: t, y :: u, k, h1, h2 => by
    have g1 := drop_at h1
    have g2 := drop_at h2
    rw [hF, if_pos g1.1, if_pos (by omega), if_pos (by omega), g1.2.1, g2.2.1, i64_s (by omega), eqLoop F a b hF hl hb t u (k + 1) g1.2.2 g2.2.2]
    by_cases hxy : x = y
    · subst hxy; simp
    · simp [hxy]
theorem eqFin {α : Type} [Inhabited α] [DecidableEq α] (F : Int → Option (Sum Bool Unit)) (a b : List α)
    (hF : ∀ k : Int, F k = if k < (a.length : Int) then if 0 ≤ k ∧ k < (a.length : Int) then if 0 ≤ k ∧ k < (b.length : Int) then if at' a k ≠ at' b k then some (.inl false) else F (IntKind.i64.wrap (k + 1)) else none else none else some (.inr ()))
    (hb : a.length ≤ 4611686018427387904) : (if (a.length : Int) ≠ (b.length : Int) then some false else (F 0) >>= fun e => match e with | .inl r => some r | .inr _ => some true) = some (decide (a = b)) := by
  by_cases hl : a.length = b.length
  · have := eqLoop F a b hF hl hb a b 0 rfl rfl
    rw [show ((0 : Nat) : Int) = 0 from rfl] at this
    rw [if_neg (by omega), this]
    by_cases h : a = b
    · simp [h]
    · simp [h]
  · rw [if_pos (by omega), decide_eq_false (fun h => hl (by rw [h]))]
theorem ref2Same_eq (a b : List Int) (hb : a.length ≤ 4611686018427387904) : M_thrumref02_Same a b = some (decide (a = b)) := by
  rw [M_thrumref02_Same]; exact eqFin _ a b (fun k => by rw [M_thrumref02_Same_l0]) hb
theorem ref3Numbers_eq (a b : List Int) (hb : a.length ≤ 4611686018427387904) : M_thrumref03_SameNumbers a b = some (decide (a = b)) := by
  rw [M_thrumref03_SameNumbers]; exact eqFin _ a b (fun k => by rw [M_thrumref03_SameNumbers_l0]) hb
theorem ref5Signs_eq (a b : List Bool) (hb : a.length ≤ 4611686018427387904) : M_thrumref05_SameSigns a b = some (decide (a = b)) := by
  rw [M_thrumref05_SameSigns]; exact eqFin _ a b (fun k => by rw [M_thrumref05_SameSigns_l0]) hb
theorem ref6Equal_eq (a b : List Int) (hb : a.length ≤ 4611686018427387904) : M_thrumref06_Equal a b = some (decide (a = b)) := by
  rw [M_thrumref06_Equal]; exact eqFin _ a b (fun k => by rw [M_thrumref06_Equal_l0]) hb
/-- A vector's lists are no longer than memory. -/
structure Lens (s : T_api_Sent) : Prop where
  l : s.F_L.length ≤ 4611686018427387904
  v : s.F_V.length ≤ 4611686018427387904
  e : s.F_Lev.length ≤ 4611686018427387904
  n : s.F_Neg.length ≤ 4611686018427387904
theorem SameSent_eq {a b : T_api_Sent} (h : Lens a) : M_thrumref07_SameSent a b = some (decide (a = b)) := by
  rw [M_thrumref07_SameSent]
  simp only [ref6Equal_eq _ _ h.l, ref2Same_eq _ _ h.v, ref3Numbers_eq _ _ h.e, ref5Signs_eq _ _ h.n, bindS, andB]
  congr 1
  rw [Bool.eq_iff_iff]
  cases a; cases b
  simp [and_assoc]
end Go.Proofs.YtdgdgfckcnjpfaaGreat.Abs
