/- Plain facts: numbers drawn; vectors pressed as levels, as signs. Conditions: none. -/
import Derived.Test.YtdgdgfckcnjpfaaGreatPV3
namespace Go.Proofs.YtdgdgfckcnjpfaaGreat.Abs
open Go Go.RowKit Go.IntWalk
set_option linter.unusedVariables false
set_option linter.unusedSimpArgs false
set_option linter.unnecessarySimpa false
set_option maxRecDepth 100000

def stirP (a n : Int) : Int := bXor .u64 (IntKind.u64.wrap ((bXor .u64 a (IntKind.u64.wrap n)) * 11400714819323198485)) (sShr .u64 (IntKind.u64.wrap ((bXor .u64 a (IntKind.u64.wrap n)) * 11400714819323198485)) 29)
def stirEnd (a : Int) : Int := bXor .u64 (IntKind.u64.wrap (a * 13787848793156543929)) (sShr .u64 (IntKind.u64.wrap (a * 13787848793156543929)) 32)
/-- The number drawn at a place. -/
def drawP (seed : Int) (l : List Int) : Int := stirEnd (l.foldl stirP seed)
theorem draw_l0 (l : List Int) (hl : l.length ≤ 1000000) : ∀ (t : List Int) (k : Nat) (a : Int), l.drop k = t → M_draw_over_l0 l (k : Int) a = some (t.foldl stirP a)
  | [], k, a, h1 => by rw [M_draw_over_l0, if_neg (drop_end h1)]; rfl
  | x :: t, k, a, h1 => by
    have g1 := drop_at h1
    rw [M_draw_over_l0, if_pos g1.1, if_pos (by omega), g1.2.1, M_thrum_draw_stir_with, bindS, i64_s (by omega)]
    exact draw_l0 l hl t (k + 1) _ g1.2.2
theorem At_eq (seed : Int) (l : List Int) (hl : l.length ≤ 1000000) : M_draw_At seed l = some (drawP seed l) := by
  have := draw_l0 l hl l 0 seed rfl
  rw [show ((0 : Nat) : Int) = 0 from rfl] at this
  rw [M_draw_At, M_draw_over, this]; rfl
theorem Chance_eq {p q seed : Int} {l : List Int} (hl : l.length ≤ 1000000) (h : p ≤ q) (hq : 0 < q) : M_draw_Chance p q seed l = some (decide (Int.tmod (drawP seed l) q < p), 0) := by
  rw [M_draw_Chance, if_neg (by omega), M_draw_Below, if_neg (by omega), At_eq seed l hl, bindS, if_pos (by omega), bindS]
  simp

/-- A level, drawn up or not. -/
def levQ (seed : Int) (n : List Int) (m w : Int) (k : Nat) (x : Int) : Int :=
  if 0 < (levelP x m w).2.1 ∧ Int.tmod (drawP seed (n ++ [(k : Int)])) m < (levelP x m w).2.1 then (levelP x m w).1 + 1 else (levelP x m w).1
def levsG (seed : Int) (n : List Int) (m w : Int) : Nat → List Int → List Int
  | _, [] => []
  | k, x :: t => levQ seed n m w k x :: levsG seed n m w (k + 1) t
theorem levsG_len (seed : Int) (n : List Int) (m w : Int) : ∀ (v : List Int) (k : Nat), (levsG seed n m w k v).length = v.length
  | [], k => rfl
  | x :: t, k => by simp [levsG, levsG_len seed n m w t (k + 1)]
theorem levelP_ok {x m w : Int} (hw : 1 ≤ w ∧ w ≤ 8) (h : (x.natAbs : Int) ≤ m) : (levelP x m w).2.2 = 0 := by
  unfold levelP
  rw [if_pos ⟨hw, by omega, h⟩]
  split <;> rfl
theorem levQ_in {seed : Int} {n : List Int} {m w : Int} {k : Nat} {x : Int} (hw : 1 ≤ w ∧ w ≤ 8) (h : (x.natAbs : Int) ≤ m) : 0 ≤ levQ seed n m w k x ∧ levQ seed n m w k x ≤ (stepsP w : Int) := by
  have hi := levelP_in (levelP_ok hw h)
  unfold levQ
  split
  · rename_i hc; have := hi.2.2.2.1 hc.1; omega
  · omega
theorem levsG_in {seed : Int} {n : List Int} {m w : Int} (hw : 1 ≤ w ∧ w ≤ 8) : ∀ (v : List Int) (k : Nat), (∀ x ∈ v, (x.natAbs : Int) ≤ m) → ∀ y ∈ levsG seed n m w k v, 0 ≤ y ∧ y ≤ (stepsP w : Int)
  | [], k, h, y, hy => by cases hy
  | x :: t, k, h, y, hy => by
    rcases List.mem_cons.1 hy with rfl | hy
    · exact levQ_in hw (h x (by simp))
    · exact levsG_in hw t (k + 1) (fun z hz => h z (by simp [hz])) y hy
theorem clone_int (l : List Int) (hl : l.length ≤ 1000000) : M_slices_Clone_int_int l = some l := by
  rw [M_slices_Clone_int_int, List.nil_append, if_pos (room8 (by omega))]
theorem clone_i64 (l : List Int) (hl : l.length ≤ 17592186044416) : M_slices_Clone_int64_int64 l = some l := by
  rw [M_slices_Clone_int64_int64, List.nil_append, if_pos (room8 (by omega))]

theorem qPress_l0 (v : List Int) (w seed : Int) (n : List Int) (m : Int) (hi : I64s v) (hl : v.length ≤ 4096) (hn : n.length ≤ 100000) (hw : 1 ≤ w ∧ w ≤ 8) (hm : J64 m) (hmx : ∀ x ∈ v, (x.natAbs : Int) ≤ m) :
    ∀ (t : List Int) (k : Nat) (p1 : List Int) (p2 : List Bool), v.drop k = t → p1.length = k → p2.length = k →
      M_quant_Press_l0 v w seed n (m, 0) (k : Int) (p1 ++ List.replicate t.length 0) (p2 ++ List.replicate t.length false) = some (.inr (p1 ++ levsG seed n m w k t, p2 ++ t.map fun x => decide (x < 0)))
  | [], k, p1, p2, h1, h2, h3 => by rw [M_quant_Press_l0, if_neg (drop_end h1)]; simp [levsG]
  | x :: t, k, p1, p2, h1, h2, h3 => by
    have g1 := drop_at h1
    have hx : x ∈ v := by
      have : x ∈ v.drop k := by rw [h1]; simp
      exact List.mem_of_mem_drop this
    have hle := hmx x hx
    have hok := levelP_ok (x := x) (m := m) hw hle
    have hin := levelP_in hok
    have hst := stepsP_in hw
    have hm0 : 0 ≤ m := by omega
    rw [M_quant_Press_l0, if_pos g1.1, if_pos (by omega), g1.2.1]
    simp only
    rw [Level_eq (hi x hx) hm, bindS, if_neg (by simp [hok])]
    have hj : ((if (levelP x m w).2.1 > 0 then (M_slices_Clone_int_int n) >>= fun r10 => if room 8 (r10 ++ [(k : Int)]).length then (M_draw_Chance (levelP x m w).2.1 (IntKind.u64.wrap m) seed (r10 ++ [(k : Int)])) >>= fun r11 => if r11.2 ≠ 0 then some (.inl (0, 0, 0, 0, [], [], r11.2)) else if r11.1 = true then some (.inr (IntKind.u64.wrap ((levelP x m w).1 + 1))) else some (.inr (levelP x m w).1) else none else some (.inr (levelP x m w).1)) : Option (Sum (Int × Int × Int × Int × (List Int) × (List Bool) × Int) Int)) = some (.inr (levQ seed n m w k x)) := by
      unfold levQ
      by_cases hp : 0 < (levelP x m w).2.1
      · have hlt : (levelP x m w).2.1 < m := by rcases hin.2.2.2.2 with h | h <;> omega
        have := hin.2.2.2.1 hp
        rw [if_pos hp, clone_int n (by omega), bindS, if_pos (room8 (by simp; omega)), u64_in m (by unfold J64 at hm; omega), Chance_eq (by simp; omega) (by omega) (by omega), bindS]
        simp only
        rw [if_neg (by simp), u64_in _ (by omega)]
        by_cases hc : Int.tmod (drawP seed (n ++ [(k : Int)])) m < (levelP x m w).2.1
        · rw [if_pos (by simp [hc]), if_pos ⟨hp, hc⟩]
        · rw [if_neg (by simp [hc]), if_neg (fun h => hc h.2)]
      · rw [if_neg hp, if_neg (fun h => hp h.1)]
    rw [hj, bindS]
    simp only
    rw [if_pos (by simp; omega), if_pos (by simp; omega), List.length_cons, List.replicate_succ, List.replicate_succ, set_at h2, bindS, set_at h3, bindS, i64_s (by omega)]
    have ih := qPress_l0 v w seed n m hi hl hn hw hm hmx t (k + 1) (p1 ++ [levQ seed n m w k x]) (p2 ++ [decide (x < 0)]) g1.2.2 (by simp [h2]) (by simp [h3])
    simp only [List.append_assoc, List.singleton_append] at ih
    rw [ih]
    simp [levsG]
def qpressP (v : List Int) (w seed : Int) (n : List Int) : Int × Int × Int × Int × (List Int) × (List Bool) × Int :=
  if ¬ (1 ≤ w ∧ w ≤ 8) ∨ v.length = 0 then (0, 0, 0, 0, [], [], 1) else if (mostV v).2 ≠ 0 then (0, 0, 0, 0, [], [], (mostV v).2) else (2, (v.length : Int), mostP v, w, levsG seed n (mostP v) w 0 v, v.map fun x => decide (x < 0), 0)
theorem mostV_ok {v : List Int} (h : (mostV v).2 = 0) : v.length ≤ 4096 ∧ (mostV v).1 = mostP v ∧ ∀ n ∈ v, J64 (n.natAbs : Int) := by
  unfold mostV at *
  split at h
  · simp at h
  · split at h
    · rename_i h1 h2
      rw [if_neg h1, if_pos h2]; exact ⟨by omega, rfl, h2⟩
    · simp at h
theorem qPress_eq {v : List Int} {w seed : Int} {n : List Int} (hi : I64s v) (hn : n.length ≤ 100000) : M_quant_Press v w seed n = some (qpressP v w seed n) := by
  rw [M_quant_Press, Steps_eq, bindS, orB, qpressP]
  by_cases hw : 1 ≤ w ∧ w ≤ 8
  · by_cases h0 : v.length = 0
    · rw [if_pos hw, if_pos (by simp [h0]), if_pos (.inr h0)]
    have hnn : ¬ (¬ (1 ≤ w ∧ w ≤ 8) ∨ v.length = 0) := by omega
    have hc : (decide (((stepsP w : Int), (0 : Int)).2 ≠ 0) || ((v.length : Int) == 0)) = false := by
      have hv : v ≠ [] := by rintro rfl; exact h0 rfl
      simp [hv]
    rw [if_neg hnn, if_pos hw, hc, if_neg Bool.false_ne_true, vMost_eq hi, bindS]
    by_cases he : (mostV v).2 ≠ 0
    · rw [if_pos he, if_pos he]
    rw [if_neg he, if_neg he]
    obtain ⟨a1, a2, a3⟩ := mostV_ok (v := v) (by simpa using he)
    have hmv : mostV v = (mostP v, 0) := by
      have : (mostV v).2 = 0 := by simpa using he
      rw [← a2, ← this]
    have hL := qPress_l0 v w seed n (mostP v) hi a1 hn hw (mostP_J a3) (fun x hx => mostP_le hx) v 0 [] [] rfl rfl rfl
    rw [show ((0 : Nat) : Int) = 0 from rfl] at hL
    simp only [List.nil_append] at hL
    rw [if_pos (by omega), if_pos (by omega), bindS, bindS, bindS, hmv, Int.toNat_natCast, hL, bindS]
  · rw [if_neg hw, if_pos (by simp), if_pos (.inl hw)]

def meanV (v : List Int) : Int × Int := if v.length = 0 then (0, 1) else (Int.tdiv (sizeV v).1 (v.length : Int), (sizeV v).2)
theorem sizeV_in (v : List Int) : 0 ≤ (sizeV v).1 ∧ (sizeV v).1 ≤ 9223372036854775807 := by
  unfold sizeV
  repeat' split
  · simp
  · rename_i h; have := sumA_nonneg v; unfold J64 at h; simp only; omega
  · simp
theorem meanV_in (v : List Int) : 0 ≤ (meanV v).1 ∧ (meanV v).1 ≤ 9223372036854775807 := by
  unfold meanV
  split
  · simp
  · have h := sizeV_in v
    obtain ⟨k, hk⟩ : ∃ k : Nat, (sizeV v).1 = (k : Int) := ⟨(sizeV v).1.toNat, by omega⟩
    simp only [hk]
    rw [show Int.tdiv (k : Int) (v.length : Int) = ((k / v.length : Nat) : Int) from rfl]
    have := Nat.div_le_self k v.length
    generalize k / v.length = q at this ⊢
    omega
theorem Mean_eq {v : List Int} (hi : I64s v) : M_sign_Mean v = some (meanV v) := by
  rw [M_sign_Mean, meanV]
  by_cases h0 : v.length = 0
  · rw [if_pos (by omega), if_pos h0]
  rw [if_neg (by omega), if_neg h0, vSize_eq hi, bindS, if_pos (by omega)]
  have := meanV_in v
  rw [meanV, if_neg h0] at this
  rw [i64_in _ (by simp only at this; omega)]
theorem signs_l0 (v : List Int) (hl : v.length ≤ 1000000) : ∀ (t : List Int) (k : Nat) (acc : List Bool), v.drop k = t → acc.length ≤ k → M_sign_each_int64_bool_sign_Press_1_l0 v (k : Int) acc = some (acc ++ t.map fun x => decide (x < 0))
  | [], k, acc, h1, h2 => by rw [M_sign_each_int64_bool_sign_Press_1_l0, if_neg (drop_end h1)]; simp
  | x :: t, k, acc, h1, h2 => by
    have g1 := drop_at h1
    rw [M_sign_each_int64_bool_sign_Press_1_l0, if_pos g1.1, if_pos (by omega), g1.2.1, M_sign_Press_1, bindS, if_pos (room1 (by simp; omega)), i64_s (by omega), signs_l0 v hl t (k + 1) _ g1.2.2 (by simp; omega)]
    simp
def spressP (v : List Int) : Int × Int × Int × Int × (List Bool) × Int := if (meanV v).2 ≠ 0 then (0, 0, 0, 0, [], (meanV v).2) else (3, (v.length : Int), (meanV v).1, 0, v.map fun x => decide (x < 0), 0)
theorem sPress_eq {v : List Int} (hi : I64s v) (hl : v.length ≤ 1000000) : M_sign_Press v = some (spressP v) := by
  rw [M_sign_Press, Mean_eq hi, bindS, spressP]
  by_cases h : (meanV v).2 ≠ 0
  · rw [if_pos h, if_pos h]
  have := signs_l0 v hl v 0 [] rfl (by simp)
  rw [show ((0 : Nat) : Int) = 0 from rfl] at this
  rw [if_neg h, if_neg h, M_sign_each_int64_bool_sign_Press_1, if_pos (by omega), bindS, show List.replicate (Int.toNat 0) false = [] from rfl, this, bindS, bindS]
  rfl
end Go.Proofs.YtdgdgfckcnjpfaaGreat.Abs
