/- Bits turned; three of chapter 4's statements. Conditions: none but that numbers are of their kinds. -/
import Derived.Test.YtaghpancpfpnhaaPC2
namespace Go.Proofs.Ytaghpancpfpnhaa.Abs
open Go Go.RowKit Go.IntWalk Crc
set_option linter.unusedVariables false
set_option maxRecDepth 100000

/-- A bit is turned. -/
def turnB (b : List (BitVec 8)) (k : Nat) : List (BitVec 8) := b.set (k / 8) (b.getD (k / 8) 0#8 ^^^ (1#8 <<< (k % 8)))
theorem turnB_len (b : List (BitVec 8)) (k : Nat) : (turnB b k).length = b.length := by simp [turnB]

theorem shr3 (x : Int) : sShr .i64 x 3 = x / 8 := by
  unfold sShr
  show x.fdiv (2 ^ (min (3 : Int).toNat 64)) = _
  rw [show (2 : Int) ^ (min (3 : Int).toNat 64) = 8 from rfl, Int.fdiv_eq_ediv_of_nonneg _ (by omega)]
theorem and7 {x : Int} (h0 : 0 ≤ x) (h1 : x ≤ 9223372036854775807) : bAnd .i64 x 7 = x % 8 := by
  unfold bAnd
  show IntKind.i64.wrap ((BitVec.ofInt 64 x &&& BitVec.ofInt 64 7).toNat : Int) = _
  rw [BitVec.toNat_and, show (BitVec.ofInt 64 7).toNat = 2 ^ 3 - 1 from rfl, Nat.and_two_pow_sub_one_eq_mod, BitVec.toNat_ofInt, i64_in _ (by omega)]
  omega
theorem shl8 {k : Nat} (hk : k < 8) : sShl .u8 1 (k : Int) = Yn (1#8 <<< k) := by
  have : ∀ j : Fin 8, sShl .u8 1 ((j.val : Nat) : Int) = Yn (1#8 <<< j.val) := by decide
  exact this ⟨k, hk⟩
theorem at_Yn (b : List (BitVec 8)) (k : Nat) : at' (b.map Yn) (k : Int) = Yn (b.getD k 0#8) := by
  simp only [at', Int.toNat_natCast, List.getD_eq_getElem?_getD, List.getElem?_map]
  cases b[k]? <;> rfl
theorem set_Yn (b : List (BitVec 8)) (k : Nat) (y : BitVec 8) : (b.map Yn).set k (Yn y) = (b.set k y).map Yn := by rw [List.map_set]

theorem turn_eq (b : List (BitVec 8)) (x : Int) (hx : x ≤ 9223372036854775807) (hb : b.length ≤ 140737488355328) :
    M_crc_Turn (b.map Yn) x = some (if x < 0 ∨ x / 8 ≥ (b.length : Int) then ([], 1) else ((turnB b x.toNat).map Yn, 0)) := by
  rw [M_crc_Turn, orB, List.length_map, shr3]
  by_cases h0 : x < 0
  · rw [if_pos (by simp [h0]), if_pos (.inl h0)]
  by_cases h1 : x / 8 ≥ (b.length : Int)
  · rw [if_pos (by simp [h0, h1]), if_pos (.inr h1)]
  obtain ⟨k, rfl⟩ : ∃ k : Nat, x = k := ⟨x.toNat, by omega⟩
  rw [if_neg (by simp [h0]; omega), if_neg (by omega), clone_eq _ hb, bindS, List.length_map, if_pos (by omega), and7 (by omega) hx, if_pos (by omega), if_pos (by omega)]
  have e1 : (k : Int) / 8 = ((k / 8 : Nat) : Int) := by omega
  have e2 : (k : Int) % 8 = ((k % 8 : Nat) : Int) := by omega
  rw [e1, e2, at_Yn, shl8 (by omega), xor_Yn, Int.toNat_natCast, set_Yn]
  rfl
theorem refTurn_eq (b : List (BitVec 8)) (x : Int) (hx0 : -9223372036854775808 ≤ x) (hx : x ≤ 9223372036854775807) (hb : b.length ≤ 140737488355328) :
    M_thrumref04_Turn (b.map Yn) x = some (if x < 0 ∨ x / 8 ≥ (b.length : Int) then ([], 1) else ((turnB b x.toNat).map Yn, 0)) := by
  rw [M_thrumref04_Turn, orB, List.length_map]
  by_cases h0 : x < 0
  · rw [if_pos (by simp [h0]), if_pos (.inl h0)]
  have t1 : Int.tdiv x 8 = x / 8 := by rw [Int.tdiv_eq_ediv_of_nonneg (by omega)]
  have t2 : Int.tmod x 8 = x % 8 := by rw [Int.tmod_eq_emod_of_nonneg (by omega)]
  rw [t1, t2, i64_in _ (by omega)]
  by_cases h1 : x / 8 ≥ (b.length : Int)
  · rw [if_pos (by simp [h0, h1]), if_pos (.inr h1)]
  obtain ⟨k, rfl⟩ : ∃ k : Nat, x = k := ⟨x.toNat, by omega⟩
  rw [if_neg (by simp [h0]; omega), if_pos (room1 (by omega)), if_pos (by omega), if_pos (by omega), if_pos (by omega), if_neg (by omega)]
  have e1 : (k : Int) / 8 = ((k / 8 : Nat) : Int) := by omega
  have e2 : (k : Int) % 8 = ((k % 8 : Nat) : Int) := by omega
  rw [e1, e2, at_Yn, shl8 (by omega), xor_Yn, Int.toNat_natCast, set_Yn]
  rfl

theorem live4_eq : M_thrumlaw04_live = some true := by
  have e1 : ([97] : List Int) = [97#8].map Yn := rfl
  have e2 : ([49, 50, 51, 52, 53, 54, 55, 56, 57] : List Int) = [49#8, 50#8, 51#8, 52#8, 53#8, 54#8, 55#8, 56#8, 57#8].map Yn := rfl
  have e3 : Un (sumB [49#8, 50#8, 51#8, 52#8, 53#8, 54#8, 55#8, 56#8, 57#8]) = 3421780262 := by decide
  rw [M_thrumlaw04_live, e1, e2, seal_in _ (by decide), bindS, Sum_eq _ (by decide), bindS, e3, if_pos rfl, bindS]
  rfl

theorem Same_self (a : List Int) : M_thrumref03_Same a a = some true := by
  rw [M_thrumref03_Same]; simp

theorem CrcSums_true (b : List (BitVec 8)) (s : Wd) (x : Int) (hx0 : -9223372036854775808 ≤ x) (hx : x ≤ 9223372036854775807) : M_thrumlaw04_CrcSums (b.map Yn) (Un s) x = some true := by
  rw [M_thrumlaw04_CrcSums, live4_eq, bindS, if_neg (by simp)]
  by_cases hl : b.length > 5000
  · rw [if_pos (by rw [List.length_map]; omega)]
  rw [if_neg (by rw [List.length_map]; omega), if_pos (room1 (by rw [List.length_map]; omega)), turn_eq _ _ hx (by omega), bindS, refTurn_eq _ _ hx0 hx (by omega), bindS]
  rw [if_pos rfl, Sum_eq _ (by omega), bindS, refSum_eq _ (by omega), bindS, bindS, if_pos (by simp), M_More_eq (by omega), bindS, refMore_eq _ _ (by omega), bindS, bindS, if_pos (by simp), Same_self, bindS, bindS, if_pos rfl, bindS, if_pos (by simp), Same_self]
  rfl

theorem CrcSeals_l0_eq (a0 : List Int) (r1 : Bool) (r2 r4 : (List Int) × Int) (j : Bool) (hb : r2.1.length < 4611686018427387904) : ∀ (n k : Nat) (l : List Int), k + n = r2.1.length → l.length = r2.1.length → M_thrumlaw04_CrcSeals_l0 a0 r1 r2 r4 j (k : Int) l = some ()
  | 0, k, l, h, hl => by rw [M_thrumlaw04_CrcSeals_l0, if_neg (by omega)]
  | n + 1, k, l, h, hl => by
    rw [M_thrumlaw04_CrcSeals_l0, if_pos (by omega), if_pos (by omega), if_pos (by omega), bindS, i64_s (by omega), CrcSeals_l0_eq a0 r1 r2 r4 j hb n (k + 1) _ (by omega) (by simp [hl])]
theorem CrcSeals_l1_eq (a0 : List Int) (r1 : Bool) (r4 : (List Int) × Int) (j : Bool) (hb : r4.1.length < 4611686018427387904) : ∀ (n k : Nat) (l : List Int), k + n = r4.1.length → l.length = r4.1.length → M_thrumlaw04_CrcSeals_l1 a0 r1 r4 j (k : Int) l = some ()
  | 0, k, l, h, hl => by rw [M_thrumlaw04_CrcSeals_l1, if_neg (by omega)]
  | n + 1, k, l, h, hl => by
    rw [M_thrumlaw04_CrcSeals_l1, if_pos (by omega), if_pos (by omega), if_pos (by omega), bindS, i64_s (by omega), CrcSeals_l1_eq a0 r1 r4 j hb n (k + 1) _ (by omega) (by simp [hl])]

theorem openB_len (b : List (BitVec 8)) : (openB b).1.length ≤ b.length := by
  unfold openB
  (repeat' split) <;> simp

theorem CrcSeals_true (b : List (BitVec 8)) : M_thrumlaw04_CrcSeals (b.map Yn) = some true := by
  rw [M_thrumlaw04_CrcSeals, live4_eq, bindS, if_neg (by simp)]
  by_cases hl : b.length > 66000
  · rw [if_pos (by rw [List.length_map]; omega)]
  rw [if_neg (by rw [List.length_map]; omega), if_pos (room1 (by rw [List.length_map]; omega)), seal_eq _ (by omega), bindS, refSeal_eq _ (by omega), bindS, open_eq _ (by omega), bindS, refOpen_eq _ (by omega), bindS]
  rw [Same_self, bindS, if_pos rfl, bindS, if_pos (by simp), Same_self, bindS, bindS, if_pos rfl, bindS]
  generalize hr : (if b.length > 65532 then (([], 3) : (List Int) × Int) else ((sealB b).map Yn, 0)) = r2
  have h2 : r2.1.length < 4611686018427387904 := by
    subst hr
    split
    · simp
    · simp [sealB, le4_len]; omega
  have h0 := CrcSeals_l0_eq (b.map Yn) true r2 ((openB b).1.map Yn, (openB b).2) ((openB b).2 == (openB b).2) h2 r2.1.length 0 r2.1 (by omega) rfl
  rw [show ((0 : Nat) : Int) = 0 from rfl] at h0
  rw [h0, bindS]
  have h4 : ((openB b).1.map Yn).length < 4611686018427387904 := by have := openB_len b; rw [List.length_map]; omega
  have h1 := CrcSeals_l1_eq (b.map Yn) true ((openB b).1.map Yn, (openB b).2) ((openB b).2 == (openB b).2) h4 ((openB b).1.map Yn).length 0 ((openB b).1.map Yn) (by simp) rfl
  rw [show ((0 : Nat) : Int) = 0 from rfl] at h1
  rw [h1, bindS, if_pos rfl, bindS, if_pos (by simp), Same_self]
  rfl
end Go.Proofs.Ytaghpancpfpnhaa.Abs
