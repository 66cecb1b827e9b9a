/- What chapter 4's functions compute, on words and bytes. Conditions: none. -/
import Derived.Test.YtaghpancpfpnhaaPC1
import Derived.Test.YtaghpancpfpnhaaCM
namespace Go.Proofs.Ytaghpancpfpnhaa.Abs
open Go Go.RowKit Go.IntWalk Crc
set_option linter.unusedVariables false
set_option maxRecDepth 100000

/-- So many bits on. -/
def AbN : Nat → Wd → Wd
  | 0, w => w
  | n + 1, w => AbN n (Ab w)
theorem AbN8 (w : Wd) : AbN 8 w = A8 w := rfl

theorem low_bit (w : Wd) : bAnd .u32 (Un w) 1 = if w.getLsbD 0 then 1 else 0 := by
  unfold bAnd
  show IntKind.u32.wrap ((BitVec.ofInt 32 (Un w) &&& BitVec.ofInt 32 1).toNat : Int) = _
  rw [of_Un, IntKind.wrap_u32, BitVec.toNat_and]
  have : (BitVec.ofInt 32 1).toNat = 2 ^ 1 - 1 := rfl
  rw [this, Nat.and_two_pow_sub_one_eq_mod]
  have h : w.getLsbD 0 = decide (w.toNat % 2 = 1) := by rw [BitVec.getLsbD, Nat.testBit_zero]
  rw [h]
  by_cases h2 : w.toNat % 2 = 1
  · simp [h2]
  · simp [h2]; omega
theorem shr_Un1 (w : Wd) : sShr .u32 (Un w) 1 = Un (w >>> 1) := shr_Un w 1 (by omega)
theorem poly_Un (w : Wd) : bXor .u32 (Un w) 3988292384 = Un (w ^^^ poly) := xor_Un w poly

theorem refMore_l1 (a1 : List Int) (x0 : Int) : ∀ (k i : Nat) (w : Wd), i + k = 8 → M_thrumref04_More_l1 a1 x0 (i : Int) (Un w) = some (Un (AbN k w))
  | 0, i, w, h => by rw [M_thrumref04_More_l1, if_neg (by omega)]; rfl
  | k + 1, i, w, h => by
    rw [M_thrumref04_More_l1, if_pos (by omega), low_bit, i64_s (by omega), shr_Un1, poly_Un, refMore_l1 a1 x0 k (i + 1) _ (by omega), refMore_l1 a1 x0 k (i + 1) _ (by omega)]
    rw [AbN, Ab]
    cases w.getLsbD 0 <;> simp

theorem wide_Yn (y : BitVec 8) : IntKind.u32.wrap (Yn y) = Un (y.setWidth 32) := by
  rw [IntKind.wrap_u32]
  have := y.isLt
  unfold Yn Un
  rw [BitVec.toNat_setWidth]
  omega

theorem refMore_l0 (b : List (BitVec 8)) (hb : b.length < 4611686018427387904) : ∀ (t : List (BitVec 8)) (k : Nat) (c : Wd), b.drop k = t → M_thrumref04_More_l0 (b.map Yn) (k : Int) (Un c) = some (Un (t.foldl feed c))
  | [], k, c, h => by
    have := List.drop_eq_nil_iff.1 h
    rw [M_thrumref04_More_l0, if_neg (by rw [List.length_map]; omega)]; rfl
  | y :: t, k, c, h => by
    have h' : (b.map Yn).drop k = Yn y :: t.map Yn := by rw [← List.map_drop, h]; rfl
    have g := drop_at h'
    have g2 : b.drop (k + 1) = t := by
      have : b.drop (k + 1) = (b.drop k).drop 1 := by rw [List.drop_drop]
      rw [this, h]; rfl
    rw [M_thrumref04_More_l0, if_pos g.1, if_pos ⟨by omega, g.1⟩, g.2.1, wide_Yn, xor_Un]
    have := refMore_l1 (b.map Yn) (k : Int) 8 0 (c ^^^ y.setWidth 32) (by omega)
    rw [show ((0 : Nat) : Int) = 0 from rfl] at this
    rw [this, bindS, i64_s (by have := g.1; rw [List.length_map] at this; omega), refMore_l0 b hb t (k + 1) _ g2]
    rfl

theorem refMore_eq (s : Wd) (b : List (BitVec 8)) (hb : b.length < 4611686018427387904) : M_thrumref04_More (Un s) (b.map Yn) = some (Un (moreB s b)) := by
  rw [M_thrumref04_More, bindS]
  have h1 : bXor .u32 (if IntKind.signed .u32 then -1 else IntKind.max .u32) (Un s) = Un (~~~ s) := not_Un s
  have h2 : ∀ w : Wd, bXor .u32 (if IntKind.signed .u32 then -1 else IntKind.max .u32) (Un w) = Un (~~~ w) := not_Un
  rw [h1]
  have := refMore_l0 b hb b 0 (~~~ s) rfl
  rw [show ((0 : Nat) : Int) = 0 from rfl] at this
  rw [this, bindS, h2]
  rfl

/-- A text's sum. -/
def sumB (b : List (BitVec 8)) : Wd := moreB 0#32 b
theorem Un0 : Un 0#32 = 0 := rfl
theorem Sum_eq (b : List (BitVec 8)) (hb : b.length < 4611686018427387904) : M_crc_Sum (b.map Yn) = some (Un (sumB b)) := by
  rw [M_crc_Sum, ← Un0, M_More_eq hb, bindS]; rfl
theorem refSum_eq (b : List (BitVec 8)) (hb : b.length < 4611686018427387904) : M_thrumref04_Sum (b.map Yn) = some (Un (sumB b)) := by
  rw [M_thrumref04_Sum, ← Un0, refMore_eq _ _ hb, bindS]; rfl

/-- A word's bytes. -/
def le4 (w : Wd) : List (BitVec 8) := [w.setWidth 8, (w >>> 8).setWidth 8, (w >>> 16).setWidth 8, (w >>> 24).setWidth 8]
theorem le4_len (w : Wd) : (le4 w).length = 4 := rfl

theorem clone_eq (b : List (BitVec 8)) (hb : b.length ≤ 140737488355328) : M_slices_Clone_byte_byte (b.map Yn) = some (b.map Yn) := by
  rw [M_slices_Clone_byte_byte, List.nil_append, if_pos (room1 (by rw [List.length_map]; exact hb))]

theorem shr_Un8 (w : Wd) : sShr .u32 (Un w) 8 = Un (w >>> 8) := shr_Un w 8 (by omega)
theorem seal_l0 (w : Wd) (b : List (BitVec 8)) (hb : b.length ≤ 70000) : M_crc_Seal_l0 0 (Un w) (b.map Yn) = some ((b ++ le4 w).map Yn) := by
  rw [M_crc_Seal_l0, if_pos (by omega), if_pos (room1 (by simp; omega)), bindS, low_Un, shr_Un8, show IntKind.i64.wrap (0 + 1) = 1 from by rw [i64_in _ (by omega)]; rfl]
  rw [M_crc_Seal_l0, if_pos (by omega), if_pos (room1 (by simp; omega)), bindS, low_Un, shr_Un8, show IntKind.i64.wrap (1 + 1) = 2 from by rw [i64_in _ (by omega)]; rfl]
  rw [M_crc_Seal_l0, if_pos (by omega), if_pos (room1 (by simp; omega)), bindS, low_Un, shr_Un8, show IntKind.i64.wrap (2 + 1) = 3 from by rw [i64_in _ (by omega)]; rfl]
  rw [M_crc_Seal_l0, if_pos (by omega), if_pos (room1 (by simp; omega)), bindS, low_Un, shr_Un8, show IntKind.i64.wrap (3 + 1) = 4 from by rw [i64_in _ (by omega)]; rfl]
  rw [M_crc_Seal_l0, if_neg (by omega)]
  simp [le4, ← BitVec.shiftRight_add]

def sealB (b : List (BitVec 8)) : List (BitVec 8) := b ++ le4 (sumB b)
theorem seal_eq (b : List (BitVec 8)) (hb : b.length ≤ 70000) : M_crc_Seal (b.map Yn) = some (if b.length > 65532 then ([], 3) else ((sealB b).map Yn, 0)) := by
  rw [M_crc_Seal]
  by_cases h : b.length > 65532
  · rw [if_pos (by rw [List.length_map]; omega), if_pos h]
  · rw [if_neg (by rw [List.length_map]; omega), if_neg h, clone_eq _ (by omega), bindS, Sum_eq _ (by omega), bindS, seal_l0 _ _ hb, bindS]; rfl
theorem refSeal_eq (b : List (BitVec 8)) (hb : b.length ≤ 70000) : M_thrumref04_Seal (b.map Yn) = some (if b.length > 65532 then ([], 3) else ((sealB b).map Yn, 0)) := by
  rw [M_thrumref04_Seal]
  by_cases h : b.length > 65532
  · rw [if_pos (by rw [List.length_map]; omega), if_pos h]
  · rw [if_neg (by rw [List.length_map]; omega), if_neg h, refSum_eq _ (by omega), bindS, if_pos (room1 (by rw [List.length_map]; omega)), if_pos (room1 (by simp; omega)), low_Un, shr_Un8, low_Un]
    have h16 : sShr .u32 (Un (sumB b)) 16 = Un (sumB b >>> 16) := shr_Un _ 16 (by omega)
    have h24 : sShr .u32 (Un (sumB b)) 24 = Un (sumB b >>> 24) := shr_Un _ 24 (by omega)
    rw [h16, h24, low_Un, low_Un]
    simp [sealB, le4]

theorem seal_in (b : List (BitVec 8)) (hb : b.length ≤ 65532) : M_crc_Seal (b.map Yn) = some ((sealB b).map Yn, 0) := by
  rw [seal_eq b (by omega), if_neg (by omega)]
theorem refSeal_in (b : List (BitVec 8)) (hb : b.length ≤ 65532) : M_thrumref04_Seal (b.map Yn) = some ((sealB b).map Yn, 0) := by
  rw [refSeal_eq b (by omega), if_neg (by omega)]

def U8s (b : List Int) : Prop := ∀ x ∈ b, 0 ≤ x ∧ x ≤ 255
theorem Yn_U8s (b : List (BitVec 8)) : U8s (b.map Yn) := by
  intro x hx
  obtain ⟨y, _, rfl⟩ := List.mem_map.1 hx
  have := Yn_lt y; omega
theorem strB_list (l : List Int) : (strB l).toList = l.map fun x => UInt8.ofNat x.toNat := by
  rw [ByteArray.toList_eq, strB, strOf]
  simp only [List.map_map]
  rfl
theorem u8_map_inj : ∀ {a b : List Int}, U8s a → U8s b → a.map (fun x => UInt8.ofNat x.toNat) = b.map (fun x => UInt8.ofNat x.toNat) → a = b
  | [], [], _, _, _ => rfl
  | [], y :: b, _, _, h => by simp at h
  | x :: a, [], _, _, h => by simp at h
  | x :: a, y :: b, ha, hb, h => by
    simp only [List.map_cons, List.cons.injEq] at h
    have hx := ha x (by simp)
    have hy := hb y (by simp)
    have h3 := congrArg UInt8.toNat h.1
    simp only [UInt8.toNat_ofNat'] at h3
    rw [u8_map_inj (fun z hz => ha z (by simp [hz])) (fun z hz => hb z (by simp [hz])) h.2]
    congr 1
    omega
theorem str_eq (a b : List (BitVec 8)) : ((strB (a.map Yn)).toList == (strB (b.map Yn)).toList) = decide (a = b) := by
  rw [strB_list, strB_list]
  by_cases h : a = b
  · subst h; simp
  · rw [decide_eq_false h]
    refine Bool.eq_false_iff.2 fun he => h ?_
    exact map_Yn_inj (u8_map_inj (Yn_U8s a) (Yn_U8s b) (by simpa using he))
theorem Same_eq (a b : List (BitVec 8)) : M_thrumref03_Same (a.map Yn) (b.map Yn) = some (decide (a = b)) := by
  rw [M_thrumref03_Same, str_eq]

theorem bytesEq_l0 (a b : List (BitVec 8)) (hl : a.length = b.length) (hb : a.length < 4611686018427387904) : ∀ (t u : List (BitVec 8)) (k : Nat), a.drop k = t → b.drop k = u → M_slices_Equal_byte_byte_l0 (a.map Yn) (b.map Yn) (k : Int) = some (if t = u then .inr () else .inl false)
  | [], u, k, h1, h2 => by
    have := List.drop_eq_nil_iff.1 h1
    have h3 : u = [] := by rw [← h2]; exact List.drop_eq_nil_of_le (by omega)
    rw [M_slices_Equal_byte_byte_l0, if_neg (by rw [List.length_map]; omega), h3]; rfl
  | x :: t, [], k, h1, h2 => by
    have := List.drop_eq_nil_iff.1 h2
    have := (drop_at h1).1
    omega
  | x :: t, y :: u, k, h1, h2 => by
    have g1 := drop_at (show (a.map Yn).drop k = Yn x :: t.map Yn by rw [← List.map_drop, h1]; rfl)
    have g2 := drop_at (show (b.map Yn).drop k = Yn y :: u.map Yn by rw [← List.map_drop, h2]; rfl)
    have k1 := (drop_at h1).2.2
    have k2 := (drop_at h2).2.2
    have := g1.1; have := g2.1
    rw [List.length_map] at *
    rw [M_slices_Equal_byte_byte_l0, List.length_map, List.length_map, if_pos (by omega), if_pos (by omega), if_pos (by omega), g1.2.1, g2.2.1, i64_s (by omega), bytesEq_l0 a b hl hb t u (k + 1) k1 k2]
    by_cases hxy : x = y
    · subst hxy; simp
    · rw [if_pos (fun h => hxy (Yn_inj h))]; simp [hxy]
theorem bytesEq (a b : List (BitVec 8)) (hb : a.length < 4611686018427387904) : M_slices_Equal_byte_byte (a.map Yn) (b.map Yn) = some (decide (a = b)) := by
  rw [M_slices_Equal_byte_byte, List.length_map, List.length_map]
  by_cases hl : a.length = b.length
  · have := bytesEq_l0 a b hl hb a b 0 rfl rfl
    rw [show ((0 : Nat) : Int) = 0 from rfl] at this
    rw [if_neg (by omega), this]
    by_cases h : a = b
    · simp [h]
    · simp [h]
  · rw [if_pos (by omega), decide_eq_false (fun h => hl (by rw [h]))]

/-- What opening gives. -/
def openB (b : List (BitVec 8)) : List (BitVec 8) × Int :=
  if b.length > 65536 then ([], 3) else if b.length < 4 then ([], 5) else if sealB (b.take (b.length - 4)) = b then (b.take (b.length - 4), 0) else ([], 7)
theorem cut_n (b : List (BitVec 8)) (h : 4 ≤ b.length) (hb : b.length ≤ 70000) : cutOk none (some (IntKind.i64.wrap (((b.map Yn).length : Int) - 4))) (b.map Yn).length ∧ cut' (b.map Yn) none (some (IntKind.i64.wrap (((b.map Yn).length : Int) - 4))) = (b.take (b.length - 4)).map Yn := by
  rw [List.length_map, i64_in _ (by omega)]
  refine ⟨⟨?_, ?_, ?_⟩, ?_⟩
  · simp
  · show (0 : Int) ≤ (b.length : Int) - 4; omega
  · show (b.length : Int) - 4 ≤ (b.length : Int); omega
  · show ((b.map Yn).take ((b.length : Int) - 4).toNat).drop 0 = _
    rw [List.drop_zero, ← List.map_take]
    congr 2
    omega
theorem open_eq (b : List (BitVec 8)) (hb : b.length ≤ 70000) : M_crc_Open (b.map Yn) = some ((openB b).1.map Yn, (openB b).2) := by
  rw [M_crc_Open, openB]
  by_cases h1 : b.length > 65536
  · rw [if_pos (by rw [List.length_map]; omega), if_pos h1]; rfl
  rw [if_neg (by rw [List.length_map]; omega), if_neg h1]
  by_cases h2 : b.length < 4
  · rw [if_pos (by rw [List.length_map, i64_in _ (by omega)]; omega), if_pos h2]; rfl
  obtain ⟨c1, c2⟩ := cut_n b (by omega) hb
  rw [if_neg (by rw [List.length_map, i64_in _ (by omega)]; omega), if_neg h2, if_pos c1, bindS, c2, seal_in _ (by rw [List.length_take]; omega), bindS, if_neg (by simp)]
  rw [bytesEq _ _ (by simp [sealB, le4_len]; omega), bindS, bindS]
  by_cases h3 : sealB (b.take (b.length - 4)) = b
  · rw [if_neg (by simp [h3]), if_pos h3, if_pos c1, bindS, clone_eq _ (by rw [List.length_take]; omega), bindS]
  · rw [if_pos (by simp [h3]), if_neg h3]; rfl
theorem refOpen_eq (b : List (BitVec 8)) (hb : b.length ≤ 70000) : M_thrumref04_Open (b.map Yn) = some ((openB b).1.map Yn, (openB b).2) := by
  rw [M_thrumref04_Open, openB]
  by_cases h1 : b.length > 65536
  · rw [if_pos (by rw [List.length_map]; omega), if_pos h1]; rfl
  rw [if_neg (by rw [List.length_map]; omega), if_neg h1]
  by_cases h2 : b.length < 4
  · rw [if_pos (by rw [List.length_map]; omega), if_pos h2]; rfl
  obtain ⟨c1, c2⟩ := cut_n b (by omega) hb
  rw [if_neg (by rw [List.length_map]; omega), if_neg h2, if_pos c1, bindS, c2, if_pos (room1 (by simp; omega)), refSeal_in _ (by rw [List.length_take]; omega), bindS, str_eq]
  by_cases h3 : sealB (b.take (b.length - 4)) = b
  · rw [if_neg (by simp [h3]), if_pos h3]
  · rw [if_pos (by simp [h3]), if_neg h3]; rfl
end Go.Proofs.Ytaghpancpfpnhaa.Abs
