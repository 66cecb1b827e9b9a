/- Plain facts on sums of texts. Conditions: none. -/
import Derived.Test.YtelobmiooldoaaaPL1
import Derived.Test.YtelobmiooldoaaaCrcD
import Derived.Test.YtelobmiooldoaaaSM
namespace Go.Proofs.Ytelobmiooldoaaa.Abs
open Go Go.RowKit Go.IntWalk Crc
set_option linter.unusedVariables false
set_option maxRecDepth 100000

abbrev Wd := BitVec 32
def Un (w : Wd) : Int := (w.toNat : Int)
def Yn (y : BitVec 8) : Int := (y.toNat : Int)
def poly : Wd := 0xedb88320#32
/-- One bit on. -/
def Ab (c : Wd) : Wd := (c >>> 1) ^^^ (if c.getLsbD 0 then poly else 0#32)
def A8 (c : Wd) : Wd := Ab (Ab (Ab (Ab (Ab (Ab (Ab (Ab c)))))))
def feed (c : Wd) (y : BitVec 8) : Wd := A8 (c ^^^ y.setWidth 32)

theorem Ab_xor (a b : Wd) : Ab (a ^^^ b) = Ab a ^^^ Ab b := by
  unfold Ab
  rw [BitVec.ushiftRight_xor_distrib, BitVec.getLsbD_xor]
  cases a.getLsbD 0 <;> cases b.getLsbD 0 <;> simp
  · rw [BitVec.xor_assoc]
  · rw [BitVec.xor_assoc, BitVec.xor_comm (b >>> 1), BitVec.xor_assoc]
  · rw [BitVec.xor_assoc, BitVec.xor_comm (b >>> 1), ← BitVec.xor_assoc poly]; simp
theorem A8_xor (a b : Wd) : A8 (a ^^^ b) = A8 a ^^^ A8 b := by simp only [A8, Ab_xor]
theorem Ab_even {c : Wd} (h : c.getLsbD 0 = false) : Ab c = c >>> 1 := by unfold Ab; rw [h]; simp
theorem A8_high (c : Wd) : A8 (c <<< 8) = (c <<< 8) >>> 8 := by
  have e : ∀ k : Nat, k < 8 → ((c <<< 8) >>> k).getLsbD 0 = false := by
    intro k hk
    rw [BitVec.getLsbD_ushiftRight, BitVec.getLsbD_shiftLeft]
    simp; omega
  have s : ∀ k : Nat, k < 8 → Ab ((c <<< 8) >>> k) = (c <<< 8) >>> (k + 1) := by
    intro k hk
    rw [Ab_even (e k hk), ← BitVec.shiftRight_add]
  unfold A8
  have h0 := s 0 (by omega)
  rw [BitVec.ushiftRight_zero] at h0
  rw [h0, s 1 (by omega), s 2 (by omega), s 3 (by omega), s 4 (by omega), s 5 (by omega), s 6 (by omega), s 7 (by omega)]

theorem tab_all : (List.range 256).map (fun i => Un (A8 (BitVec.ofNat 32 i))) = tabL := by kernel_rfl
theorem tab_at {i : Nat} (h : i < 256) : at' tabL (i : Int) = Un (A8 (BitVec.ofNat 32 i)) := by
  rw [← tab_all]
  simp [at', h]

theorem Un_lt (w : Wd) : 0 ≤ Un w ∧ Un w < 4294967296 := by unfold Un; have := w.isLt; omega
theorem Yn_lt (w : BitVec 8) : 0 ≤ Yn w ∧ Yn w < 256 := by unfold Yn; have := w.isLt; omega
theorem of_Un (w : Wd) : BitVec.ofInt 32 (Un w) = w := by unfold Un; simp
theorem of_Yn (w : BitVec 8) : BitVec.ofInt 8 (Yn w) = w := by unfold Yn; simp
theorem wrap_Un (w : Wd) : IntKind.u32.wrap (Un w) = Un w := by rw [IntKind.wrap_u32]; have := Un_lt w; omega
theorem xor_Un (a b : Wd) : bXor .u32 (Un a) (Un b) = Un (a ^^^ b) := by
  unfold bXor
  show IntKind.u32.wrap ((BitVec.ofInt 32 (Un a) ^^^ BitVec.ofInt 32 (Un b)).toNat : Int) = _
  rw [of_Un, of_Un]; exact wrap_Un _
theorem xor_Yn (a b : BitVec 8) : bXor .u8 (Yn a) (Yn b) = Yn (a ^^^ b) := by
  unfold bXor
  show IntKind.u8.wrap ((BitVec.ofInt 8 (Yn a) ^^^ BitVec.ofInt 8 (Yn b)).toNat : Int) = _
  rw [of_Yn, of_Yn, IntKind.wrap_u8]
  have := (a ^^^ b).isLt
  unfold Yn
  omega
theorem low_Un (w : Wd) : IntKind.u8.wrap (Un w) = Yn (w.setWidth 8) := by
  rw [IntKind.wrap_u8]; unfold Un Yn; simp
theorem shr_Un (w : Wd) (k : Nat) (hk : k ≤ 32) : sShr .u32 (Un w) (k : Int) = Un (w >>> k) := by
  unfold sShr
  have : min (k : Int).toNat IntKind.u32.bits = k := by show min (k : Int).toNat 32 = k; omega
  rw [this]
  unfold Un
  rw [BitVec.toNat_ushiftRight, Nat.shiftRight_eq_div_pow]
  have h2 : ((2 : Int) ^ k) = ((2 ^ k : Nat) : Int) := by simp
  rw [h2, Int.fdiv_eq_ediv_of_nonneg _ (Int.natCast_nonneg _)]
  norm_cast
theorem not_Un (w : Wd) : crcNot (Un w) = Un (~~~ w) := by
  have : crcNot (Un w) = bXor .u32 (Un (BitVec.allOnes 32)) (Un w) := rfl
  rw [this, xor_Un, BitVec.allOnes_xor]

theorem crcStep_eq (c : Wd) (y : BitVec 8) : crcStep (Un c) (Yn y) = Un (feed c y) := by
  have h1 : crcIx (Un c) (Yn y) = Yn (c.setWidth 8 ^^^ y) := by
    unfold crcIx; rw [low_Un, xor_Yn]
  unfold crcStep
  rw [h1]
  have h2 : at' tabL (Yn (c.setWidth 8 ^^^ y)) = Un (A8 (BitVec.ofNat 32 (c.setWidth 8 ^^^ y).toNat)) := tab_at (c.setWidth 8 ^^^ y).isLt
  have h3 := shr_Un c 8 (by omega)
  rw [h2, show sShr .u32 (Un c) 8 = Un (c >>> 8) from h3, xor_Un]
  congr 1
  unfold feed
  have h4 : c ^^^ y.setWidth 32 = BitVec.ofNat 32 (c.setWidth 8 ^^^ y).toNat ^^^ ((c >>> 8) <<< 8) := by
    apply BitVec.eq_of_getLsbD_eq
    intro i hi
    simp only [BitVec.getLsbD_xor, BitVec.getLsbD_setWidth, BitVec.getLsbD_shiftLeft, BitVec.getLsbD_ushiftRight, BitVec.ofNat_toNat, hi, decide_true, Bool.true_and]
    by_cases h : i < 8
    · simp [h]
    · have : 8 + (i - 8) = i := by omega
      simp [h, this]
      rw [Bool.xor_comm]
  rw [h4, A8_xor, A8_high]
  congr 1
  apply BitVec.eq_of_getLsbD_eq
  intro i hi
  simp only [BitVec.getLsbD_shiftLeft, BitVec.getLsbD_ushiftRight]
  by_cases h : 8 + i < 32
  · simp [h]
  · have : c.getLsbD (8 + i) = false := BitVec.getLsbD_of_ge _ _ (by omega)
    simp [this]

theorem fold_eq (bs : List (BitVec 8)) : ∀ c : Wd, (bs.map Yn).foldl crcStep (Un c) = Un (bs.foldl feed c) := by
  induction bs with
  | nil => intro c; rfl
  | cons y bs ih => intro c; rw [List.map_cons, List.foldl_cons, crcStep_eq, ih, List.foldl_cons]

/-- A sum that goes on. -/
def moreB (s : Wd) (bs : List (BitVec 8)) : Wd := ~~~ (bs.foldl feed (~~~ s))
theorem moreT_eq (s : Wd) (bs : List (BitVec 8)) : moreT (Un s) (bs.map Yn) = Un (moreB s bs) := by
  unfold moreT moreB
  rw [not_Un, fold_eq, not_Un]
theorem M_More_eq {s : Wd} {bs : List (BitVec 8)} (h : bs.length < 4611686018427387904) : M_crc_More (Un s) (bs.map Yn) = some (Un (moreB s bs)) := by
  unfold M_crc_More
  rw [if_pos (by rw [List.length_map]; exact h), moreT_eq]

/-- Numbers as bytes. -/
theorem bytes_of : ∀ {b : List Int}, (∀ x ∈ b, 0 ≤ x ∧ x ≤ 255) → ∃ bs : List (BitVec 8), b = bs.map Yn
  | [], _ => ⟨[], rfl⟩
  | x :: b, h => by
    obtain ⟨bs, rfl⟩ := bytes_of (b := b) fun y hy => h y (by simp [hy])
    have := h x (by simp)
    refine ⟨BitVec.ofNat 8 x.toNat :: bs, ?_⟩
    simp only [List.map_cons, List.cons.injEq, and_true]
    unfold Yn
    simp
    omega
theorem word_of {x : Int} (h : 0 ≤ x ∧ x ≤ 4294967295) : ∃ w : Wd, x = Un w := ⟨BitVec.ofNat 32 x.toNat, by unfold Un; simp; omega⟩
theorem Un_inj {a b : Wd} : Un a = Un b ↔ a = b := by
  constructor
  · intro h; rw [← of_Un a, ← of_Un b, h]
  · intro h; rw [h]
theorem Yn_inj {a b : BitVec 8} (h : Yn a = Yn b) : a = b := by rw [← of_Yn a, ← of_Yn b, h]
theorem map_Yn_inj : ∀ {a b : List (BitVec 8)}, a.map Yn = b.map Yn → a = b
  | [], [], _ => rfl
  | [], _ :: _, h => by cases h
  | _ :: _, [], h => by cases h
  | x :: a, y :: b, h => by
    simp only [List.map_cons, List.cons.injEq] at h
    rw [Yn_inj h.1, map_Yn_inj h.2]
/-- A text's sum. -/
def sumB (b : List (BitVec 8)) : Wd := moreB 0#32 b
theorem Un0 : Un 0#32 = 0 := rfl
theorem Sum_eq (b : List (BitVec 8)) (hb : b.length < 4611686018427387904) : M_crc_Sum (b.map Yn) = some (Un (sumB b)) := by
  rw [M_crc_Sum, ← Un0, M_More_eq hb, bindS]; rfl
/-- A word's bytes. -/
def le4 (w : Wd) : List (BitVec 8) := [w.setWidth 8, (w >>> 8).setWidth 8, (w >>> 16).setWidth 8, (w >>> 24).setWidth 8]
theorem le4_len (w : Wd) : (le4 w).length = 4 := rfl

theorem cloneB_eq (b : List (BitVec 8)) (hb : b.length ≤ 140737488355328) : M_slices_Clone_byte_byte (b.map Yn) = some (b.map Yn) := by
  rw [M_slices_Clone_byte_byte, List.nil_append, if_pos (room1 (by rw [List.length_map]; exact hb))]

theorem shr_Un8 (w : Wd) : sShr .u32 (Un w) 8 = Un (w >>> 8) := shr_Un w 8 (by omega)
theorem seal_l0 (w : Wd) (b : List (BitVec 8)) (hb : b.length ≤ 70000) : M_crc_Seal_l0 0 (Un w) (b.map Yn) = some ((b ++ le4 w).map Yn) := by
  rw [M_crc_Seal_l0, if_pos (by omega), if_pos (room1 (by simp; omega)), bindS, low_Un, shr_Un8, show IntKind.i64.wrap (0 + 1) = 1 from by rw [i64_in _ (by omega)]; rfl]
  rw [M_crc_Seal_l0, if_pos (by omega), if_pos (room1 (by simp; omega)), bindS, low_Un, shr_Un8, show IntKind.i64.wrap (1 + 1) = 2 from by rw [i64_in _ (by omega)]; rfl]
  rw [M_crc_Seal_l0, if_pos (by omega), if_pos (room1 (by simp; omega)), bindS, low_Un, shr_Un8, show IntKind.i64.wrap (2 + 1) = 3 from by rw [i64_in _ (by omega)]; rfl]
  rw [M_crc_Seal_l0, if_pos (by omega), if_pos (room1 (by simp; omega)), bindS, low_Un, shr_Un8, show IntKind.i64.wrap (3 + 1) = 4 from by rw [i64_in _ (by omega)]; rfl]
  rw [M_crc_Seal_l0, if_neg (by omega)]
  simp [le4, ← BitVec.shiftRight_add]

def sealB (b : List (BitVec 8)) : List (BitVec 8) := b ++ le4 (sumB b)
theorem seal_eq (b : List (BitVec 8)) (hb : b.length ≤ 70000) : M_crc_Seal (b.map Yn) = some (if b.length > 65532 then ([], 3) else ((sealB b).map Yn, 0)) := by
  rw [M_crc_Seal]
  by_cases h : b.length > 65532
  · rw [if_pos (by rw [List.length_map]; omega), if_pos h]
  · rw [if_neg (by rw [List.length_map]; omega), if_neg h, cloneB_eq _ (by omega), bindS, Sum_eq _ (by omega), bindS, seal_l0 _ _ hb, bindS]; rfl
theorem seal_in (b : List (BitVec 8)) (hb : b.length ≤ 65532) : M_crc_Seal (b.map Yn) = some ((sealB b).map Yn, 0) := by
  rw [seal_eq b (by omega), if_neg (by omega)]
theorem bytesEq_l0 (a b : List (BitVec 8)) (hl : a.length = b.length) (hb : a.length < 4611686018427387904) : ∀ (t u : List (BitVec 8)) (k : Nat), a.drop k = t → b.drop k = u → M_slices_Equal_byte_byte_l0 (a.map Yn) (b.map Yn) (k : Int) = some (if t = u then .inr () else .inl false)
  | [], u, k, h1, h2 => by
    have := List.drop_eq_nil_iff.1 h1
    have h3 : u = [] := by rw [← h2]; exact List.drop_eq_nil_of_le (by omega)
    rw [M_slices_Equal_byte_byte_l0, if_neg (by rw [List.length_map]; omega), h3]; rfl
  | x :: t, [], k, h1, h2 => by
    have := List.drop_eq_nil_iff.1 h2
    have := (drop_at h1).1
    omega
  | x :: t, y :: u, k, h1, h2 => by
    have g1 := drop_at (show (a.map Yn).drop k = Yn x :: t.map Yn by rw [← List.map_drop, h1]; rfl)
    have g2 := drop_at (show (b.map Yn).drop k = Yn y :: u.map Yn by rw [← List.map_drop, h2]; rfl)
    have k1 := (drop_at h1).2.2
    have k2 := (drop_at h2).2.2
    have := g1.1; have := g2.1
    rw [List.length_map] at *
    rw [M_slices_Equal_byte_byte_l0, List.length_map, List.length_map, if_pos (by omega), if_pos (by omega), if_pos (by omega), g1.2.1, g2.2.1, i64_s (by omega), bytesEq_l0 a b hl hb t u (k + 1) k1 k2]
    by_cases hxy : x = y
    · subst hxy; simp
    · rw [if_pos (fun h => hxy (Yn_inj h))]; simp [hxy]
theorem bytesEq (a b : List (BitVec 8)) (hb : a.length < 4611686018427387904) : M_slices_Equal_byte_byte (a.map Yn) (b.map Yn) = some (decide (a = b)) := by
  rw [M_slices_Equal_byte_byte, List.length_map, List.length_map]
  by_cases hl : a.length = b.length
  · have := bytesEq_l0 a b hl hb a b 0 rfl rfl
    rw [show ((0 : Nat) : Int) = 0 from rfl] at this
    rw [if_neg (by omega), this]
    by_cases h : a = b
    · simp [h]
    · simp [h]
  · rw [if_pos (by omega), decide_eq_false (fun h => hl (by rw [h]))]

/-- What opening gives. -/
def openB (b : List (BitVec 8)) : List (BitVec 8) × Int :=
  if b.length > 65536 then ([], 3) else if b.length < 4 then ([], 5) else if sealB (b.take (b.length - 4)) = b then (b.take (b.length - 4), 0) else ([], 7)
theorem cut_n (b : List (BitVec 8)) (h : 4 ≤ b.length) (hb : b.length ≤ 70000) : cutOk none (some (IntKind.i64.wrap (((b.map Yn).length : Int) - 4))) (b.map Yn).length ∧ cut' (b.map Yn) none (some (IntKind.i64.wrap (((b.map Yn).length : Int) - 4))) = (b.take (b.length - 4)).map Yn := by
  rw [List.length_map, i64_in _ (by omega)]
  refine ⟨⟨?_, ?_, ?_⟩, ?_⟩
  · simp
  · show (0 : Int) ≤ (b.length : Int) - 4; omega
  · show (b.length : Int) - 4 ≤ (b.length : Int); omega
  · show ((b.map Yn).take ((b.length : Int) - 4).toNat).drop 0 = _
    rw [List.drop_zero, ← List.map_take]
    congr 2
    omega
theorem open_eq (b : List (BitVec 8)) (hb : b.length ≤ 70000) : M_crc_Open (b.map Yn) = some ((openB b).1.map Yn, (openB b).2) := by
  rw [M_crc_Open, openB]
  by_cases h1 : b.length > 65536
  · rw [if_pos (by rw [List.length_map]; omega), if_pos h1]; rfl
  rw [if_neg (by rw [List.length_map]; omega), if_neg h1]
  by_cases h2 : b.length < 4
  · rw [if_pos (by rw [List.length_map, i64_in _ (by omega)]; omega), if_pos h2]; rfl
  obtain ⟨c1, c2⟩ := cut_n b (by omega) hb
  rw [if_neg (by rw [List.length_map, i64_in _ (by omega)]; omega), if_neg h2, if_pos c1, bindS, c2, seal_in _ (by rw [List.length_take]; omega), bindS, if_neg (by simp)]
  rw [bytesEq _ _ (by simp [sealB, le4_len]; omega), bindS, bindS]
  by_cases h3 : sealB (b.take (b.length - 4)) = b
  · rw [if_neg (by simp [h3]), if_pos h3, if_pos c1, bindS, cloneB_eq _ (by rw [List.length_take]; omega), bindS]
  · rw [if_pos (by simp [h3]), if_neg h3]; rfl
theorem open_seal {b : List (BitVec 8)} (h : b.length ≤ 65532) : openB (sealB b) = (b, 0) := by
  have hl : (sealB b).length = b.length + 4 := by simp [sealB, le4_len]
  have ht : (sealB b).take ((sealB b).length - 4) = b := by
    rw [hl, Nat.add_sub_cancel, sealB, List.take_left']; rfl
  rw [openB, if_neg (by omega), if_neg (by omega), ht, if_pos rfl]
end Go.Proofs.Ytelobmiooldoaaa.Abs
