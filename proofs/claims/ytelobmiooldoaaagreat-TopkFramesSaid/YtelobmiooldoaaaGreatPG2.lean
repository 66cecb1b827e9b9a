/- Plain facts on frames: acknowledgements, sizes. Conditions: none. -/
import Derived.Test.YtelobmiooldoaaaGreatPG1
namespace Go.Proofs.YtelobmiooldoaaaGreat.Abs
open Go Go.RowKit Go.IntWalk Crc
set_option linter.unusedVariables false
set_option linter.unnecessarySimpa false
set_option linter.unusedSimpArgs false
set_option maxRecDepth 100000
set_option linter.unnecessarySimpa false
set_option linter.unusedSimpArgs false
set_option maxRecDepth 100000

set_option linter.unnecessarySimpa false
set_option linter.unusedSimpArgs false
set_option maxRecDepth 100000

theorem part_good (b : List Int) (k n : Nat) (hb : b.length ≤ 140737488355328) (h : k + n ≤ b.length) : M_thrum_frame_reader_part ⟨⟨b, (k : Int)⟩, false⟩ (n : Int) = some ((b.drop k).take n, b, ((k + n : Nat) : Int), false) := by
  rw [M_thrum_frame_reader_part]
  simp only [Bool.false_eq_true, if_false]
  rw [i64_in ((b.length : Int) - k) (by omega), if_neg (by omega), i64_in ((k : Int) + n) (by omega), i64_in _ (by omega), if_pos (by simp only [cutOk, Option.getD_some]; omega)]
  congr 1
  refine Prod.ext ?_ (Prod.ext rfl (Prod.ext (by simp) rfl))
  simp only [cut', Option.getD_some]
  rw [show ((k : Int) + n - n).toNat = k by omega, show ((k : Int) + n).toNat = k + n by omega]
  simp [List.drop_take]

theorem small_good (b : List Int) (k : Nat) {x : Int} {t : List Int} (hb : b.length ≤ 140737488355328) (hx : 0 ≤ x ∧ x ≤ 255) (h : b.drop k = x :: t) : M_thrum_frame_reader_small ⟨⟨b, (k : Int)⟩, false⟩ = some (x, b, ((k + 1 : Nat) : Int), false) := by
  have g := drop_at h
  have hp : M_thrum_frame_reader_part ⟨⟨b, (k : Int)⟩, false⟩ 1 = some ([x], b, ((k + 1 : Nat) : Int), false) := by
    have := part_good b k 1 hb (by omega)
    rw [h] at this; exact this
  rw [M_thrum_frame_reader_small, hp, bindS]
  show (if 0 ≤ (0 : Int) ∧ (0 : Int) < (([x] : List Int).length : Int) then some (IntKind.i64.wrap (at' [x] 0), b, ((k + 1 : Nat) : Int), false) else none) = _
  rw [if_pos (by simp), drop_at0, i64_in _ (by omega)]

theorem number_good (b : List Int) (k : Nat) (most n at' : Int) (hb : b.length ≤ 140737488355328) (hu : U8s b) (hk : k ≤ b.length) (h : getP b (k : Int) = (n, at', 0)) (hn : n ≤ most) : M_thrum_frame_reader_number ⟨⟨b, (k : Int)⟩, false⟩ most = some (n, b, at', false) := by
  rw [M_thrum_frame_reader_number]
  simp only
  rw [leb_Get_eq b k (by omega) hu (by omega), h, bindS, orB, orB, if_neg (by simp; omega)]

theorem must_eq (b : List Int) (k : Int) (bad ok : Bool) : M_thrum_frame_reader_must ⟨⟨b, k⟩, bad⟩ ok = some (b, k, bad || !ok) := by
  rw [M_thrum_frame_reader_must, orB]; simp

set_option linter.unusedSimpArgs false
set_option maxRecDepth 100000

/-- Numbers as bytes. -/
def bytesL (b : List Int) : List (BitVec 8) := b.map fun x => BitVec.ofNat 8 x.toNat
theorem bytesL_Yn {b : List Int} (h : U8s b) : (bytesL b).map Yn = b := by
  unfold bytesL
  rw [List.map_map]
  conv => rhs; rw [← List.map_id b]
  apply List.map_congr_left
  intro x hx
  have := h x hx
  simp only [Function.comp, Yn, id]
  simp; omega
theorem bytesL_len (b : List Int) : (bytesL b).length = b.length := by simp [bytesL]
theorem bytesL_of (bs : List (BitVec 8)) : bytesL (bs.map Yn) = bs := by
  unfold bytesL
  rw [List.map_map]
  conv => rhs; rw [← List.map_id bs]
  apply List.map_congr_left
  intro x hx
  simp [Yn]
theorem YnU (b : List (BitVec 8)) : U8s (b.map Yn) := by
  intro x hx
  obtain ⟨y, _, rfl⟩ := List.mem_map.1 hx
  have := Yn_lt y; omega

def sealI (b : List Int) : List Int := (sealB (bytesL b)).map Yn
def openI (b : List Int) : List Int × Int := ((openB (bytesL b)).1.map Yn, (openB (bytesL b)).2)
theorem sealI_eq {b : List Int} (hu : U8s b) (h : b.length ≤ 65532) : M_crc_Seal b = some (sealI b, 0) := by
  have := seal_in (bytesL b) (by rw [bytesL_len]; exact h)
  rwa [bytesL_Yn hu] at this
theorem openI_eq {b : List Int} (hu : U8s b) (h : b.length ≤ 70000) : M_crc_Open b = some (openI b) := by
  have := open_eq (bytesL b) (by rw [bytesL_len]; exact h)
  rwa [bytesL_Yn hu] at this
theorem openI_seal {b : List Int} (hu : U8s b) (h : b.length ≤ 65532) : openI (sealI b) = (b, 0) := by
  unfold openI sealI
  rw [bytesL_of, open_seal (by rw [bytesL_len]; exact h), bytesL_Yn hu]
theorem sealI_len (b : List Int) : (sealI b).length = b.length + 4 := by simp [sealI, sealB, le4_len, bytesL_len]
theorem sealI_u8 (b : List Int) : U8s (sealI b) := YnU _
theorem and1 {x : Int} (h : 0 ≤ x) (hx : x ≤ 18446744073709551615) : bAnd .u64 x 1 = x % 2 := by
  unfold bAnd
  have e : IntKind.u64.bits = 64 := rfl
  rw [e, BitVec.toNat_and, BitVec.toNat_ofInt, BitVec.toNat_ofInt, IntKind.wrap_u64]
  have e1 : (x % ((2 ^ 64 : Nat) : Int)).toNat = x.toNat := by omega
  have e2 : ((1 : Int) % ((2 ^ 64 : Nat) : Int)).toNat = 1 := by decide
  rw [e1, e2, Nat.and_one_is_mod]
  omega
set_option linter.unusedSimpArgs false
set_option maxRecDepth 100000

def zigP (x : Int) : Int := if 0 ≤ x then 2 * x else -2 * x - 1
def zagP (n : Int) : Int := if n % 2 = 0 then n / 2 else -(n / 2) - 1
theorem zag_zig (x : Int) : zagP (zigP x) = x := by unfold zagP zigP; repeat' split <;> omega
def I64 (x : Int) : Prop := -9223372036854775808 ≤ x ∧ x ≤ 9223372036854775807
theorem zig_u64 {x : Int} (h : I64 x) : 0 ≤ zigP x ∧ zigP x ≤ 18446744073709551615 := by unfold I64 at h; unfold zigP; split <;> omega
theorem xor_ones64 {a : Int} (h0 : 0 ≤ a) (h1 : a ≤ 18446744073709551615) : bXor .u64 a 18446744073709551615 = 18446744073709551615 - a := by
  unfold bXor
  have e : IntKind.u64.bits = 64 := rfl
  have e1 : BitVec.ofInt 64 18446744073709551615 = BitVec.allOnes 64 := by decide
  rw [e, e1, BitVec.xor_allOnes, BitVec.toNat_not, BitVec.toNat_ofInt, IntKind.wrap_u64]
  have e2 : (a % ((2 ^ 64 : Nat) : Int)).toNat = a.toNat := by omega
  rw [e2]; omega
theorem xor_0 {a : Int} (h0 : 0 ≤ a) (h1 : a ≤ 18446744073709551615) : bXor .u64 a 0 = a := by
  unfold bXor
  have e : IntKind.u64.bits = 64 := rfl
  have e1 : BitVec.ofInt 64 0 = 0#64 := by decide
  rw [e, e1, BitVec.xor_zero, BitVec.toNat_ofInt, IntKind.wrap_u64]
  omega
theorem xor_m1 {a : Int} (h0 : 0 ≤ a) (h1 : a ≤ 9223372036854775807) : bXor .i64 a (-1) = -1 - a := by
  unfold bXor
  have e : IntKind.i64.bits = 64 := rfl
  have e1 : BitVec.ofInt 64 (-1) = BitVec.allOnes 64 := by decide
  rw [e, e1, BitVec.xor_allOnes, BitVec.toNat_not, BitVec.toNat_ofInt, IntKind.wrap_i64]
  have e2 : (a % ((2 ^ 64 : Nat) : Int)).toNat = a.toNat := by omega
  rw [e2]; omega
theorem xor_i0 {a : Int} (h0 : 0 ≤ a) (h1 : a ≤ 9223372036854775807) : bXor .i64 a 0 = a := by
  unfold bXor
  have e : IntKind.i64.bits = 64 := rfl
  have e1 : BitVec.ofInt 64 0 = 0#64 := by decide
  rw [e, e1, BitVec.xor_zero, BitVec.toNat_ofInt, IntKind.wrap_i64]
  omega
theorem Zig_eq {x : Int} (h : I64 x) : M_leb_Zig x = some (zigP x) := by
  unfold I64 at h
  unfold M_leb_Zig
  congr 1
  have e1 : sShl .i64 x 1 = IntKind.i64.wrap (2 * x) := by
    unfold sShl
    rw [show min (1 : Int).toNat IntKind.i64.bits = 1 from rfl, Int.pow_succ, Int.pow_zero, Int.one_mul, Int.mul_comm]
  have e2 : sShr .i64 x 63 = x / 9223372036854775808 := by
    unfold sShr
    rw [show min (63 : Int).toNat IntKind.i64.bits = 63 from rfl, show (2 : Int) ^ 63 = 9223372036854775808 from rfl, Int.fdiv_eq_ediv_of_nonneg _ (by omega)]
  rw [e1, e2]
  unfold zigP
  by_cases h0 : 0 ≤ x
  · have e3 : IntKind.u64.wrap (IntKind.i64.wrap (2 * x)) = 2 * x := by rw [IntKind.wrap_u64, IntKind.wrap_i64]; omega
    have e4 : IntKind.u64.wrap (x / 9223372036854775808) = 0 := by rw [IntKind.wrap_u64]; omega
    rw [e3, e4, if_pos h0, xor_0 (by omega) (by omega)]
  · have e3 : IntKind.u64.wrap (IntKind.i64.wrap (2 * x)) = 2 * x + 18446744073709551616 := by rw [IntKind.wrap_u64, IntKind.wrap_i64]; omega
    have e4 : IntKind.u64.wrap (x / 9223372036854775808) = 18446744073709551615 := by rw [IntKind.wrap_u64]; omega
    rw [e3, e4, if_neg h0, xor_ones64 (by omega) (by omega)]; omega
theorem Zag_eq {n : Int} (h0 : 0 ≤ n) (h1 : n ≤ 18446744073709551615) : M_leb_Zag n = some (zagP n) := by
  unfold M_leb_Zag
  congr 1
  have e1 : sShr .u64 n 1 = n / 2 := by
    unfold sShr
    rw [show min (1 : Int).toNat IntKind.u64.bits = 1 from rfl, Int.pow_succ, Int.pow_zero, Int.one_mul, Int.fdiv_eq_ediv_of_nonneg _ (by omega)]
  rw [e1, and1 h0 h1]
  have e2 : IntKind.i64.wrap (n / 2) = n / 2 := by rw [i64_in _ (by omega)]
  have e3 : IntKind.i64.wrap (n % 2) = n % 2 := by rw [i64_in _ (by omega)]
  rw [e2, e3]
  unfold zagP
  by_cases h : n % 2 = 0
  · rw [if_pos h, h]
    exact xor_i0 (by omega) (by omega)
  · have : n % 2 = 1 := by omega
    rw [if_neg h, this, show IntKind.i64.wrap (0 - 1) = -1 from rfl, xor_m1 (by omega) (by omega)]; omega
/-- Signed codes. -/
def sigB (x : List Int) : List Int := x.flatMap fun n => lebP (zigP n)
theorem sigB_len : ∀ (x : List Int), (∀ n ∈ x, I64 n) → (sigB x).length ≤ 10 * x.length
  | [], _ => by simp [sigB]
  | n :: x, h => by
    have h1 := lebP_le (zigP n) (zig_u64 (h n (by simp))).2
    have h2 := sigB_len x fun m hm => h m (by simp [hm])
    unfold sigB at h2 ⊢
    rw [List.flatMap_cons, List.length_append, List.length_cons]; omega
theorem Signed_l0 (ns : List Int) (hn : ns.length ≤ 4611686018427387904) (hi : ∀ n ∈ ns, I64 n) : ∀ (t : List Int) (k : Nat) (b : List Int), ns.drop k = t → b.length + (sigB t).length ≤ 140737488355328 → M_leb_Signed_l0 ns (k : Int) b = some (b ++ sigB t)
  | [], k, b, h, hb => by rw [M_leb_Signed_l0, if_neg (drop_end h)]; simp [sigB]
  | x :: t, k, b, h, hb => by
    obtain ⟨h1, h2, h3⟩ := drop_at h
    have hx : I64 x := hi x (by have : x ∈ ns.drop k := by rw [h]; simp
                                exact List.mem_of_mem_drop this)
    have hs : sigB (x :: t) = lebP (zigP x) ++ sigB t := by simp [sigB]
    rw [hs, List.length_append] at hb
    rw [M_leb_Signed_l0, if_pos h1, if_pos ⟨by omega, h1⟩, h2, Zig_eq hx, bindS, leb_put_eq _ _ (by omega), bindS, i64_s (by omega), Signed_l0 ns hn hi t (k + 1) _ h3 (by rw [List.length_append]; omega), hs, List.append_assoc]
theorem Signed_eq (b ns : List Int) (hn : ns.length ≤ 4611686018427387904) (hi : ∀ n ∈ ns, I64 n) (hb : b.length + (sigB ns).length ≤ 140737488355328) : M_leb_Signed b ns = some (b ++ sigB ns) := by
  unfold M_leb_Signed
  rw [clone_eq b (by omega), bindS, show M_leb_Signed_l0 ns 0 b = _ from Signed_l0 ns hn hi ns 0 b rfl hb, bindS]
theorem sigB_u8 (x : List Int) : U8s (sigB x) := by
  intro y hy
  obtain ⟨n, _, hn⟩ := List.mem_flatMap.1 hy
  exact lebP_u8 _ (zigP n) (Nat.le_refl _) y hn
end Go.Proofs.YtelobmiooldoaaaGreat.Abs
