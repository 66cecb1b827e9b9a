/- Plain facts on frames: acknowledgements, sizes. Conditions: none. -/
import Derived.Test.YtelobmiooldoaaaGreatPG1
namespace Go.Proofs.YtelobmiooldoaaaGreat.Abs
open Go Go.RowKit Go.IntWalk Crc
set_option linter.unusedVariables false
set_option linter.unnecessarySimpa false
set_option linter.unusedSimpArgs false
set_option maxRecDepth 100000
set_option linter.unnecessarySimpa false
set_option linter.unusedSimpArgs false
set_option maxRecDepth 100000

theorem ok_bools {B : Nat} {x : D} (h : (Ty.lst B .bool).ok x) : ∃ l : List Bool, x = .lst (l.map D.bool) ∧ l.length * B ≤ 140737488351232 ∧ ∀ n ∈ l, True :=
  ok_list (fun y hy => by obtain ⟨b, rfl⟩ := ok_bool hy; exact ⟨b, rfl, trivial⟩) h

theorem zero_fit : FitS zeroS := ⟨by simp [zeroS], by simp [zeroS], by simp [zeroS], by simp [zeroS], by simp [zeroS]⟩
def ackF (a b : Int) : T_api_Frame := ⟨2, a, b, zeroS⟩
def ackT (a b : Int) : List Int := [1, 2] ++ [a, b].flatMap lebP

theorem ackT_u8 {a b : Int} (ha : 0 ≤ a) (hb : 0 ≤ b) : U8s (ackT a b) := by
  unfold ackT
  refine U8s_app (by intro x hx; simp at hx; omega) ?_
  simp only [List.flatMap_cons, List.flatMap_nil, List.append_nil]
  exact U8s_app (lebP_u8 _ _ (Nat.le_refl _)) (lebP_u8 _ _ (Nat.le_refl _))
theorem ackT_len {a b : Int} (ha : a ≤ 18446744073709551615) (hb : b ≤ 18446744073709551615) : (ackT a b).length ≤ 22 := by
  have := lebP_le a ha
  have := lebP_le b hb
  simp [ackT]; omega

theorem write_ack {a b : Int} (ha : 0 ≤ a ∧ a < 64) (hb : 0 ≤ b ∧ b ≤ 1073741824) : ∃ bs : List (BitVec 8), ackT a b = bs.map Yn ∧ bs.length ≤ 22 ∧ M_frame_Write (ackF a b) = some ((sealB bs).map Yn, 0) := by
  obtain ⟨bs, hbs⟩ := bytes_of (ackT_u8 ha.1 hb.1)
  have hl := ackT_len (a := a) (b := b) (by omega) (by omega)
  have hlb : bs.length ≤ 22 := by rw [hbs] at hl; simpa using hl
  refine ⟨bs, hbs, hlb, ?_⟩
  rw [M_frame_Write, fCheck_eq (f := ackF a b) zero_fit, bindS, if_pos (show frameOk (ackF a b) from ⟨⟨ha.1, ha.2, hb.1, hb.2⟩, .inr ⟨rfl, rfl⟩⟩), if_neg (by simp)]
  show (M_leb_Put [1, IntKind.u8.wrap 2] [IntKind.u64.wrap a, IntKind.u64.wrap b] >>= _) = _
  rw [u64_in _ (by omega), u64_in b (by omega), leb_Put_eq _ _ (by simp) (by
    have := flat_lebP_le [a, b] (by intro n hn; simp at hn; omega)
    simp only [List.length_cons, List.length_nil] at this ⊢; omega), bindS, if_neg (by simp [ackF])]
  rw [show ([1, IntKind.u8.wrap 2] : List Int) ++ [a, b].flatMap lebP = bs.map Yn from hbs, seal_in bs (by omega)]; rfl

theorem lebP_300 : lebP 300 = [172, 2] := by
  rw [lebP, if_pos (by omega), shr7, lebP_small (by omega)]; rfl

theorem sealB_len (bs : List (BitVec 8)) : (sealB bs).length = bs.length + 4 := by simp [sealB, le4_len]
theorem sealB_take (bs : List (BitVec 8)) : (sealB bs).take bs.length = bs := by simp [sealB]

theorem live7_eq : M_thrumlaw07_live = some true := by
  obtain ⟨bs, h1, h2, h3⟩ := write_ack (a := 3) (b := 300) (by omega) (by omega)
  have h4 : ackT 3 300 = [1, 2, 3, 172, 2] := by simp [ackT, lebP_300, lebP_small, u8_in]
  rw [h4] at h1
  have h5 : bs.length = 5 := by have := congrArg List.length h1; simpa using this.symm
  rw [M_thrumlaw07_live, M_frame_Ack, bindS]
  show (M_frame_Write (ackF 3 300) >>= _) = _
  rw [h3, bindS]
  simp only [if_pos, List.length_map, sealB_len, h5]
  have hc : cutOk none (some 5) (5 + 4) := by simp [cutOk]
  rw [bindS, if_pos (by decide), if_pos hc, cut_to]
  have h6 : List.take (5 : Int).toNat ((sealB bs).map Yn) = [1, 2, 3, 172, 2] := by
    rw [← List.map_take, h1]
    congr 1
    have := sealB_take bs
    rw [h5] at this; exact this
  rw [h6, Same_eq _ _ (by intro x hx; simp at hx; omega) (by intro x hx; simp at hx; omega)]
  rfl

theorem Big_eq (s : T_api_Sent) : M_thrumref07_Big s = some (decide ((s.F_L.length : Int) > 500) || decide ((s.F_V.length : Int) > 500) || decide ((s.F_Lev.length : Int) > 500) || decide ((s.F_Neg.length : Int) > 500)) := by
  rw [M_thrumref07_Big]
  simp only [orB, bindS, Bool.decide_eq_true]

set_option linter.unnecessarySimpa false
set_option linter.unusedSimpArgs false
set_option maxRecDepth 100000

set_option linter.unusedSimpArgs false
set_option maxRecDepth 100000

/-- Numbers as bytes. -/
def bytesL (b : List Int) : List (BitVec 8) := b.map fun x => BitVec.ofNat 8 x.toNat
theorem bytesL_Yn {b : List Int} (h : U8s b) : (bytesL b).map Yn = b := by
  unfold bytesL
  rw [List.map_map]
  conv => rhs; rw [← List.map_id b]
  apply List.map_congr_left
  intro x hx
  have := h x hx
  simp only [Function.comp, Yn, id]
  simp; omega
theorem bytesL_len (b : List Int) : (bytesL b).length = b.length := by simp [bytesL]
theorem YnU (b : List (BitVec 8)) : U8s (b.map Yn) := by
  intro x hx
  obtain ⟨y, _, rfl⟩ := List.mem_map.1 hx
  have := Yn_lt y; omega

def sealI (b : List Int) : List Int := (sealB (bytesL b)).map Yn
theorem sealI_eq {b : List Int} (hu : U8s b) (h : b.length ≤ 65532) : M_crc_Seal b = some (sealI b, 0) := by
  have := seal_in (bytesL b) (by rw [bytesL_len]; exact h)
  rwa [bytesL_Yn hu] at this
theorem sealI_u8 (b : List Int) : U8s (sealI b) := YnU _
theorem and1 {x : Int} (h : 0 ≤ x) (hx : x ≤ 18446744073709551615) : bAnd .u64 x 1 = x % 2 := by
  unfold bAnd
  have e : IntKind.u64.bits = 64 := rfl
  rw [e, BitVec.toNat_and, BitVec.toNat_ofInt, BitVec.toNat_ofInt, IntKind.wrap_u64]
  have e1 : (x % ((2 ^ 64 : Nat) : Int)).toNat = x.toNat := by omega
  have e2 : ((1 : Int) % ((2 ^ 64 : Nat) : Int)).toNat = 1 := by decide
  rw [e1, e2, Nat.and_one_is_mod]
  omega
set_option linter.unusedSimpArgs false
set_option maxRecDepth 100000

def zigP (x : Int) : Int := if 0 ≤ x then 2 * x else -2 * x - 1
def I64 (x : Int) : Prop := -9223372036854775808 ≤ x ∧ x ≤ 9223372036854775807
theorem zig_u64 {x : Int} (h : I64 x) : 0 ≤ zigP x ∧ zigP x ≤ 18446744073709551615 := by unfold I64 at h; unfold zigP; split <;> omega
theorem xor_ones64 {a : Int} (h0 : 0 ≤ a) (h1 : a ≤ 18446744073709551615) : bXor .u64 a 18446744073709551615 = 18446744073709551615 - a := by
  unfold bXor
  have e : IntKind.u64.bits = 64 := rfl
  have e1 : BitVec.ofInt 64 18446744073709551615 = BitVec.allOnes 64 := by decide
  rw [e, e1, BitVec.xor_allOnes, BitVec.toNat_not, BitVec.toNat_ofInt, IntKind.wrap_u64]
  have e2 : (a % ((2 ^ 64 : Nat) : Int)).toNat = a.toNat := by omega
  rw [e2]; omega
theorem xor_0 {a : Int} (h0 : 0 ≤ a) (h1 : a ≤ 18446744073709551615) : bXor .u64 a 0 = a := by
  unfold bXor
  have e : IntKind.u64.bits = 64 := rfl
  have e1 : BitVec.ofInt 64 0 = 0#64 := by decide
  rw [e, e1, BitVec.xor_zero, BitVec.toNat_ofInt, IntKind.wrap_u64]
  omega
theorem Zig_eq {x : Int} (h : I64 x) : M_leb_Zig x = some (zigP x) := by
  unfold I64 at h
  unfold M_leb_Zig
  congr 1
  have e1 : sShl .i64 x 1 = IntKind.i64.wrap (2 * x) := by
    unfold sShl
    rw [show min (1 : Int).toNat IntKind.i64.bits = 1 from rfl, Int.pow_succ, Int.pow_zero, Int.one_mul, Int.mul_comm]
  have e2 : sShr .i64 x 63 = x / 9223372036854775808 := by
    unfold sShr
    rw [show min (63 : Int).toNat IntKind.i64.bits = 63 from rfl, show (2 : Int) ^ 63 = 9223372036854775808 from rfl, Int.fdiv_eq_ediv_of_nonneg _ (by omega)]
  rw [e1, e2]
  unfold zigP
  by_cases h0 : 0 ≤ x
  · have e3 : IntKind.u64.wrap (IntKind.i64.wrap (2 * x)) = 2 * x := by rw [IntKind.wrap_u64, IntKind.wrap_i64]; omega
    have e4 : IntKind.u64.wrap (x / 9223372036854775808) = 0 := by rw [IntKind.wrap_u64]; omega
    rw [e3, e4, if_pos h0, xor_0 (by omega) (by omega)]
  · have e3 : IntKind.u64.wrap (IntKind.i64.wrap (2 * x)) = 2 * x + 18446744073709551616 := by rw [IntKind.wrap_u64, IntKind.wrap_i64]; omega
    have e4 : IntKind.u64.wrap (x / 9223372036854775808) = 18446744073709551615 := by rw [IntKind.wrap_u64]; omega
    rw [e3, e4, if_neg h0, xor_ones64 (by omega) (by omega)]; omega
/-- Signed codes. -/
def sigB (x : List Int) : List Int := x.flatMap fun n => lebP (zigP n)
theorem sigB_len : ∀ (x : List Int), (∀ n ∈ x, I64 n) → (sigB x).length ≤ 10 * x.length
  | [], _ => by simp [sigB]
  | n :: x, h => by
    have h1 := lebP_le (zigP n) (zig_u64 (h n (by simp))).2
    have h2 := sigB_len x fun m hm => h m (by simp [hm])
    unfold sigB at h2 ⊢
    rw [List.flatMap_cons, List.length_append, List.length_cons]; omega
theorem Signed_l0 (ns : List Int) (hn : ns.length ≤ 4611686018427387904) (hi : ∀ n ∈ ns, I64 n) : ∀ (t : List Int) (k : Nat) (b : List Int), ns.drop k = t → b.length + (sigB t).length ≤ 140737488355328 → M_leb_Signed_l0 ns (k : Int) b = some (b ++ sigB t)
  | [], k, b, h, hb => by rw [M_leb_Signed_l0, if_neg (drop_end h)]; simp [sigB]
  | x :: t, k, b, h, hb => by
    obtain ⟨h1, h2, h3⟩ := drop_at h
    have hx : I64 x := hi x (by have : x ∈ ns.drop k := by rw [h]; simp
                                exact List.mem_of_mem_drop this)
    have hs : sigB (x :: t) = lebP (zigP x) ++ sigB t := by simp [sigB]
    rw [hs, List.length_append] at hb
    rw [M_leb_Signed_l0, if_pos h1, if_pos ⟨by omega, h1⟩, h2, Zig_eq hx, bindS, leb_put_eq _ _ (by omega), bindS, i64_s (by omega), Signed_l0 ns hn hi t (k + 1) _ h3 (by rw [List.length_append]; omega), hs, List.append_assoc]
theorem Signed_eq (b ns : List Int) (hn : ns.length ≤ 4611686018427387904) (hi : ∀ n ∈ ns, I64 n) (hb : b.length + (sigB ns).length ≤ 140737488355328) : M_leb_Signed b ns = some (b ++ sigB ns) := by
  unfold M_leb_Signed
  rw [clone_eq b (by omega), bindS, show M_leb_Signed_l0 ns 0 b = _ from Signed_l0 ns hn hi ns 0 b rfl hb, bindS]
theorem sigB_u8 (x : List Int) : U8s (sigB x) := by
  intro y hy
  obtain ⟨n, _, hn⟩ := List.mem_flatMap.1 hy
  exact lebP_u8 _ (zigP n) (Nat.le_refl _) y hn
end Go.Proofs.YtelobmiooldoaaaGreat.Abs
