/- Texts of lists, plainly. Conditions: none but that bytes are bytes, numbers of 64 bits. -/
import Derived.Test.YthhcgcaefjmekaaPS4
namespace Go.Proofs.Ythhcgcaefjmekaa.Abs
open Go Go.RowKit Go.IntWalk Crc
set_option linter.unusedVariables false
set_option linter.unusedSimpArgs false
set_option maxRecDepth 100000

def zigP (x : Int) : Int := if 0 ≤ x then 2 * x else -2 * x - 1
def zagP (n : Int) : Int := if n % 2 = 0 then n / 2 else -(n / 2) - 1
theorem zag_zig (x : Int) : zagP (zigP x) = x := by unfold zagP zigP; repeat' split <;> omega
theorem zig_zag {n : Int} (h : 0 ≤ n) : zigP (zagP n) = n := by unfold zagP zigP; repeat' split <;> omega
def I64 (x : Int) : Prop := -9223372036854775808 ≤ x ∧ x ≤ 9223372036854775807
theorem zig_u64 {x : Int} (h : I64 x) : 0 ≤ zigP x ∧ zigP x ≤ 18446744073709551615 := by unfold I64 at h; unfold zigP; split <;> omega
theorem zag_i64 {n : Int} (h : 0 ≤ n ∧ n ≤ 18446744073709551615) : I64 (zagP n) := by unfold I64 zagP; split <;> omega

theorem xor_ones64 {a : Int} (h0 : 0 ≤ a) (h1 : a ≤ 18446744073709551615) : bXor .u64 a 18446744073709551615 = 18446744073709551615 - a := by
  unfold bXor
  have e : IntKind.u64.bits = 64 := rfl
  have e1 : BitVec.ofInt 64 18446744073709551615 = BitVec.allOnes 64 := by decide
  rw [e, e1, BitVec.xor_allOnes, BitVec.toNat_not, BitVec.toNat_ofInt, IntKind.wrap_u64]
  have e2 : (a % ((2 ^ 64 : Nat) : Int)).toNat = a.toNat := by omega
  rw [e2]; omega
theorem xor_0 {a : Int} (h0 : 0 ≤ a) (h1 : a ≤ 18446744073709551615) : bXor .u64 a 0 = a := by
  unfold bXor
  have e : IntKind.u64.bits = 64 := rfl
  have e1 : BitVec.ofInt 64 0 = 0#64 := by decide
  rw [e, e1, BitVec.xor_zero, BitVec.toNat_ofInt, IntKind.wrap_u64]
  omega
theorem xor_m1 {a : Int} (h0 : 0 ≤ a) (h1 : a ≤ 9223372036854775807) : bXor .i64 a (-1) = -1 - a := by
  unfold bXor
  have e : IntKind.i64.bits = 64 := rfl
  have e1 : BitVec.ofInt 64 (-1) = BitVec.allOnes 64 := by decide
  rw [e, e1, BitVec.xor_allOnes, BitVec.toNat_not, BitVec.toNat_ofInt, IntKind.wrap_i64]
  have e2 : (a % ((2 ^ 64 : Nat) : Int)).toNat = a.toNat := by omega
  rw [e2]; omega
theorem xor_i0 {a : Int} (h0 : 0 ≤ a) (h1 : a ≤ 9223372036854775807) : bXor .i64 a 0 = a := by
  unfold bXor
  have e : IntKind.i64.bits = 64 := rfl
  have e1 : BitVec.ofInt 64 0 = 0#64 := by decide
  rw [e, e1, BitVec.xor_zero, BitVec.toNat_ofInt, IntKind.wrap_i64]
  omega
theorem Zig_eq {x : Int} (h : I64 x) : M_leb_Zig x = some (zigP x) := by
  unfold I64 at h
  unfold M_leb_Zig
  congr 1
  have e1 : sShl .i64 x 1 = IntKind.i64.wrap (2 * x) := by
    unfold sShl
    rw [show min (1 : Int).toNat IntKind.i64.bits = 1 from rfl, Int.pow_succ, Int.pow_zero, Int.one_mul, Int.mul_comm]
  have e2 : sShr .i64 x 63 = x / 9223372036854775808 := by
    unfold sShr
    rw [show min (63 : Int).toNat IntKind.i64.bits = 63 from rfl, show (2 : Int) ^ 63 = 9223372036854775808 from rfl, Int.fdiv_eq_ediv_of_nonneg _ (by omega)]
  rw [e1, e2]
  unfold zigP
  by_cases h0 : 0 ≤ x
  · have e3 : IntKind.u64.wrap (IntKind.i64.wrap (2 * x)) = 2 * x := by rw [IntKind.wrap_u64, IntKind.wrap_i64]; omega
    have e4 : IntKind.u64.wrap (x / 9223372036854775808) = 0 := by rw [IntKind.wrap_u64]; omega
    rw [e3, e4, if_pos h0, xor_0 (by omega) (by omega)]
  · have e3 : IntKind.u64.wrap (IntKind.i64.wrap (2 * x)) = 2 * x + 18446744073709551616 := by rw [IntKind.wrap_u64, IntKind.wrap_i64]; omega
    have e4 : IntKind.u64.wrap (x / 9223372036854775808) = 18446744073709551615 := by rw [IntKind.wrap_u64]; omega
    rw [e3, e4, if_neg h0, xor_ones64 (by omega) (by omega)]; omega
theorem refZig_eq {x : Int} (h : I64 x) : M_thrumref03_Zig x = some (zigP x) := by
  unfold I64 at h
  unfold M_thrumref03_Zig zigP
  by_cases h0 : 0 ≤ x
  · rw [if_neg (by omega), if_pos h0]
    congr 1
    simp only [IntKind.wrap_u64]; omega
  · rw [if_pos (by omega), if_neg h0]
    congr 1
    simp only [IntKind.wrap_u64, IntKind.wrap_i64]; omega
theorem Zag_eq {n : Int} (h0 : 0 ≤ n) (h1 : n ≤ 18446744073709551615) : M_leb_Zag n = some (zagP n) := by
  unfold M_leb_Zag
  congr 1
  have e1 : sShr .u64 n 1 = n / 2 := by
    unfold sShr
    rw [show min (1 : Int).toNat IntKind.u64.bits = 1 from rfl, Int.pow_succ, Int.pow_zero, Int.one_mul, Int.fdiv_eq_ediv_of_nonneg _ (by omega)]
  rw [e1, and1 h0 h1]
  have e2 : IntKind.i64.wrap (n / 2) = n / 2 := by rw [i64_in _ (by omega)]
  have e3 : IntKind.i64.wrap (n % 2) = n % 2 := by rw [i64_in _ (by omega)]
  rw [e2, e3]
  unfold zagP
  by_cases h : n % 2 = 0
  · rw [if_pos h, h]
    exact xor_i0 (by omega) (by omega)
  · have : n % 2 = 1 := by omega
    rw [if_neg h, this, show IntKind.i64.wrap (0 - 1) = -1 from rfl, xor_m1 (by omega) (by omega)]; omega
theorem refZag_eq {n : Int} (h0 : 0 ≤ n) (h1 : n ≤ 18446744073709551615) : M_thrumref03_Zag n = some (zagP n) := by
  unfold M_thrumref03_Zag zagP
  rw [Int.tmod_eq_emod_of_nonneg h0, Int.tdiv_eq_ediv_of_nonneg h0]
  by_cases h : n % 2 = 0
  · rw [if_neg (by omega), if_pos h]
    congr 1
    simp only [IntKind.wrap_u64, IntKind.wrap_i64]; omega
  · rw [if_pos (by omega), if_neg h]
    congr 1
    simp only [IntKind.wrap_u64, IntKind.wrap_i64]; omega

/-- Signed codes. -/
def sigB (x : List Int) : List Int := x.flatMap fun n => lebP (zigP n)
theorem sigB_len : ∀ (x : List Int), (∀ n ∈ x, I64 n) → (sigB x).length ≤ 10 * x.length
  | [], _ => by simp [sigB]
  | n :: x, h => by
    have h1 := lebP_le (zigP n) (zig_u64 (h n (by simp))).2
    have h2 := sigB_len x fun m hm => h m (by simp [hm])
    unfold sigB at h2 ⊢
    rw [List.flatMap_cons, List.length_append, List.length_cons]; omega
theorem Signed_l0 (ns : List Int) (hn : ns.length ≤ 4611686018427387904) (hi : ∀ n ∈ ns, I64 n) : ∀ (t : List Int) (k : Nat) (b : List Int), ns.drop k = t → b.length + (sigB t).length ≤ 140737488355328 → M_leb_Signed_l0 ns (k : Int) b = some (b ++ sigB t)
  | [], k, b, h, hb => by rw [M_leb_Signed_l0, if_neg (drop_end h)]; simp [sigB]
  | x :: t, k, b, h, hb => by
    obtain ⟨h1, h2, h3⟩ := drop_at h
    have hx : I64 x := hi x (by have : x ∈ ns.drop k := by rw [h]; simp
                                exact List.mem_of_mem_drop this)
    have hs : sigB (x :: t) = lebP (zigP x) ++ sigB t := by simp [sigB]
    rw [hs, List.length_append] at hb
    rw [M_leb_Signed_l0, if_pos h1, if_pos ⟨by omega, h1⟩, h2, Zig_eq hx, bindS, leb_put_eq _ _ (by omega), bindS, i64_s (by omega), Signed_l0 ns hn hi t (k + 1) _ h3 (by rw [List.length_append]; omega), hs, List.append_assoc]
theorem Signed_eq (b ns : List Int) (hn : ns.length ≤ 4611686018427387904) (hi : ∀ n ∈ ns, I64 n) (hb : b.length + (sigB ns).length ≤ 140737488355328) : M_leb_Signed b ns = some (b ++ sigB ns) := by
  unfold M_leb_Signed
  rw [clone_eq b (by omega), bindS, show M_leb_Signed_l0 ns 0 b = _ from Signed_l0 ns hn hi ns 0 b rfl hb, bindS]
theorem refSigned_l0 (ns : List Int) (hn : ns.length ≤ 4611686018427387904) (hi : ∀ n ∈ ns, I64 n) : ∀ (t : List Int) (k : Nat) (b : List Int), ns.drop k = t → b.length + (sigB t).length ≤ 140737488355328 → M_thrumref03_Signed_l0 ns (k : Int) b = some (b ++ sigB t)
  | [], k, b, h, hb => by rw [M_thrumref03_Signed_l0, if_neg (drop_end h)]; simp [sigB]
  | x :: t, k, b, h, hb => by
    obtain ⟨h1, h2, h3⟩ := drop_at h
    have hx : I64 x := hi x (by have : x ∈ ns.drop k := by rw [h]; simp
                                exact List.mem_of_mem_drop this)
    have hs : sigB (x :: t) = lebP (zigP x) ++ sigB t := by simp [sigB]
    have hz := zig_u64 hx
    rw [hs, List.length_append] at hb
    rw [M_thrumref03_Signed_l0, if_pos h1, if_pos ⟨by omega, h1⟩, h2, refZig_eq hx, bindS, code_eq _ _ (Nat.le_refl _) hz.1 hz.2, bindS, if_pos (room1 (by rw [List.length_append]; omega)), i64_s (by omega), refSigned_l0 ns hn hi t (k + 1) _ h3 (by rw [List.length_append]; omega), hs, List.append_assoc]
theorem refSigned_eq (b ns : List Int) (hn : ns.length ≤ 4611686018427387904) (hi : ∀ n ∈ ns, I64 n) (hb : b.length + (sigB ns).length ≤ 140737488355328) : M_thrumref03_Signed b ns = some (b ++ sigB ns) := by
  unfold M_thrumref03_Signed
  rw [if_pos (room1 (by omega)), show M_thrumref03_Signed_l0 ns 0 b = _ from refSigned_l0 ns hn hi ns 0 b rfl hb, bindS]

/-- Lists laid. -/
def oneB (x : List Int) : List Int := lebP (x.length : Int) ++ sigB x
def layB (n : Int) (l : List (List Int)) : List Int := lebP n ++ lebP (l.length : Int) ++ l.flatMap oneB
def layP (n : Int) (l : List (List Int)) : List Int × Int :=
  if n < 0 then ([], 1) else if l.length > 8 ∨ ¬ ∀ x ∈ l, x.length ≤ 4096 then ([], 3) else (layB n l, 0)
theorem oneB_len {x : List Int} (hx : x.length ≤ 5000) (hi : ∀ n ∈ x, I64 n) : (oneB x).length ≤ 60000 := by
  have h1 := lebP_le (x.length : Int) (by omega)
  have h2 := sigB_len x hi
  unfold oneB
  rw [List.length_append]; omega
theorem flat_oneB_len : ∀ (l : List (List Int)), (∀ x ∈ l, x.length ≤ 5000 ∧ ∀ n ∈ x, I64 n) → (l.flatMap oneB).length ≤ 60000 * l.length
  | [], _ => by simp
  | x :: l, h => by
    have h1 := oneB_len (h x (by simp)).1 (h x (by simp)).2
    have h2 := flat_oneB_len l fun y hy => h y (by simp [hy])
    rw [List.flatMap_cons, List.length_append, List.length_cons]; omega

theorem IndexFuncL_ok (cells : List (List Int)) (hl : cells.length ≤ 1099511627776) : ∀ (t : List (List Int)) (k : Nat), cells.drop k = t →
    ∃ e, M_slices_IndexFunc_int64_int64_store_Lay_1_l0 cells (k : Int) = some e ∧ ((∀ c ∈ t, c.length ≤ 4096) → e = .inr ()) ∧ (¬ (∀ c ∈ t, c.length ≤ 4096) → ∃ i : Int, 0 ≤ i ∧ e = .inl i)
  | [], k, h => by
    rw [M_slices_IndexFunc_int64_int64_store_Lay_1_l0, if_neg (drop_end h)]
    exact ⟨_, rfl, fun _ => rfl, fun h => absurd (by simp) h⟩
  | c :: t, k, h => by
    obtain ⟨h1, h2, h3⟩ := drop_at h
    rw [M_slices_IndexFunc_int64_int64_store_Lay_1_l0, if_pos h1, if_pos ⟨by omega, h1⟩, h2, M_store_Lay_1, bindS]
    by_cases hc : (c.length : Int) > 4096
    · rw [if_pos (by simpa using hc)]
      exact ⟨_, rfl, fun h => by have := h c (by simp); omega, fun _ => ⟨k, by omega, rfl⟩⟩
    · rw [if_neg (by simpa using hc), i64_s (by omega)]
      obtain ⟨e, g1, g2, g3⟩ := IndexFuncL_ok cells hl t (k + 1) h3
      refine ⟨e, g1, fun h => g2 fun x hx => h x (by simp [hx]), fun h => g3 fun h' => h fun x hx => ?_⟩
      rcases List.mem_cons.1 hx with rfl | hx
      · omega
      · exact h' x hx
theorem ContainsL_ok (cells : List (List Int)) (hl : cells.length ≤ 1099511627776) : M_slices_ContainsFunc_int64_int64_store_Lay_1 cells = some (decide (¬ ∀ c ∈ cells, c.length ≤ 4096)) := by
  obtain ⟨e, g1, g2, g3⟩ := IndexFuncL_ok cells hl cells 0 rfl
  have g1' : M_slices_IndexFunc_int64_int64_store_Lay_1_l0 cells 0 = some e := g1
  unfold M_slices_ContainsFunc_int64_int64_store_Lay_1 M_slices_IndexFunc_int64_int64_store_Lay_1
  rw [g1', bindS]
  by_cases h : ∀ c ∈ cells, c.length ≤ 4096
  · rw [g2 h]
    simp only [bindS]
    rw [decide_eq_false (by omega), decide_eq_false (fun hn => hn h)]
  · obtain ⟨i, hi, rfl⟩ := g3 h
    simp only [bindS]
    rw [decide_eq_true (by omega), decide_eq_true h]

theorem Lay_l0 (l : List (List Int)) (hl : l.length ≤ 20) (hx : ∀ x ∈ l, x.length ≤ 5000 ∧ ∀ n ∈ x, I64 n) : ∀ (t : List (List Int)) (k : Nat) (b : List Int), l.drop k = t → b.length + (t.flatMap oneB).length ≤ 140737488300000 → M_store_Lay_l0 l (k : Int) b = some (b ++ t.flatMap oneB)
  | [], k, b, h, hb => by rw [M_store_Lay_l0, if_neg (drop_end h)]; simp
  | x :: t, k, b, h, hb => by
    obtain ⟨h1, h2, h3⟩ := drop_at h
    have hm : x ∈ l := by
      have : x ∈ l.drop k := by rw [h]; simp
      exact List.mem_of_mem_drop this
    obtain ⟨g1, g2⟩ := hx x hm
    have hs : (x :: t).flatMap oneB = lebP (x.length : Int) ++ sigB x ++ t.flatMap oneB := by simp [oneB]
    rw [hs, List.length_append, List.length_append] at hb
    have eu : IntKind.u64.wrap (x.length : Int) = (x.length : Int) := by rw [IntKind.wrap_u64]; omega
    rw [M_store_Lay_l0, if_pos h1, if_pos ⟨by omega, h1⟩, h2, eu, leb_Put_eq _ _ (by simp) (by simp only [List.flatMap_cons, List.flatMap_nil, List.append_nil]; omega), bindS]
    simp only [List.flatMap_cons, List.flatMap_nil, List.append_nil]
    rw [Signed_eq _ _ (by omega) g2 (by rw [List.length_append]; omega), bindS, i64_s (by omega), Lay_l0 l hl hx t (k + 1) _ h3 (by rw [List.length_append, List.length_append]; omega)]
    simp [oneB]
theorem Lay_eq (n : Int) (l : List (List Int)) (hn : I64 n) (hl : l.length ≤ 20) (hx : ∀ x ∈ l, x.length ≤ 5000 ∧ ∀ n ∈ x, I64 n) : M_store_Lay n l = some (layP n l) := by
  unfold I64 at hn
  have hf := flat_oneB_len l hx
  unfold M_store_Lay layP
  by_cases h0 : n < 0
  · rw [if_pos h0, if_pos h0]
  rw [if_neg h0, if_neg h0, ContainsL_ok _ (by omega), bindS, orB]
  by_cases h1 : l.length > 8 ∨ ¬ ∀ x ∈ l, x.length ≤ 4096
  · rw [if_pos h1, if_pos]
    rcases h1 with h1 | h1
    · simp; omega
    · simp only [Bool.or_eq_true, decide_eq_true_eq]; exact .inr h1
  · have h2 : (decide ((l.length : Int) > 8) || decide (¬ ∀ c ∈ l, c.length ≤ 4096)) = false := by
      rw [decide_eq_false (by omega), decide_eq_false (fun h => h1 (.inr h))]; rfl
    rw [if_neg h1, h2, if_neg (by simp)]
    have e1 : IntKind.u64.wrap n = n := by rw [IntKind.wrap_u64]; omega
    have e2 : IntKind.u64.wrap (l.length : Int) = (l.length : Int) := by rw [IntKind.wrap_u64]; omega
    have l1 := lebP_le n (by omega)
    have l2 := lebP_le (l.length : Int) (by omega)
    rw [e1, e2, leb_Put_eq _ _ (by simp) (by simp only [List.flatMap_cons, List.flatMap_nil, List.append_nil, List.length_append, List.length_nil]; omega), bindS]
    simp only [List.flatMap_cons, List.flatMap_nil, List.append_nil, List.nil_append]
    rw [show M_store_Lay_l0 l 0 (lebP n ++ lebP (l.length : Int)) = _ from Lay_l0 l hl hx l 0 _ rfl (by rw [List.length_append]; omega), bindS]
    rfl
theorem refLay_l0 (l : List (List Int)) (hl : l.length ≤ 20) (hx : ∀ x ∈ l, x.length ≤ 5000 ∧ ∀ n ∈ x, I64 n) : ∀ (t : List (List Int)) (k : Nat) (b : List Int), l.drop k = t → b.length + (t.flatMap oneB).length ≤ 140737488300000 →
    M_thrumref20_Lay_l0 l (k : Int) b = some (if ∀ x ∈ t, x.length ≤ 4096 then .inr (b ++ t.flatMap oneB) else .inl ([], 3))
  | [], k, b, h, hb => by rw [M_thrumref20_Lay_l0, if_neg (drop_end h)]; simp
  | x :: t, k, b, h, hb => by
    obtain ⟨h1, h2, h3⟩ := drop_at h
    have hm : x ∈ l := by
      have : x ∈ l.drop k := by rw [h]; simp
      exact List.mem_of_mem_drop this
    obtain ⟨g1, g2⟩ := hx x hm
    have hs : (x :: t).flatMap oneB = lebP (x.length : Int) ++ sigB x ++ t.flatMap oneB := by simp [oneB]
    rw [hs, List.length_append, List.length_append] at hb
    have eu : IntKind.u64.wrap (x.length : Int) = (x.length : Int) := by rw [IntKind.wrap_u64]; omega
    rw [M_thrumref20_Lay_l0, if_pos h1, if_pos ⟨by omega, h1⟩, h2, eu]
    by_cases hc : (x.length : Int) > 4096
    · rw [if_pos hc, if_neg (fun h => by have := h x (by simp); omega)]
    · rw [if_neg hc, refPut_eq _ _ (by simp) (fun n hn => by simp at hn; omega) (by simp only [List.flatMap_cons, List.flatMap_nil, List.append_nil]; omega), bindS]
      simp only [List.flatMap_cons, List.flatMap_nil, List.append_nil]
      rw [refSigned_eq _ _ (by omega) g2 (by rw [List.length_append]; omega), bindS, i64_s (by omega), refLay_l0 l hl hx t (k + 1) _ h3 (by rw [List.length_append, List.length_append]; omega)]
      by_cases ht : ∀ y ∈ t, y.length ≤ 4096
      · rw [if_pos ht, if_pos (fun y hy => by
          rcases List.mem_cons.1 hy with rfl | hy
          · omega
          · exact ht y hy)]
        simp [oneB]
      · rw [if_neg ht, if_neg (fun h => ht fun y hy => h y (by simp [hy]))]
theorem refLay_eq (n : Int) (l : List (List Int)) (hn : I64 n) (hl : l.length ≤ 20) (hx : ∀ x ∈ l, x.length ≤ 5000 ∧ ∀ n ∈ x, I64 n) : M_thrumref20_Lay n l = some (layP n l) := by
  unfold I64 at hn
  have hf := flat_oneB_len l hx
  unfold M_thrumref20_Lay layP
  by_cases h0 : n < 0
  · rw [if_pos h0, if_pos h0]
  rw [if_neg h0, if_neg h0]
  by_cases h1 : l.length > 8
  · rw [if_pos (by omega), if_pos (.inl h1)]
  · have e1 : IntKind.u64.wrap n = n := by rw [IntKind.wrap_u64]; omega
    have e2 : IntKind.u64.wrap (l.length : Int) = (l.length : Int) := by rw [IntKind.wrap_u64]; omega
    have l1 := lebP_le n (by omega)
    have l2 := lebP_le (l.length : Int) (by omega)
    rw [if_neg (by omega), e1, e2, refPut_eq _ _ (by simp) (fun m hm => by simp at hm; omega) (by simp only [List.flatMap_cons, List.flatMap_nil, List.append_nil, List.length_append, List.length_nil]; omega), bindS]
    simp only [List.flatMap_cons, List.flatMap_nil, List.append_nil, List.nil_append]
    rw [show M_thrumref20_Lay_l0 l 0 (lebP n ++ lebP (l.length : Int)) = _ from refLay_l0 l hl hx l 0 _ rfl (by rw [List.length_append]; omega), bindS]
    by_cases h2 : ∀ x ∈ l, x.length ≤ 4096
    · rw [if_pos h2, if_neg (fun h => h.elim h1 (fun h => h h2))]; rfl
    · rw [if_neg h2, if_pos (.inr h2)]
end Go.Proofs.Ythhcgcaefjmekaa.Abs
