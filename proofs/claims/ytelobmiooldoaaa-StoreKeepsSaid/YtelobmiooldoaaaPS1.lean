/- What a store's functions compute, plainly: sums, heads, halves, what is kept. Conditions: none but that bytes are bytes. -/
import Derived.Test.YtelobmiooldoaaaPK1
namespace Go.Proofs.Ytelobmiooldoaaa.Abs
open Go Go.RowKit Go.IntWalk Crc
set_option linter.unusedVariables false
set_option linter.unusedSimpArgs false
set_option maxRecDepth 100000

/-- Numbers as bytes. -/
def bytesL (b : List Int) : List (BitVec 8) := b.map fun x => BitVec.ofNat 8 x.toNat
theorem bytesL_Yn {b : List Int} (h : U8s b) : (bytesL b).map Yn = b := by
  unfold bytesL
  rw [List.map_map]
  conv => rhs; rw [← List.map_id b]
  apply List.map_congr_left
  intro x hx
  have := h x hx
  simp only [Function.comp, Yn, id]
  simp; omega
theorem bytesL_len (b : List Int) : (bytesL b).length = b.length := by simp [bytesL]
theorem bytesL_of (bs : List (BitVec 8)) : bytesL (bs.map Yn) = bs := by
  unfold bytesL
  rw [List.map_map]
  conv => rhs; rw [← List.map_id bs]
  apply List.map_congr_left
  intro x hx
  simp [Yn]
theorem YnU (b : List (BitVec 8)) : U8s (b.map Yn) := by
  intro x hx
  obtain ⟨y, _, rfl⟩ := List.mem_map.1 hx
  have := Yn_lt y; omega

def sealI (b : List Int) : List Int := (sealB (bytesL b)).map Yn
def openI (b : List Int) : List Int × Int := ((openB (bytesL b)).1.map Yn, (openB (bytesL b)).2)
theorem sealI_eq {b : List Int} (hu : U8s b) (h : b.length ≤ 65532) : M_crc_Seal b = some (sealI b, 0) := by
  have := seal_in (bytesL b) (by rw [bytesL_len]; exact h)
  rwa [bytesL_Yn hu] at this
theorem openI_eq {b : List Int} (hu : U8s b) (h : b.length ≤ 70000) : M_crc_Open b = some (openI b) := by
  have := open_eq (bytesL b) (by rw [bytesL_len]; exact h)
  rwa [bytesL_Yn hu] at this
theorem openI_seal {b : List Int} (hu : U8s b) (h : b.length ≤ 65532) : openI (sealI b) = (b, 0) := by
  unfold openI sealI
  rw [bytesL_of, open_seal (by rw [bytesL_len]; exact h), bytesL_Yn hu]
theorem sealI_len (b : List Int) : (sealI b).length = b.length + 4 := by simp [sealI, sealB, le4_len, bytesL_len]
theorem sealI_u8 (b : List Int) : U8s (sealI b) := YnU _
theorem openI_u8 (b : List Int) : U8s (openI b).1 := YnU _
theorem openI_len (b : List Int) : (openI b).1.length ≤ b.length := by
  unfold openI openB
  rw [← bytesL_len b]
  repeat' split
  all_goals simp
theorem openI_nil : openI [] = ([], 5) := by decide

/-- Two codes. -/
def two (o : List Int) : List Int × Int × Int :=
  if (getP o 0).2.2 ≠ 0 then ([], 0, (getP o 0).2.2)
  else if (getP o (getP o 0).2.1).2.2 ≠ 0 then ([], 0, (getP o (getP o 0).2.1).2.2)
  else ([(getP o 0).1, (getP o (getP o 0).2.1).1], (getP o (getP o 0).2.1).2.1, 0)
theorem Many2_eq {o : List Int} (hu : U8s o) (hb : o.length ≤ 4611686018427387904) : M_leb_Many o 0 2 = some (two o) := by
  have h1 := getP_at o 0 hb
  unfold M_leb_Many two
  rw [if_neg (by omega), M_leb_Many_l0, if_pos (by simp), leb_Get_eq o 0 hb hu (by omega), bindS]
  by_cases e1 : (getP o 0).2.2 ≠ 0
  · rw [if_pos e1, if_pos e1]; rfl
  · rw [if_neg e1, if_neg e1, if_pos (room8 (by simp)), M_leb_Many_l0, if_pos (by simp), leb_Get_eq o _ hb hu (by omega), bindS]
    by_cases e2 : (getP o (getP o 0).2.1).2.2 ≠ 0
    · rw [if_pos e2, if_pos e2]; rfl
    · rw [if_neg e2, if_neg e2, if_pos (room8 (by simp)), M_leb_Many_l0, if_neg (by simp)]; rfl
theorem two_put {g n : Int} (hg : 0 ≤ g ∧ g ≤ 18446744073709551615) (hn : 0 ≤ n ∧ n ≤ 18446744073709551615) : two (lebP g ++ lebP n) = ([g, n], ((lebP g ++ lebP n).length : Int), 0) := by
  have h1 := getP_put [] (lebP n) g hg (by simp)
  have h2 := getP_put (lebP g) [] n hn (by have := lebP_le g hg.2; omega)
  simp only [List.nil_append, List.length_nil, Int.natCast_zero, Int.zero_add, List.append_nil] at h1 h2
  unfold two
  rw [h1]
  simp only [ne_eq, not_true_eq_false, if_false, h2]
  simp
theorem two_len (o : List Int) : (two o).2.2 = 0 → (two o).1.length = 2 := by
  unfold two
  repeat' split
  all_goals simp_all
theorem two_u64 (o : List Int) (h : (two o).2.2 = 0) : 0 ≤ at' (two o).1 0 ∧ at' (two o).1 0 ≤ 18446744073709551615 ∧ 0 ≤ at' (two o).1 1 ∧ at' (two o).1 1 ≤ 18446744073709551615 := by
  revert h
  unfold two
  split
  · intro h; exact absurd h (by assumption)
  · split
    · intro h; exact absurd h (by assumption)
    · intro _
      have h1 := getP_u64 o 0
      have h2 := getP_u64 o (getP o 0).2.1
      exact ⟨h1.1, h1.2, h2.1, h2.2⟩

theorem and1 {x : Int} (h : 0 ≤ x) (hx : x ≤ 18446744073709551615) : bAnd .u64 x 1 = x % 2 := by
  unfold bAnd
  have e : IntKind.u64.bits = 64 := rfl
  rw [e, BitVec.toNat_and, BitVec.toNat_ofInt, BitVec.toNat_ofInt, IntKind.wrap_u64]
  have e1 : (x % ((2 ^ 64 : Nat) : Int)).toNat = x.toNat := by omega
  have e2 : ((1 : Int) % ((2 ^ 64 : Nat) : Int)).toNat = 1 := by decide
  rw [e1, e2, Nat.and_one_is_mod]
  omega
theorem and1i {x : Int} (h : 0 ≤ x) (hx : x ≤ 9223372036854775807) : bAnd .i64 x 1 = x % 2 := by
  unfold bAnd
  have e : IntKind.i64.bits = 64 := rfl
  rw [e, BitVec.toNat_and, BitVec.toNat_ofInt, BitVec.toNat_ofInt, IntKind.wrap_i64]
  have e1 : (x % ((2 ^ 64 : Nat) : Int)).toNat = x.toNat := by omega
  have e2 : ((1 : Int) % ((2 ^ 64 : Nat) : Int)).toNat = 1 := by decide
  rw [e1, e2, Nat.and_one_is_mod]
  omega

/-- A store that may be. -/
structure okS (cells : List (List Int)) (half : Nat) : Prop where
  lo : 1 ≤ half
  hi : half ≤ 64
  len : cells.length = 2 + 2 * half
  cell : ∀ c ∈ cells, c.length ≤ 256 ∧ U8s c

theorem IndexFunc_ok (cells : List (List Int)) (hl : cells.length ≤ 1099511627776) : ∀ (t : List (List Int)) (k : Nat), cells.drop k = t →
    ∃ e, M_slices_IndexFunc_byte_byte_store_Check_1_l0 cells (k : Int) = some e ∧ ((∀ c ∈ t, c.length ≤ 256) → e = .inr ()) ∧ (¬ (∀ c ∈ t, c.length ≤ 256) → ∃ i : Int, 0 ≤ i ∧ e = .inl i)
  | [], k, h => by
    rw [M_slices_IndexFunc_byte_byte_store_Check_1_l0, if_neg (drop_end h)]
    exact ⟨_, rfl, fun _ => rfl, fun h => absurd (by simp) h⟩
  | c :: t, k, h => by
    obtain ⟨h1, h2, h3⟩ := drop_at h
    rw [M_slices_IndexFunc_byte_byte_store_Check_1_l0, if_pos h1, if_pos ⟨by omega, h1⟩, h2, M_store_Check_1, bindS]
    by_cases hc : (c.length : Int) > 256
    · rw [if_pos (by simpa using hc)]
      exact ⟨_, rfl, fun h => by have := h c (by simp); omega, fun _ => ⟨k, by omega, rfl⟩⟩
    · rw [if_neg (by simpa using hc), i64_s (by omega)]
      obtain ⟨e, g1, g2, g3⟩ := IndexFunc_ok cells hl t (k + 1) h3
      refine ⟨e, g1, fun h => g2 fun x hx => h x (by simp [hx]), fun h => g3 fun h' => h fun x hx => ?_⟩
      rcases List.mem_cons.1 hx with rfl | hx
      · omega
      · exact h' x hx
theorem Contains_ok (cells : List (List Int)) (hl : cells.length ≤ 1099511627776) : M_slices_ContainsFunc_byte_byte_store_Check_1 cells = some (decide (¬ ∀ c ∈ cells, c.length ≤ 256)) := by
  obtain ⟨e, g1, g2, g3⟩ := IndexFunc_ok cells hl cells 0 rfl
  have g1' : M_slices_IndexFunc_byte_byte_store_Check_1_l0 cells 0 = some e := g1
  unfold M_slices_ContainsFunc_byte_byte_store_Check_1 M_slices_IndexFunc_byte_byte_store_Check_1
  rw [g1', bindS]
  by_cases h : ∀ c ∈ cells, c.length ≤ 256
  · rw [g2 h]
    simp only [bindS]
    rw [decide_eq_false (by omega), decide_eq_false (fun hn => hn h)]
  · obtain ⟨i, hi, rfl⟩ := g3 h
    simp only [bindS]
    rw [decide_eq_true (by omega), decide_eq_true h]
theorem Check_ok {cells : List (List Int)} {half : Nat} (h : okS cells half) : M_store_Check ⟨cells⟩ = some 0 := by
  have hlo := h.lo; have hhi := h.hi; have hlen := h.len
  unfold M_store_Check
  simp only [hlen]
  have e : IntKind.i64.wrap (((2 + 2 * half : Nat) : Int) - 2) = ((2 * half : Nat) : Int) := by rw [i64_in _ (by omega)]; omega
  rw [e, orB, Contains_ok _ (by omega)]
  have h1 : decide (((2 * half : Nat) : Int) < 2) = false := decide_eq_false (by omega)
  have h2 : decide (((2 * half : Nat) : Int) > 128) = false := decide_eq_false (by omega)
  have h3 : (Int.tmod ((2 * half : Nat) : Int) 2 == 1) = false := by
    rw [Int.tmod_eq_emod_of_nonneg (by omega)]
    simp
  have h4 : decide (¬ ∀ c ∈ cells, c.length ≤ 256) = false := decide_eq_false fun hn => hn fun c hc => (h.cell c hc).1
  rw [h1, h2, h3, h4]
  rfl
theorem Check_no {cells : List (List Int)} (hl : cells.length ≤ 1099511627776) (hu : ∀ c ∈ cells, U8s c) (h : ∀ half, ¬ okS cells half) : M_store_Check ⟨cells⟩ = some 1 := by
  unfold M_store_Check
  have e : IntKind.i64.wrap ((cells.length : Int) - 2) = (cells.length : Int) - 2 := by rw [i64_in _ (by omega)]
  simp only
  rw [e, orB, Contains_ok _ hl]
  simp only [bindS]
  by_cases h1 : (cells.length : Int) - 2 < 2
  · simp [h1, bindS]
  by_cases h2 : (cells.length : Int) - 2 > 128
  · simp [h2, bindS]
  by_cases h3 : Int.tmod ((cells.length : Int) - 2) 2 = 1
  · simp [h3, bindS]
  by_cases h4 : ∀ c ∈ cells, c.length ≤ 256
  · exfalso
    rw [Int.tmod_eq_emod_of_nonneg (by omega)] at h3
    exact h ((cells.length - 2) / 2) ⟨by omega, by omega, by omega, fun c hc => ⟨h4 c hc, hu c hc⟩⟩
  · simp [h1, h2, h3, h4, bindS]

/-- One half. -/
def halfC (cells : List (List Int)) (half w : Nat) : List (List Int) := (cells.drop (2 + w * half)).take half
theorem half_eq {cells : List (List Int)} {half w : Nat} (h : okS cells half) (hw : w < 2) : M_store_half ⟨cells⟩ (w : Int) = some (halfC cells half w) := by
  have hlo := h.lo; have hhi := h.hi; have hlen := h.len
  unfold M_store_half
  simp only [hlen, bindS]
  have e1 : IntKind.i64.wrap (((2 + 2 * half : Nat) : Int) - 2) = ((2 * half : Nat) : Int) := by rw [i64_in _ (by omega)]; omega
  have e2 : IntKind.i64.wrap (Int.tdiv ((2 * half : Nat) : Int) 2) = (half : Int) := by
    rw [Int.tdiv_eq_ediv_of_nonneg (by omega), i64_in _ (by omega)]; omega
  have hwh : (w : Int) * (half : Int) = ((w * half : Nat) : Int) := by simp
  have hwl : w * half ≤ half := by
    have := Nat.mul_le_mul_right half (show w ≤ 1 by omega)
    omega
  rw [e1, e2, hwh, i64_in ((w * half : Nat) : Int) (by omega), i64_in (2 + ((w * half : Nat) : Int)) (by omega), i64_in (2 + ((w * half : Nat) : Int) + (half : Int)) (by omega)]
  rw [if_pos]
  · congr 1
    unfold cut' halfC
    simp only [Option.getD_some]
    rw [show (2 + ((w * half : Nat) : Int) + (half : Int)).toNat = (2 + w * half) + half by omega, show (2 + ((w * half : Nat) : Int)).toNat = 2 + w * half by omega]
    rw [List.drop_take]
    congr 1; omega
  · refine ⟨?_, ?_, ?_⟩
    · show (0 : Int) ≤ 2 + ((w * half : Nat) : Int); omega
    · show 2 + ((w * half : Nat) : Int) ≤ 2 + ((w * half : Nat) : Int) + (half : Int); omega
    · show 2 + ((w * half : Nat) : Int) + (half : Int) ≤ ((2 + 2 * half : Nat) : Int); omega
theorem halfC_len {cells : List (List Int)} {half w : Nat} (h : okS cells half) (hw : w < 2) : (halfC cells half w).length = half := by
  have hlen := h.len
  have hwl : w * half ≤ half := by
    have := Nat.mul_le_mul_right half (show w ≤ 1 by omega)
    omega
  unfold halfC
  rw [List.length_take, List.length_drop]; omega

/-- So many bytes of cells. -/
def gath : Nat → List Int → List (List Int) → Option (List Int)
  | 0, acc, _ => some acc
  | _ + 1, _, [] => none
  | n + 1, acc, c :: r => if c.length = min (n + 1) 256 then gath (n + 1 - c.length) (acc ++ c) r else none
theorem kept_l0 (r2 : List Int × Int × Int) : ∀ (hc : List (List Int)) (n : Nat) (acc : List Int), n ≤ 256 * hc.length → acc.length + n ≤ 1099511627776 → (∀ c ∈ hc, c.length ≤ 256) → hc.length ≤ 1099511627776 →
    M_store_kept_l0 r2 (n : Int) acc hc = some (match gath n acc hc with | none => .inl ([], 0) | some b => .inr b)
  | hc, 0, acc, h1, h2, h3, h4 => by
    rw [M_store_kept_l0, if_neg (by omega)]
    simp [gath]
  | [], n + 1, acc, h1, h2, h3, h4 => by simp at h1
  | c :: r, n + 1, acc, h1, h2, h3, h4 => by
    have hc := h3 c (by simp)
    have g0 : (0 : Int) ≤ (0 : Int) ∧ (0 : Int) < ((c :: r).length : Int) := ⟨by omega, by simp only [List.length_cons]; omega⟩
    have e : (if (256 : Int) < ((n + 1 : Nat) : Int) then (256 : Int) else ((n + 1 : Nat) : Int)) = ((min (n + 1) 256 : Nat) : Int) := by
      by_cases h : (256 : Int) < ((n + 1 : Nat) : Int)
      · rw [if_pos h]; omega
      · rw [if_neg h]; omega
    rw [M_store_kept_l0, if_pos (by omega), if_pos g0, drop_at0, e]
    unfold gath
    by_cases hl : c.length = min (n + 1) 256
    · rw [if_neg (by omega), if_pos g0, if_pos (room1 (by simp; omega)), if_pos g0, if_pos hl]
      rw [if_pos]
      · have e2 : IntKind.i64.wrap (((n + 1 : Nat) : Int) - (c.length : Int)) = ((n + 1 - c.length : Nat) : Int) := by rw [i64_in _ (by omega)]; omega
        have e3 : cut' (c :: r) (some 1) none = r := by rw [cut_none _ _ (by simp only [List.length_cons]; omega)]; rfl
        rw [e2, e3]
        simp only [List.length_cons] at h1 h4
        exact kept_l0 r2 r _ _ (by omega) (by rw [List.length_append]; omega) (fun x hx => h3 x (by simp [hx])) (by omega)
      · refine ⟨?_, ?_, ?_⟩
        · show (0 : Int) ≤ 1; omega
        · show (1 : Int) ≤ ((c :: r).length : Int); simp only [List.length_cons]; omega
        · show ((c :: r).length : Int) ≤ ((c :: r).length : Int); omega
    · rw [if_pos (by omega), if_neg hl]

/-- Does a head count? -/
def headOk (w : Nat) (h : List Int) (half : Nat) : Bool :=
  decide ((openI h).2 = 0) && decide ((two (openI h).1).2.2 = 0) && decide (¬ (two (openI h).1).2.1 < ((openI h).1.length : Int)) && decide (¬ at' (two (openI h).1).1 0 > 1073741824) && decide (at' (two (openI h).1).1 0 % 2 = w) && decide (¬ at' (two (openI h).1).1 1 > 256 * (half : Int))
/-- What a head keeps. -/
def keptS (w : Nat) (h : List Int) (hc : List (List Int)) : List Int × Int :=
  if headOk w h hc.length = true then (match gath (at' (two (openI h).1).1 1).toNat [] hc with | none => ([], 0) | some b => (b, at' (two (openI h).1).1 0)) else ([], 0)

theorem halfC_mem {cells : List (List Int)} {half w : Nat} {c : List Int} (h : c ∈ halfC cells half w) : c ∈ cells := by
  unfold halfC at h
  exact List.mem_of_mem_drop (List.mem_of_mem_take h)
theorem kept_eq {cells : List (List Int)} {half w : Nat} (h : okS cells half) (hw : w < 2) : M_store_kept ⟨cells⟩ (w : Int) = some (keptS w (cells.getD w []) (halfC cells half w)) := by
  have hlo := h.lo; have hhi := h.hi; have hlen := h.len
  have hcw : cells.getD w [] ∈ cells := by
    rw [List.getD_eq_getElem?_getD, List.getElem?_eq_getElem (show w < cells.length by omega)]
    simp
  obtain ⟨hc1, hc2⟩ := h.cell _ hcw
  obtain ⟨hd, hhd⟩ : ∃ hd, cells.getD w [] = hd := ⟨_, rfl⟩
  rw [hhd] at hc1 hc2 ⊢
  unfold M_store_kept
  simp only
  rw [if_pos ⟨by omega, by omega⟩, show at' cells (w : Int) = hd by rw [at'_nat]; exact hhd, openI_eq hc2 (by omega), bindS]
  have hl := halfC_len h hw
  have hcl : ∀ c ∈ halfC cells half w, c.length ≤ 256 := fun c hc => (h.cell c (halfC_mem hc)).1
  unfold keptS headOk
  rw [hl]
  by_cases e1 : (openI hd).2 ≠ 0
  · rw [if_pos e1]; simp [e1]
  · rw [if_neg e1, Many2_eq (openI_u8 _) (by have := openI_len hd; omega), bindS, half_eq h hw, bindS]
    have e1' : (openI hd).2 = 0 := by simpa using e1
    rw [hl]
    have ew : IntKind.u64.wrap (w : Int) = (w : Int) := by rw [IntKind.wrap_u64]; omega
    have eh : IntKind.u64.wrap (IntKind.i64.wrap ((half : Int) * 256)) = 256 * (half : Int) := by rw [i64_in _ (by omega), IntKind.wrap_u64]; omega
    rw [ew, eh, orB]
    by_cases e2 : (two (openI hd).1).2.2 ≠ 0
    · simp [e2, bindS]
    have e2' : (two (openI hd).1).2.2 = 0 := by simpa using e2
    have h2 := two_len _ e2'
    have hu := two_u64 _ e2'
    have g0 : (0 : Int) ≤ (0 : Int) ∧ (0 : Int) < ((two (openI hd).1).1.length : Int) := ⟨by omega, by omega⟩
    have g1 : (0 : Int) ≤ (1 : Int) ∧ (1 : Int) < ((two (openI hd).1).1.length : Int) := ⟨by omega, by omega⟩
    rw [if_pos g0, if_pos g0, if_pos g1, if_pos g1, and1 hu.1 hu.2.1]
    simp only [e2', ne_eq, not_true_eq_false, decide_false, Bool.false_or, e1', decide_true, Bool.true_and]
    by_cases c1 : (two (openI hd).1).2.1 < ((openI hd).1.length : Int)
    · simp [c1, bindS]
    by_cases c2 : at' (two (openI hd).1).1 0 > 1073741824
    · simp [c1, c2, bindS]
    by_cases c3 : at' (two (openI hd).1).1 0 % 2 = (w : Int)
    · by_cases c4 : at' (two (openI hd).1).1 1 > 256 * (half : Int)
      · simp [c1, c2, c3, c4, bindS]
      · have e5 : IntKind.i64.wrap (at' (two (openI hd).1).1 1) = (((at' (two (openI hd).1).1 1).toNat : Nat) : Int) := by rw [i64_in _ (by omega)]; omega
        have e6 : IntKind.i64.wrap (at' (two (openI hd).1).1 0) = at' (two (openI hd).1).1 0 := by rw [i64_in _ (by omega)]
        simp only [c1, c2, c3, c4, bindS, decide_false, decide_true, Bool.false_eq_true, if_false, bne_self_eq_false, not_false_eq_true, Bool.and_self, if_true]
        rw [e5, kept_l0 _ _ _ _ (by rw [hl]; omega) (by simp; omega) hcl (by rw [hl]; omega), bindS]
        cases hgt : gath (at' (two (openI hd).1).1 1).toNat [] (halfC cells half w) with
        | none => rfl
        | some b => simp only []; rw [if_pos g0, e6]
    · have : (at' (two (openI hd).1).1 0 % 2 != (w : Int)) = true := by simpa using c3
      simp [c1, c2, c3, this, bindS]

end Go.Proofs.Ytelobmiooldoaaa.Abs
