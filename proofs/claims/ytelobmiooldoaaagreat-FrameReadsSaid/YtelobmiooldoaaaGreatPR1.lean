/- Plain facts: what the document's codes, lists and sums are. Conditions: none. -/
import Derived.Test.YtelobmiooldoaaaGreatPG9
namespace Go.Proofs.YtelobmiooldoaaaGreat.Abs
open Go Go.RowKit Go.IntWalk Crc
set_option linter.unusedVariables false
set_option linter.unnecessarySimpa false
set_option linter.unusedSimpArgs false
set_option linter.unusedSectionVars false
set_option maxRecDepth 100000
theorem refRises_l0 (l : List Int) (hl : l.length ≤ 4611686018427387904) : ∀ (t : List Int) (x : Int) (k : Nat), l.drop k = x :: t → M_thrumref06_rises_l0 l ((k + 1 : Nat) : Int) = some (if rising (x :: t) then .inr () else .inl false)
  | [], x, k, h => by
    have h1 := drop_at h
    rw [M_thrumref06_rises_l0, if_neg (drop_end h1.2.2)]
    simp [rising]
  | y :: t, x, k, h => by
    have h1 := drop_at h
    have h2 := drop_at h1.2.2
    have e1 : IntKind.i64.wrap (((k + 1 : Nat) : Int) - 1) = (k : Int) := by rw [i64_in _ (by omega)]; omega
    rw [M_thrumref06_rises_l0, if_pos h2.1, e1, if_pos (by omega), if_pos (by omega), h1.2.1, h2.2.1, i64_s (by omega), refRises_l0 l hl t y (k + 1) h1.2.2]
    by_cases hxy : x < y
    · rw [if_neg (by omega)]; simp [rising, hxy]
    · rw [if_pos (by omega)]; simp [rising, hxy]

theorem refRises_eq (l : List Int) (hl : l.length ≤ 4611686018427387904) : M_thrumref06_rises l = some (rising l) := by
  cases l with
  | nil => rw [M_thrumref06_rises, M_thrumref06_rises_l0]; simp [rising]
  | cons x t =>
    have := refRises_l0 (x :: t) hl t x 0 rfl
    rw [M_thrumref06_rises, show (1 : Int) = ((0 + 1 : Nat) : Int) from rfl, this]
    cases rising (x :: t) <;> rfl

theorem refCheck_l0 (dim : Int) (l : List Int) (hl : l.length ≤ 4611686018427387904) : ∀ (t : List Int) (k : Nat), l.drop k = t → M_thrumref06_Check_l0 dim l (k : Int) = some (if (t.all fun n => decide (0 ≤ n) && decide (n < dim)) then .inr () else .inl 1)
  | [], k, h => by
    rw [M_thrumref06_Check_l0, if_neg (drop_end h)]; rfl
  | x :: t, k, h => by
    have h1 := drop_at h
    rw [M_thrumref06_Check_l0, if_pos h1.1, if_pos (by omega), orB, h1.2.1, i64_s (by omega), refCheck_l0 dim l hl t (k + 1) h1.2.2]
    by_cases hx : 0 ≤ x ∧ x < dim
    · rw [if_neg (by simp; omega)]; simp [hx]
    · rw [if_pos (by simp; omega), if_neg (by simp; omega)]

theorem refCheck_eq (dim : Int) (l : List Int) (hl : l.length ≤ 4611686018427387904) : M_thrumref06_Check dim l = some (checkP dim l) := by
  rw [M_thrumref06_Check, orB, refRises_eq l hl, bindS, orB]
  have hc := refCheck_l0 dim l hl l 0 rfl
  rw [show ((0 : Nat) : Int) = 0 from rfl] at hc
  by_cases hm : meas dim = true
  · have hm' := hm
    simp only [meas, Bool.and_eq_true, decide_eq_true_eq] at hm'
    cases hr : rising l with
    | false => simp [checkP, placed, hr]
    | true =>
      rw [if_neg (by simp; omega), hc]
      by_cases ha : (l.all fun n => decide (0 ≤ n) && decide (n < dim)) = true
      · rw [if_pos ha, checkP, if_pos (by simp only [placed, hm, hr, ha, Bool.and_self])]; rfl
      · rw [if_neg ha, checkP, if_neg (by simp only [placed, hm, hr, Bool.true_and]; exact ha)]; rfl
  · have hm' := hm
    simp only [meas, Bool.and_eq_true, decide_eq_true_eq] at hm'
    rw [if_pos (by simp; omega), checkP, if_neg]
    simp only [placed, Bool.and_eq_true]
    exact fun h => hm h.1.1
theorem refGet_l0 (b : List Int) (at0 : Int) (h0 : 0 ≤ at0) (hb : b.length ≤ 4611686018427387904) (hu : U8s b) (hat : at0 ≤ 9223372036854775807) : ∀ (j k : Nat) (n : Int), k + j = 10 → 0 < j →
    M_thrumref03_Get_l0 b at0 (k : Int) n = some (.inl (getGo at0 ((b.drop at0.toNat).drop k) k n)) := by
  intro j
  induction j with
  | zero => intro k n _ h; omega
  | succ j ih =>
    intro k n hk _
    rw [M_thrumref03_Get_l0, if_pos (by omega), orB]
    by_cases hlt : at0 + k < b.length
    · have e0 : IntKind.i64.wrap ((b.length : Int) - at0) = b.length - at0 := i64_in _ (by omega)
      have e2 : IntKind.i64.wrap (at0 + (k : Int)) = at0 + k := i64_in _ (by omega)
      have hlt' : at0.toNat + k < b.length := by omega
      have hd : (b.drop at0.toNat).drop k = b[at0.toNat + k] :: (b.drop at0.toNat).drop (k + 1) := by
        rw [List.drop_drop, List.drop_drop, List.drop_eq_getElem_cons hlt']; rfl
      have hx := hu b[at0.toNat + k] (List.getElem_mem hlt')
      have ex : at' b (at0 + k) = b[at0.toNat + k] := by
        have : at0 + (k : Int) = ((at0.toNat + k : Nat) : Int) := by omega
        rw [this, at'_nat]; simp [hlt']
      rw [e0, if_neg (by simp; omega), e2, if_pos (by omega), ex, hd]
      generalize b[at0.toNat + k] = x at hx
      have e1 : IntKind.i64.wrap (7 * (k : Int)) = 7 * k := i64_in _ (by omega)
      have e3 : IntKind.u64.wrap (Int.tmod x 128) = x % 128 := by rw [rem_in _ _ hx.1, u64_in _ (by omega)]
      simp only [andB]
      rw [getGo]
      by_cases h9 : k = 9 ∧ 1 < x
      · rw [if_pos (by simp; omega), if_pos (.inl h9)]
      · rw [if_neg (by simp; omega), e3, bindS, e1, if_pos (by omega)]
        by_cases hx1 : x < 128
        · rw [if_pos hx1]
          by_cases hz : x = 0 ∧ 0 < k
          · rw [if_pos (by simp; omega), if_pos (.inr hz)]
          · rw [if_neg (by simp; omega), if_neg (by omega), if_pos hx1, i64_in (at0 + k + 1) (by omega), e2]
        · have : 0 < j := by omega
          rw [if_neg hx1, if_neg (by omega), if_neg hx1, i64_s (by omega), ih (k + 1) _ (by omega) this]
    · have hd : (b.drop at0.toNat).drop k = [] := by rw [List.drop_drop]; exact List.drop_eq_nil_of_le (by omega)
      rw [hd, getGo]
      by_cases h1 : at0 ≥ b.length
      · rw [if_pos (by simp [h1])]
      · have e0 : IntKind.i64.wrap ((b.length : Int) - at0) = b.length - at0 := i64_in _ (by omega)
        rw [e0, if_pos (by simp; omega)]

theorem refGet_eq (b : List Int) (at0 : Int) (hb : b.length ≤ 4611686018427387904) (hu : U8s b) (hat : at0 ≤ 9223372036854775807) : M_thrumref03_Get b at0 = some (getP b at0) := by
  rw [M_thrumref03_Get, getP]
  by_cases h0 : at0 < 0
  · rw [if_pos h0, if_pos h0]
  rw [if_neg h0, if_neg h0]
  have hl := refGet_l0 b at0 (by omega) hb hu hat 10 0 0 rfl (by omega)
  rw [show ((0 : Nat) : Int) = 0 from rfl] at hl
  rw [hl]; rfl
theorem refGet6_l0 (dim : Int) (hd : dim ≤ 4096) (b : List Int) (hb : b.length ≤ 4611686018427387904) (hu : U8s b) (r2 : Int × Int × Int) (hr : r2.1 ≤ 4096) : ∀ (j i : Nat) (last : Int) (acc : List Int) (at0 : Int), (i : Int) + j = r2.1 → acc.length ≤ i → at0 ≤ 9223372036854775807 → -1 ≤ last → last < dim →
    ∃ e, M_thrumref06_Get_l0 dim b r2 (i : Int) last acc at0 = some e ∧ (match e with | .inl r => r = iget dim b j at0 last acc | .inr v => (v.1, v.2, 0) = iget dim b j at0 last acc) := by
  intro j
  induction j with
  | zero =>
    intro i last acc at0 hi ha hat hl1 hl2
    rw [M_thrumref06_Get_l0, if_neg (by omega)]
    exact ⟨_, rfl, rfl⟩
  | succ j ih =>
    intro i last acc at0 hi ha hat hl1 hl2
    rw [M_thrumref06_Get_l0, if_pos (by omega), refGet_eq b at0 hb hu hat, bindS]
    simp only [iget]
    by_cases he : (getP b at0).2.2 ≠ 0
    · rw [if_pos he, if_pos he]
      exact ⟨_, rfl, rfl⟩
    · have e1 : IntKind.u64.wrap (IntKind.i64.wrap (IntKind.i64.wrap (dim - last) - 1)) = dim - 1 - last := by
        rw [i64_in (dim - last) (by omega), i64_in _ (by omega), u64_in _ (by omega)]; omega
      rw [if_neg he, if_neg he, e1]
      have h1 := getP_u64 b at0
      have h2 := getP_at b at0 hb
      by_cases hf : dim - 1 - last ≤ (getP b at0).1
      · rw [if_pos hf, if_pos hf]
        exact ⟨_, rfl, rfl⟩
      · have e2 : IntKind.i64.wrap (last + IntKind.i64.wrap (IntKind.i64.wrap (getP b at0).1 + 1)) = last + 1 + (getP b at0).1 := by
          rw [i64_in (getP b at0).1 (by omega), i64_in ((getP b at0).1 + 1) (by omega), i64_in _ (by omega)]; omega
        rw [if_neg hf, if_neg hf, e2, bindS, if_pos (room8 (by simp; omega)), bindS, u64_s (by omega)]
        exact ih (i + 1) _ _ _ (by omega) (by simp; omega) (by omega) (by omega) (by omega)

theorem refGet6_eq (dim : Int) (b : List Int) (at0 : Int) (hb : b.length ≤ 4611686018427387904) (hu : U8s b) (hat : at0 ≤ 9223372036854775807) : M_thrumref06_Get dim b at0 = some (igetP dim b at0) := by
  rw [M_thrumref06_Get, orB, igetP]
  cases hm : meas dim with
  | false =>
    have hm' : ¬ (meas dim = true) := by simp [hm]
    simp only [meas, Bool.and_eq_true, decide_eq_true_eq] at hm'
    rw [if_pos (by simp; omega)]; rfl
  | true =>
    have hm' := hm
    simp only [meas, Bool.and_eq_true, decide_eq_true_eq] at hm'
    rw [if_neg (by simp; omega), if_neg (by simp), refGet_eq b at0 hb hu hat, bindS, u64_in dim (by omega)]
    have h1 := getP_u64 b at0
    have h2 := getP_at b at0 hb
    by_cases he : (getP b at0).2.2 ≠ 0
    · rw [if_pos he, if_pos he]
    · rw [if_neg he, if_neg he]
      by_cases hf : dim < (getP b at0).1
      · rw [if_pos hf, if_pos hf]
      · rw [if_neg hf, if_neg hf]
        obtain ⟨e, g1, g2⟩ := refGet6_l0 dim hm'.2 b hb hu (getP b at0) (by omega) (getP b at0).1.toNat 0 (-1) [] (getP b at0).2.1 (by omega) (by simp) (by omega) (by omega) (by omega)
        rw [show ((0 : Nat) : Int) = 0 from rfl] at g1
        rw [g1, bindS]
        cases e with
        | inl r => exact congrArg some g2
        | inr v => exact congrArg some g2
theorem refZag_eq {n : Int} (h0 : 0 ≤ n) (h1 : n ≤ 18446744073709551615) : M_thrumref03_Zag n = some (zagP n) := by
  unfold M_thrumref03_Zag zagP
  rw [Int.tmod_eq_emod_of_nonneg h0, Int.tdiv_eq_ediv_of_nonneg h0]
  by_cases h : n % 2 = 0
  · rw [if_neg (by omega), if_pos h]
    congr 1
    simp only [IntKind.wrap_u64, IntKind.wrap_i64]; omega
  · rw [if_pos (by omega), if_neg h]
    congr 1
    simp only [IntKind.wrap_u64, IntKind.wrap_i64]; omega

/-- So many bits on. -/
def AbN : Nat → Wd → Wd
  | 0, w => w
  | n + 1, w => AbN n (Ab w)
theorem low_bit (w : Wd) : bAnd .u32 (Un w) 1 = if w.getLsbD 0 then 1 else 0 := by
  unfold bAnd
  show IntKind.u32.wrap ((BitVec.ofInt 32 (Un w) &&& BitVec.ofInt 32 1).toNat : Int) = _
  rw [of_Un, IntKind.wrap_u32, BitVec.toNat_and]
  have : (BitVec.ofInt 32 1).toNat = 2 ^ 1 - 1 := rfl
  rw [this, Nat.and_two_pow_sub_one_eq_mod]
  have h : w.getLsbD 0 = decide (w.toNat % 2 = 1) := by rw [BitVec.getLsbD, Nat.testBit_zero]
  rw [h]
  by_cases h2 : w.toNat % 2 = 1
  · simp [h2]
  · simp [h2]; omega
theorem shr_Un1 (w : Wd) : sShr .u32 (Un w) 1 = Un (w >>> 1) := shr_Un w 1 (by omega)
theorem poly_Un (w : Wd) : bXor .u32 (Un w) 3988292384 = Un (w ^^^ poly) := xor_Un w poly

theorem refMore_l1 (a1 : List Int) (x0 : Int) : ∀ (k i : Nat) (w : Wd), i + k = 8 → M_thrumref04_More_l1 a1 x0 (i : Int) (Un w) = some (Un (AbN k w))
  | 0, i, w, h => by rw [M_thrumref04_More_l1, if_neg (by omega)]; rfl
  | k + 1, i, w, h => by
    rw [M_thrumref04_More_l1, if_pos (by omega), low_bit, i64_s (by omega), shr_Un1, poly_Un, refMore_l1 a1 x0 k (i + 1) _ (by omega), refMore_l1 a1 x0 k (i + 1) _ (by omega)]
    rw [AbN, Ab]
    cases w.getLsbD 0 <;> simp

theorem wide_Yn (y : BitVec 8) : IntKind.u32.wrap (Yn y) = Un (y.setWidth 32) := by
  rw [IntKind.wrap_u32]
  have := y.isLt
  unfold Yn Un
  rw [BitVec.toNat_setWidth]
  omega

theorem refMore_l0 (b : List (BitVec 8)) (hb : b.length < 4611686018427387904) : ∀ (t : List (BitVec 8)) (k : Nat) (c : Wd), b.drop k = t → M_thrumref04_More_l0 (b.map Yn) (k : Int) (Un c) = some (Un (t.foldl feed c))
  | [], k, c, h => by
    have := List.drop_eq_nil_iff.1 h
    rw [M_thrumref04_More_l0, if_neg (by rw [List.length_map]; omega)]; rfl
  | y :: t, k, c, h => by
    have h' : (b.map Yn).drop k = Yn y :: t.map Yn := by rw [← List.map_drop, h]; rfl
    have g := drop_at h'
    have g2 : b.drop (k + 1) = t := by
      have : b.drop (k + 1) = (b.drop k).drop 1 := by rw [List.drop_drop]
      rw [this, h]; rfl
    rw [M_thrumref04_More_l0, if_pos g.1, if_pos ⟨by omega, g.1⟩, g.2.1, wide_Yn, xor_Un]
    have := refMore_l1 (b.map Yn) (k : Int) 8 0 (c ^^^ y.setWidth 32) (by omega)
    rw [show ((0 : Nat) : Int) = 0 from rfl] at this
    rw [this, bindS, i64_s (by have := g.1; rw [List.length_map] at this; omega), refMore_l0 b hb t (k + 1) _ g2]
    rfl

theorem refMore_eq (s : Wd) (b : List (BitVec 8)) (hb : b.length < 4611686018427387904) : M_thrumref04_More (Un s) (b.map Yn) = some (Un (moreB s b)) := by
  rw [M_thrumref04_More, bindS]
  have h1 : bXor .u32 (if IntKind.signed .u32 then -1 else IntKind.max .u32) (Un s) = Un (~~~ s) := not_Un s
  have h2 : ∀ w : Wd, bXor .u32 (if IntKind.signed .u32 then -1 else IntKind.max .u32) (Un w) = Un (~~~ w) := not_Un
  rw [h1]
  have := refMore_l0 b hb b 0 (~~~ s) rfl
  rw [show ((0 : Nat) : Int) = 0 from rfl] at this
  rw [this, bindS, h2]
  rfl

theorem refSum_eq (b : List (BitVec 8)) (hb : b.length < 4611686018427387904) : M_thrumref04_Sum (b.map Yn) = some (Un (sumB b)) := by
  rw [M_thrumref04_Sum, ← Un0, refMore_eq _ _ hb, bindS]; rfl

theorem refSeal_eq (b : List (BitVec 8)) (hb : b.length ≤ 70000) : M_thrumref04_Seal (b.map Yn) = some (if b.length > 65532 then ([], 3) else ((sealB b).map Yn, 0)) := by
  rw [M_thrumref04_Seal]
  by_cases h : b.length > 65532
  · rw [if_pos (by rw [List.length_map]; omega), if_pos h]
  · rw [if_neg (by rw [List.length_map]; omega), if_neg h, refSum_eq _ (by omega), bindS, if_pos (room1 (by rw [List.length_map]; omega)), if_pos (room1 (by simp; omega)), low_Un, shr_Un8, low_Un]
    have h16 : sShr .u32 (Un (sumB b)) 16 = Un (sumB b >>> 16) := shr_Un _ 16 (by omega)
    have h24 : sShr .u32 (Un (sumB b)) 24 = Un (sumB b >>> 24) := shr_Un _ 24 (by omega)
    rw [h16, h24, low_Un, low_Un]
    simp [sealB, le4]

theorem refSeal_in (b : List (BitVec 8)) (hb : b.length ≤ 65532) : M_thrumref04_Seal (b.map Yn) = some ((sealB b).map Yn, 0) := by
  rw [refSeal_eq b (by omega), if_neg (by omega)]

theorem str_eq (a b : List (BitVec 8)) : ((strB (a.map Yn)).toList == (strB (b.map Yn)).toList) = decide (a = b) := by
  rw [strB_list, strB_list]
  by_cases h : a = b
  · subst h; simp
  · rw [decide_eq_false h]
    refine Bool.eq_false_iff.2 fun he => h ?_
    exact map_Yn_inj (u8_map_inj (YnU a) (YnU b) (by simpa using he))
theorem refOpen_eq (b : List (BitVec 8)) (hb : b.length ≤ 70000) : M_thrumref04_Open (b.map Yn) = some ((openB b).1.map Yn, (openB b).2) := by
  rw [M_thrumref04_Open, openB]
  by_cases h1 : b.length > 65536
  · rw [if_pos (by rw [List.length_map]; omega), if_pos h1]; rfl
  rw [if_neg (by rw [List.length_map]; omega), if_neg h1]
  by_cases h2 : b.length < 4
  · rw [if_pos (by rw [List.length_map]; omega), if_pos h2]; rfl
  obtain ⟨c1, c2⟩ := cut_n b (by omega) hb
  rw [if_neg (by rw [List.length_map]; omega), if_neg h2, if_pos c1, bindS, c2, if_pos (room1 (by simp; omega)), refSeal_in _ (by rw [List.length_take]; omega), bindS, str_eq]
  by_cases h3 : sealB (b.take (b.length - 4)) = b
  · rw [if_neg (by simp [h3]), if_pos h3]
  · rw [if_pos (by simp [h3]), if_neg h3]; rfl
set_option linter.unusedSimpArgs false
set_option linter.unusedSectionVars false
set_option maxRecDepth 100000

theorem eqLoop {α : Type} [Inhabited α] [DecidableEq α] (F : Int → Option (Sum Bool Unit)) (a b : List α)
    (hF : ∀ k : Int, F k = if k < (a.length : Int) then if 0 ≤ k ∧ k < (a.length : Int) then if 0 ≤ k ∧ k < (b.length : Int) then if at' a k ≠ at' b k then some (.inl false) else F (IntKind.i64.wrap (k + 1)) else none else none else some (.inr ()))
    (hl : a.length = b.length) (hb : a.length ≤ 4611686018427387904) : ∀ (t u : List α) (k : Nat), a.drop k = t → b.drop k = u → F (k : Int) = some (if t = u then .inr () else .inl false)
  | [], u, k, h1, h2 => by
    have := List.drop_eq_nil_iff.1 h1
    have h3 : u = [] := by rw [← h2]; exact List.drop_eq_nil_of_le (by omega)
    rw [hF, if_neg (drop_end h1), h3]; rfl
  | x :: t, [], k, h1, h2 => by
    have := List.drop_eq_nil_iff.1 h2
    have := (drop_at h1).1
    omega
  | x :: t, y :: u, k, h1, h2 => by
    have g1 := drop_at h1
    have g2 := drop_at h2
    rw [hF, if_pos g1.1, if_pos (by omega), if_pos (by omega), g1.2.1, g2.2.1, i64_s (by omega), eqLoop F a b hF hl hb t u (k + 1) g1.2.2 g2.2.2]
    by_cases hxy : x = y
    · subst hxy; simp
    · simp [hxy]
theorem eqFin {α : Type} [Inhabited α] [DecidableEq α] (F : Int → Option (Sum Bool Unit)) (a b : List α)
    (hF : ∀ k : Int, F k = if k < (a.length : Int) then if 0 ≤ k ∧ k < (a.length : Int) then if 0 ≤ k ∧ k < (b.length : Int) then if at' a k ≠ at' b k then some (.inl false) else F (IntKind.i64.wrap (k + 1)) else none else none else some (.inr ()))
    (hb : a.length ≤ 4611686018427387904) : (if (a.length : Int) ≠ (b.length : Int) then some false else (F 0) >>= fun e => match e with | .inl r => some r | .inr _ => some true) = some (decide (a = b)) := by
  by_cases hl : a.length = b.length
  · have := eqLoop F a b hF hl hb a b 0 rfl rfl
    rw [show ((0 : Nat) : Int) = 0 from rfl] at this
    rw [if_neg (by omega), this]
    by_cases h : a = b
    · simp [h]
    · simp [h]
  · rw [if_pos (by omega), decide_eq_false (fun h => hl (by rw [h]))]
theorem ref2Same_eq (a b : List Int) (hb : a.length ≤ 4611686018427387904) : M_thrumref02_Same a b = some (decide (a = b)) := by
  rw [M_thrumref02_Same]; exact eqFin _ a b (fun k => by rw [M_thrumref02_Same_l0]) hb
theorem ref3Numbers_eq (a b : List Int) (hb : a.length ≤ 4611686018427387904) : M_thrumref03_SameNumbers a b = some (decide (a = b)) := by
  rw [M_thrumref03_SameNumbers]; exact eqFin _ a b (fun k => by rw [M_thrumref03_SameNumbers_l0]) hb
theorem ref5Signs_eq (a b : List Bool) (hb : a.length ≤ 4611686018427387904) : M_thrumref05_SameSigns a b = some (decide (a = b)) := by
  rw [M_thrumref05_SameSigns]; exact eqFin _ a b (fun k => by rw [M_thrumref05_SameSigns_l0]) hb
theorem ref6Equal_eq (a b : List Int) (hb : a.length ≤ 4611686018427387904) : M_thrumref06_Equal a b = some (decide (a = b)) := by
  rw [M_thrumref06_Equal]; exact eqFin _ a b (fun k => by rw [M_thrumref06_Equal_l0]) hb
/-- A vector's lists are no longer than memory. -/
structure Lens (s : T_api_Sent) : Prop where
  l : s.F_L.length ≤ 4611686018427387904
  v : s.F_V.length ≤ 4611686018427387904
  e : s.F_Lev.length ≤ 4611686018427387904
  n : s.F_Neg.length ≤ 4611686018427387904
theorem SameSent_eq {a b : T_api_Sent} (h : Lens a) : M_thrumref07_SameSent a b = some (decide (a = b)) := by
  rw [M_thrumref07_SameSent]
  simp only [ref6Equal_eq _ _ h.l, ref2Same_eq _ _ h.v, ref3Numbers_eq _ _ h.e, ref5Signs_eq _ _ h.n, bindS, andB]
  congr 1
  rw [Bool.eq_iff_iff]
  cases a; cases b
  simp [and_assoc]
end Go.Proofs.YtelobmiooldoaaaGreat.Abs
