/- Plain facts: what the document's codes, lists and sums are. Conditions: none. -/
import Derived.Test.YtelobmiooldoaaaGreatPG9
namespace Go.Proofs.YtelobmiooldoaaaGreat.Abs
open Go Go.RowKit Go.IntWalk Crc
set_option linter.unusedVariables false
set_option linter.unnecessarySimpa false
set_option linter.unusedSimpArgs false
set_option linter.unusedSectionVars false
set_option maxRecDepth 100000
theorem refRises_l0 (l : List Int) (hl : l.length ≤ 4611686018427387904) : ∀ (t : List Int) (x : Int) (k : Nat), l.drop k = x :: t → M_thrumref06_rises_l0 l ((k + 1 : Nat) : Int) = some (if rising (x :: t) then .inr () else .inl false)
  | [], x, k, h => by
    have h1 := drop_at h
    rw [M_thrumref06_rises_l0, if_neg (drop_end h1.2.2)]
    simp [rising]
  | y :: t, x, k, h => by
    have h1 := drop_at h
    have h2 := drop_at h1.2.2
    have e1 : IntKind.i64.wrap (((k + 1 : Nat) : Int) - 1) = (k : Int) := by rw [i64_in _ (by omega)]; omega
    rw [M_thrumref06_rises_l0, if_pos h2.1, e1, if_pos (by omega), if_pos (by omega), h1.2.1, h2.2.1, i64_s (by omega), refRises_l0 l hl t y (k + 1) h1.2.2]
    by_cases hxy : x < y
    · rw [if_neg (by omega)]; simp [rising, hxy]
    · rw [if_pos (by omega)]; simp [rising, hxy]

theorem refRises_eq (l : List Int) (hl : l.length ≤ 4611686018427387904) : M_thrumref06_rises l = some (rising l) := by
  cases l with
  | nil => rw [M_thrumref06_rises, M_thrumref06_rises_l0]; simp [rising]
  | cons x t =>
    have := refRises_l0 (x :: t) hl t x 0 rfl
    rw [M_thrumref06_rises, show (1 : Int) = ((0 + 1 : Nat) : Int) from rfl, this]
    cases rising (x :: t) <;> rfl

theorem refCheck_l0 (dim : Int) (l : List Int) (hl : l.length ≤ 4611686018427387904) : ∀ (t : List Int) (k : Nat), l.drop k = t → M_thrumref06_Check_l0 dim l (k : Int) = some (if (t.all fun n => decide (0 ≤ n) && decide (n < dim)) then .inr () else .inl 1)
  | [], k, h => by
    rw [M_thrumref06_Check_l0, if_neg (drop_end h)]; rfl
  | x :: t, k, h => by
    have h1 := drop_at h
    rw [M_thrumref06_Check_l0, if_pos h1.1, if_pos (by omega), orB, h1.2.1, i64_s (by omega), refCheck_l0 dim l hl t (k + 1) h1.2.2]
    by_cases hx : 0 ≤ x ∧ x < dim
    · rw [if_neg (by simp; omega)]; simp [hx]
    · rw [if_pos (by simp; omega), if_neg (by simp; omega)]

theorem refCheck_eq (dim : Int) (l : List Int) (hl : l.length ≤ 4611686018427387904) : M_thrumref06_Check dim l = some (checkP dim l) := by
  rw [M_thrumref06_Check, orB, refRises_eq l hl, bindS, orB]
  have hc := refCheck_l0 dim l hl l 0 rfl
  rw [show ((0 : Nat) : Int) = 0 from rfl] at hc
  by_cases hm : meas dim = true
  · have hm' := hm
    simp only [meas, Bool.and_eq_true, decide_eq_true_eq] at hm'
    cases hr : rising l with
    | false => simp [checkP, placed, hr]
    | true =>
      rw [if_neg (by simp; omega), hc]
      by_cases ha : (l.all fun n => decide (0 ≤ n) && decide (n < dim)) = true
      · rw [if_pos ha, checkP, if_pos (by simp only [placed, hm, hr, ha, Bool.and_self])]; rfl
      · rw [if_neg ha, checkP, if_neg (by simp only [placed, hm, hr, Bool.true_and]; exact ha)]; rfl
  · have hm' := hm
    simp only [meas, Bool.and_eq_true, decide_eq_true_eq] at hm'
    rw [if_pos (by simp; omega), checkP, if_neg]
    simp only [placed, Bool.and_eq_true]
    exact fun h => hm h.1.1
theorem code_eq : ∀ (m : Nat) (n : Int), n.toNat ≤ m → 0 ≤ n → n ≤ 18446744073709551615 → M_thrumref03_code n = some (lebP n) := by
  intro m
  induction m with
  | zero =>
    intro n h h0 h1
    rw [M_thrumref03_code, if_pos (by omega), lebP_small (by omega)]
  | succ m ih =>
    intro n h h0 h1
    rw [M_thrumref03_code]
    by_cases hn : n < 128
    · rw [if_pos hn, lebP_small (by omega)]
    · have e1 : IntKind.u64.wrap (Int.tdiv n 128) = n / 128 := by
        rw [Int.tdiv_eq_ediv_of_nonneg h0, u64_in _ (by omega)]
      have e2 : IntKind.u8.wrap (IntKind.u8.wrap (Int.tmod n 128) + 128) = bOr .u8 (IntKind.u8.wrap n) 128 := by
        rw [rem_in _ _ h0, IntKind.wrap_u8 (n % 128), IntKind.wrap_u8 n]
        have h : ∀ i : Fin 256, IntKind.u8.wrap ((((i.val : Nat) : Int) % 128) + 128) = bOr .u8 ((i.val : Nat) : Int) 128 := by decide +kernel
        have := h ⟨(n % 256).toNat, by omega⟩
        simp only [Int.toNat_of_nonneg (show 0 ≤ n % 256 by omega)] at this
        rw [← this]
        congr 2
        omega
      have hlen := lebP_le (n / 128) (by omega)
      rw [if_neg hn, e1, ih (n / 128) (by omega) (by omega) (by omega), bindS, if_pos (room1 (by simp; omega)), e2]
      conv => rhs; rw [lebP, if_pos (by omega), shr7]
      rfl

theorem refPut_l0 (ns : List Int) (hn : ns.length ≤ 4611686018427387904) (hu : ∀ n ∈ ns, 0 ≤ n ∧ n ≤ 18446744073709551615) : ∀ (t : List Int) (k : Nat) (b : List Int), ns.drop k = t → b.length + (t.flatMap lebP).length ≤ 140737488355328 → M_thrumref03_Put_l0 ns (k : Int) b = some (b ++ t.flatMap lebP)
  | [], k, b, h, hb => by
    rw [M_thrumref03_Put_l0, if_neg (drop_end h)]; simp
  | x :: t, k, b, h, hb => by
    have h1 := drop_at h
    have hx := hu x (List.mem_of_mem_drop (by rw [h]; simp))
    simp only [List.flatMap_cons, List.length_append] at hb
    rw [M_thrumref03_Put_l0, if_pos h1.1, if_pos (by omega), h1.2.1, code_eq _ x (Nat.le_refl _) hx.1 hx.2, bindS, if_pos (room1 (by simp; omega)), i64_s (by omega), refPut_l0 ns hn hu t (k + 1) _ h1.2.2 (by simp only [List.length_append]; omega)]
    simp

theorem refPut_eq (b ns : List Int) (hn : ns.length ≤ 4611686018427387904) (hu : ∀ n ∈ ns, 0 ≤ n ∧ n ≤ 18446744073709551615) (hb : b.length + (ns.flatMap lebP).length ≤ 140737488355328) : M_thrumref03_Put b ns = some (b ++ ns.flatMap lebP) := by
  have h1 := refPut_l0 ns hn hu ns 0 b rfl hb
  rw [show ((0 : Nat) : Int) = 0 from rfl] at h1
  rw [M_thrumref03_Put, if_pos (room1 (by omega)), h1, bindS]

theorem refPut6_l0 (l : List Int) (hl : l.length ≤ 1099511627776) : ∀ (t : List Int) (k : Nat) (last : Int) (b : List Int), l.drop k = t → b.length + 10 * t.length ≤ 140737488355328 → M_thrumref06_Put_l0 l (k : Int) last b = some (b ++ (gaps last t).flatMap lebP)
  | [], k, last, b, h, hb => by
    rw [M_thrumref06_Put_l0, if_neg (drop_end h)]; simp [gaps]
  | x :: t, k, last, b, h, hb => by
    have h1 := drop_at h
    simp only [List.length_cons] at hb
    have h2 := lebP_le (IntKind.u64.wrap (IntKind.i64.wrap (IntKind.i64.wrap (x - last) - 1))) (u64_ge _).2
    rw [M_thrumref06_Put_l0, if_pos h1.1, if_pos (by omega), h1.2.1, refPut_eq b _ (by simp) (by intro n hn; simp only [List.mem_singleton] at hn; subst hn; exact u64_ge _) (by simp; omega), bindS, i64_s (by omega), refPut6_l0 l hl t (k + 1) x _ h1.2.2 (by simp; omega)]
    simp [gaps]

theorem refPut6_eq (dim : Int) (l : List Int) (hl : l.length ≤ 1099511627776) : M_thrumref06_Put dim l = some (putB dim l, checkP dim l) := by
  rw [M_thrumref06_Put, refCheck_eq dim l (by omega), bindS]
  by_cases h : checkP dim l = 0
  · have h2 := lebP_le (IntKind.u64.wrap (l.length : Int)) (u64_ge _).2
    have h1 := refPut6_l0 l hl l 0 (-1) (lebP (IntKind.u64.wrap (l.length : Int))) rfl (by omega)
    rw [show ((0 : Nat) : Int) = 0 from rfl] at h1
    rw [if_neg (by simp [h]), refPut_eq [] _ (by simp) (by intro n hn; simp only [List.mem_singleton] at hn; subst hn; exact u64_ge _) (by simp; omega), bindS]
    simp only [List.flatMap_cons, List.flatMap_nil, List.append_nil, List.nil_append]
    rw [h1, bindS, putB, if_pos h, h]
    simp
  · rw [if_pos h, putB, if_neg h]
theorem refZig_eq {x : Int} (h : I64 x) : M_thrumref03_Zig x = some (zigP x) := by
  unfold I64 at h
  unfold M_thrumref03_Zig zigP
  by_cases h0 : 0 ≤ x
  · rw [if_neg (by omega), if_pos h0]
    congr 1
    simp only [IntKind.wrap_u64]; omega
  · rw [if_pos (by omega), if_neg h0]
    congr 1
    simp only [IntKind.wrap_u64, IntKind.wrap_i64]; omega
theorem refSigned_l0 (ns : List Int) (hn : ns.length ≤ 4611686018427387904) (hi : ∀ n ∈ ns, I64 n) : ∀ (t : List Int) (k : Nat) (b : List Int), ns.drop k = t → b.length + (sigB t).length ≤ 140737488355328 → M_thrumref03_Signed_l0 ns (k : Int) b = some (b ++ sigB t)
  | [], k, b, h, hb => by rw [M_thrumref03_Signed_l0, if_neg (drop_end h)]; simp [sigB]
  | x :: t, k, b, h, hb => by
    obtain ⟨h1, h2, h3⟩ := drop_at h
    have hx : I64 x := hi x (by have : x ∈ ns.drop k := by rw [h]; simp
                                exact List.mem_of_mem_drop this)
    have hs : sigB (x :: t) = lebP (zigP x) ++ sigB t := by simp [sigB]
    have hz := zig_u64 hx
    rw [hs, List.length_append] at hb
    rw [M_thrumref03_Signed_l0, if_pos h1, if_pos ⟨by omega, h1⟩, h2, refZig_eq hx, bindS, code_eq _ _ (Nat.le_refl _) hz.1 hz.2, bindS, if_pos (room1 (by rw [List.length_append]; omega)), i64_s (by omega), refSigned_l0 ns hn hi t (k + 1) _ h3 (by rw [List.length_append]; omega), hs, List.append_assoc]
theorem refSigned_eq (b ns : List Int) (hn : ns.length ≤ 4611686018427387904) (hi : ∀ n ∈ ns, I64 n) (hb : b.length + (sigB ns).length ≤ 140737488355328) : M_thrumref03_Signed b ns = some (b ++ sigB ns) := by
  unfold M_thrumref03_Signed
  rw [if_pos (room1 (by omega)), show M_thrumref03_Signed_l0 ns 0 b = _ from refSigned_l0 ns hn hi ns 0 b rfl hb, bindS]

/-- So many bits on. -/
def AbN : Nat → Wd → Wd
  | 0, w => w
  | n + 1, w => AbN n (Ab w)
theorem low_bit (w : Wd) : bAnd .u32 (Un w) 1 = if w.getLsbD 0 then 1 else 0 := by
  unfold bAnd
  show IntKind.u32.wrap ((BitVec.ofInt 32 (Un w) &&& BitVec.ofInt 32 1).toNat : Int) = _
  rw [of_Un, IntKind.wrap_u32, BitVec.toNat_and]
  have : (BitVec.ofInt 32 1).toNat = 2 ^ 1 - 1 := rfl
  rw [this, Nat.and_two_pow_sub_one_eq_mod]
  have h : w.getLsbD 0 = decide (w.toNat % 2 = 1) := by rw [BitVec.getLsbD, Nat.testBit_zero]
  rw [h]
  by_cases h2 : w.toNat % 2 = 1
  · simp [h2]
  · simp [h2]; omega
theorem shr_Un1 (w : Wd) : sShr .u32 (Un w) 1 = Un (w >>> 1) := shr_Un w 1 (by omega)
theorem poly_Un (w : Wd) : bXor .u32 (Un w) 3988292384 = Un (w ^^^ poly) := xor_Un w poly

theorem refMore_l1 (a1 : List Int) (x0 : Int) : ∀ (k i : Nat) (w : Wd), i + k = 8 → M_thrumref04_More_l1 a1 x0 (i : Int) (Un w) = some (Un (AbN k w))
  | 0, i, w, h => by rw [M_thrumref04_More_l1, if_neg (by omega)]; rfl
  | k + 1, i, w, h => by
    rw [M_thrumref04_More_l1, if_pos (by omega), low_bit, i64_s (by omega), shr_Un1, poly_Un, refMore_l1 a1 x0 k (i + 1) _ (by omega), refMore_l1 a1 x0 k (i + 1) _ (by omega)]
    rw [AbN, Ab]
    cases w.getLsbD 0 <;> simp

theorem wide_Yn (y : BitVec 8) : IntKind.u32.wrap (Yn y) = Un (y.setWidth 32) := by
  rw [IntKind.wrap_u32]
  have := y.isLt
  unfold Yn Un
  rw [BitVec.toNat_setWidth]
  omega

theorem refMore_l0 (b : List (BitVec 8)) (hb : b.length < 4611686018427387904) : ∀ (t : List (BitVec 8)) (k : Nat) (c : Wd), b.drop k = t → M_thrumref04_More_l0 (b.map Yn) (k : Int) (Un c) = some (Un (t.foldl feed c))
  | [], k, c, h => by
    have := List.drop_eq_nil_iff.1 h
    rw [M_thrumref04_More_l0, if_neg (by rw [List.length_map]; omega)]; rfl
  | y :: t, k, c, h => by
    have h' : (b.map Yn).drop k = Yn y :: t.map Yn := by rw [← List.map_drop, h]; rfl
    have g := drop_at h'
    have g2 : b.drop (k + 1) = t := by
      have : b.drop (k + 1) = (b.drop k).drop 1 := by rw [List.drop_drop]
      rw [this, h]; rfl
    rw [M_thrumref04_More_l0, if_pos g.1, if_pos ⟨by omega, g.1⟩, g.2.1, wide_Yn, xor_Un]
    have := refMore_l1 (b.map Yn) (k : Int) 8 0 (c ^^^ y.setWidth 32) (by omega)
    rw [show ((0 : Nat) : Int) = 0 from rfl] at this
    rw [this, bindS, i64_s (by have := g.1; rw [List.length_map] at this; omega), refMore_l0 b hb t (k + 1) _ g2]
    rfl

theorem refMore_eq (s : Wd) (b : List (BitVec 8)) (hb : b.length < 4611686018427387904) : M_thrumref04_More (Un s) (b.map Yn) = some (Un (moreB s b)) := by
  rw [M_thrumref04_More, bindS]
  have h1 : bXor .u32 (if IntKind.signed .u32 then -1 else IntKind.max .u32) (Un s) = Un (~~~ s) := not_Un s
  have h2 : ∀ w : Wd, bXor .u32 (if IntKind.signed .u32 then -1 else IntKind.max .u32) (Un w) = Un (~~~ w) := not_Un
  rw [h1]
  have := refMore_l0 b hb b 0 (~~~ s) rfl
  rw [show ((0 : Nat) : Int) = 0 from rfl] at this
  rw [this, bindS, h2]
  rfl

theorem refSum_eq (b : List (BitVec 8)) (hb : b.length < 4611686018427387904) : M_thrumref04_Sum (b.map Yn) = some (Un (sumB b)) := by
  rw [M_thrumref04_Sum, ← Un0, refMore_eq _ _ hb, bindS]; rfl

theorem refSeal_eq (b : List (BitVec 8)) (hb : b.length ≤ 70000) : M_thrumref04_Seal (b.map Yn) = some (if b.length > 65532 then ([], 3) else ((sealB b).map Yn, 0)) := by
  rw [M_thrumref04_Seal]
  by_cases h : b.length > 65532
  · rw [if_pos (by rw [List.length_map]; omega), if_pos h]
  · rw [if_neg (by rw [List.length_map]; omega), if_neg h, refSum_eq _ (by omega), bindS, if_pos (room1 (by rw [List.length_map]; omega)), if_pos (room1 (by simp; omega)), low_Un, shr_Un8, low_Un]
    have h16 : sShr .u32 (Un (sumB b)) 16 = Un (sumB b >>> 16) := shr_Un _ 16 (by omega)
    have h24 : sShr .u32 (Un (sumB b)) 24 = Un (sumB b >>> 24) := shr_Un _ 24 (by omega)
    rw [h16, h24, low_Un, low_Un]
    simp [sealB, le4]

theorem refSeal_in (b : List (BitVec 8)) (hb : b.length ≤ 65532) : M_thrumref04_Seal (b.map Yn) = some ((sealB b).map Yn, 0) := by
  rw [refSeal_eq b (by omega), if_neg (by omega)]

set_option linter.unusedSimpArgs false
set_option linter.unusedSectionVars false
set_option maxRecDepth 100000

theorem eqLoop {α : Type} [Inhabited α] [DecidableEq α] (F : Int → Option (Sum Bool Unit)) (a b : List α)
    (hF : ∀ k : Int, F k = if k < (a.length : Int) then if 0 ≤ k ∧ k < (a.length : Int) then if 0 ≤ k ∧ k < (b.length : Int) then if at' a k ≠ at' b k then some (.inl false) else F (IntKind.i64.wrap (k + 1)) else none else none else some (.inr ()))
    (hl : a.length = b.length) (hb : a.length ≤ 4611686018427387904) : ∀ (t u : List α) (k : Nat), a.drop k = t → b.drop k = u → F (k : Int) = some (if t = u then .inr () else .inl false)
  | [], u, k, h1, h2 => by
    have := List.drop_eq_nil_iff.1 h1
    have h3 : u = [] := by rw [← h2]; exact List.drop_eq_nil_of_le (by omega)
    rw [hF, if_neg (drop_end h1), h3]; rfl
  | x :: t, [], k, h1, h2 => by
    have := List.drop_eq_nil_iff.1 h2
    have := (drop_at h1).1
    omega
  | x :: t, y :: u, k, h1, h2 => by
    have g1 := drop_at h1
    have g2 := drop_at h2
    rw [hF, if_pos g1.1, if_pos (by omega), if_pos (by omega), g1.2.1, g2.2.1, i64_s (by omega), eqLoop F a b hF hl hb t u (k + 1) g1.2.2 g2.2.2]
    by_cases hxy : x = y
    · subst hxy; simp
    · simp [hxy]
theorem eqFin {α : Type} [Inhabited α] [DecidableEq α] (F : Int → Option (Sum Bool Unit)) (a b : List α)
    (hF : ∀ k : Int, F k = if k < (a.length : Int) then if 0 ≤ k ∧ k < (a.length : Int) then if 0 ≤ k ∧ k < (b.length : Int) then if at' a k ≠ at' b k then some (.inl false) else F (IntKind.i64.wrap (k + 1)) else none else none else some (.inr ()))
    (hb : a.length ≤ 4611686018427387904) : (if (a.length : Int) ≠ (b.length : Int) then some false else (F 0) >>= fun e => match e with | .inl r => some r | .inr _ => some true) = some (decide (a = b)) := by
  by_cases hl : a.length = b.length
  · have := eqLoop F a b hF hl hb a b 0 rfl rfl
    rw [show ((0 : Nat) : Int) = 0 from rfl] at this
    rw [if_neg (by omega), this]
    by_cases h : a = b
    · simp [h]
    · simp [h]
  · rw [if_pos (by omega), decide_eq_false (fun h => hl (by rw [h]))]
theorem ref2Same_eq (a b : List Int) (hb : a.length ≤ 4611686018427387904) : M_thrumref02_Same a b = some (decide (a = b)) := by
  rw [M_thrumref02_Same]; exact eqFin _ a b (fun k => by rw [M_thrumref02_Same_l0]) hb
theorem ref3Numbers_eq (a b : List Int) (hb : a.length ≤ 4611686018427387904) : M_thrumref03_SameNumbers a b = some (decide (a = b)) := by
  rw [M_thrumref03_SameNumbers]; exact eqFin _ a b (fun k => by rw [M_thrumref03_SameNumbers_l0]) hb
theorem ref5Signs_eq (a b : List Bool) (hb : a.length ≤ 4611686018427387904) : M_thrumref05_SameSigns a b = some (decide (a = b)) := by
  rw [M_thrumref05_SameSigns]; exact eqFin _ a b (fun k => by rw [M_thrumref05_SameSigns_l0]) hb
theorem ref6Equal_eq (a b : List Int) (hb : a.length ≤ 4611686018427387904) : M_thrumref06_Equal a b = some (decide (a = b)) := by
  rw [M_thrumref06_Equal]; exact eqFin _ a b (fun k => by rw [M_thrumref06_Equal_l0]) hb
/-- A vector's lists are no longer than memory. -/
structure Lens (s : T_api_Sent) : Prop where
  l : s.F_L.length ≤ 4611686018427387904
  v : s.F_V.length ≤ 4611686018427387904
  e : s.F_Lev.length ≤ 4611686018427387904
  n : s.F_Neg.length ≤ 4611686018427387904
theorem SameSent_eq {a b : T_api_Sent} (h : Lens a) : M_thrumref07_SameSent a b = some (decide (a = b)) := by
  rw [M_thrumref07_SameSent]
  simp only [ref6Equal_eq _ _ h.l, ref2Same_eq _ _ h.v, ref3Numbers_eq _ _ h.e, ref5Signs_eq _ _ h.n, bindS, andB]
  congr 1
  rw [Bool.eq_iff_iff]
  cases a; cases b
  simp [and_assoc]
end Go.Proofs.YtelobmiooldoaaaGreat.Abs
