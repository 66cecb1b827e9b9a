/- Loading, planning, doing and saving, plainly. Conditions: none but that bytes are bytes. -/
import Derived.Test.YtelobmiooldoaaaPS1
namespace Go.Proofs.Ytelobmiooldoaaa.Abs
open Go Go.RowKit Go.IntWalk Crc
set_option linter.unusedVariables false
set_option linter.unusedSimpArgs false
set_option maxRecDepth 100000

theorem keptS_num (w : Nat) (h : List Int) (hc : List (List Int)) : 0 ≤ (keptS w h hc).2 ∧ (keptS w h hc).2 ≤ 1073741824 := by
  unfold keptS
  split
  · rename_i hk
    simp only [headOk, Bool.and_eq_true, decide_eq_true_eq] at hk
    have hu := two_u64 _ hk.1.1.1.1.2
    split
    · simp
    · simp only; omega
  · simp

/-- What a store's cells keep. -/
def kOf (cells : List (List Int)) (half w : Nat) : List Int × Int := keptS w (cells.getD w []) (halfC cells half w)
def loadS (cells : List (List Int)) (half : Nat) : List Int × Int × Int :=
  if (kOf cells half 1).2 > (kOf cells half 0).2 then ((kOf cells half 1).1, (kOf cells half 1).2, 0)
  else if (kOf cells half 0).2 = 0 then ([], 0, 8) else ((kOf cells half 0).1, (kOf cells half 0).2, 0)
theorem Load_ok {cells : List (List Int)} {half : Nat} (h : okS cells half) : M_store_Load ⟨cells⟩ = some (loadS cells half) := by
  have k0 := kept_eq h (w := 0) (by omega)
  have k1 := kept_eq h (w := 1) (by omega)
  have n0 := keptS_num 0 (cells.getD 0 []) (halfC cells half 0)
  simp only [Int.natCast_zero, Int.natCast_one] at k0 k1
  unfold M_store_Load loadS kOf
  rw [Check_ok h, bindS, if_neg (by simp), k0, bindS, k1, bindS]
  split
  · rw [if_neg (by omega)]
  · split <;> rfl
theorem Load_no {cells : List (List Int)} (hl : cells.length ≤ 1099511627776) (hu : ∀ c ∈ cells, U8s c) (h : ∀ half, ¬ okS cells half) : M_store_Load ⟨cells⟩ = some ([], 0, 1) := by
  unfold M_store_Load
  rw [Check_no hl hu h, bindS, if_pos (by decide)]

/-- A text's parts, and the head behind them. -/
def headS (g n : Int) : List Int := sealI (lebP g ++ lebP n)
def partsS (half w : Nat) (b : List Int) : List T_api_Put := (List.range (chunkN 256 b.length)).map fun i => ⟨((2 + w * half + i : Nat) : Int), chunkE 256 i b⟩
def putsS (half w : Nat) (g : Int) (b : List Int) : List T_api_Put := partsS half w b ++ [⟨(w : Int), headS g b.length⟩]

theorem head_code_len {g n : Int} (hg : g ≤ 18446744073709551615) (hn : n ≤ 18446744073709551615) : (lebP g ++ lebP n).length ≤ 20 := by
  have h1 := lebP_le g hg; have h2 := lebP_le n hn
  rw [List.length_append]; omega
theorem headS_len {g n : Int} (hg : g ≤ 18446744073709551615) (hn : n ≤ 18446744073709551615) : (headS g n).length ≤ 24 := by
  have := head_code_len hg hn
  rw [headS, sealI_len]; omega
theorem code_u8 (g n : Int) : U8s (lebP g ++ lebP n) := U8s_app (lebP_u8 _ g (Nat.le_refl _)) (lebP_u8 _ n (Nat.le_refl _))

theorem plan_fold (b : List Int) (q : Int) (hb : b.length ≤ 1099511627776) (half w : Nat) (hh : half ≤ 64) (hw : w < 2) (F : List T_api_Put → List Int → Option (List T_api_Put))
    (hF : ∀ (x : List T_api_Put) (c : List Int), x.length ≤ 2199023255552 → c.length ≤ 256 → F x c = some (x ++ [⟨((2 + w * half + x.length : Nat) : Int), c⟩])) :
    ∀ (m k : Nat) (acc : List T_api_Put), k + m = chunkN 256 b.length → acc.length = k → List.foldlM F acc ((List.range' k m).map fun i => chunkE 256 i b) = some (acc ++ (List.range' k m).map fun i => ⟨((2 + w * half + i : Nat) : Int), chunkE 256 i b⟩)
  | 0, k, acc, h, ha => by simp
  | m + 1, k, acc, h, ha => by
    have hN : chunkN 256 b.length ≤ b.length + 255 := by unfold chunkN; exact Nat.le_trans (Nat.div_le_self _ _) (by omega)
    rw [List.range'_succ, List.map_cons, List.foldlM_cons, hF _ _ (by omega) (by simp [chunkE]; omega)]
    simp only [Option.bind_eq_bind, Option.bind_some]
    rw [plan_fold b q hb half w hh hw F hF m (k + 1) _ (by omega) (by simp [ha]), List.map_cons, ha]
    simp

theorem chunk_u8 {b : List Int} (h : U8s b) (n k : Nat) : U8s (chunkE n k b) := fun x hx => h x (List.mem_of_mem_drop (List.mem_of_mem_take hx))
theorem chunk_len (b : List Int) (n k : Nat) : (chunkE n k b).length ≤ n := by simp [chunkE]; omega

theorem Plan_ok {cells : List (List Int)} {half : Nat} (h : okS cells half) {b : List Int} (hu : U8s b) {w : Nat} (hw : ((w : Nat) : Int) = ((loadS cells half).2.1 + 1) % 2) :
    M_store_Plan ⟨cells⟩ b = some (if b.length > 256 * half then ([], 3) else if (loadS cells half).2.1 + 1 > 1073741824 then ([], 1) else (putsS half w ((loadS cells half).2.1 + 1) b, 0)) := by
  have hlo := h.lo; have hhi := h.hi
  have hg : 0 ≤ (loadS cells half).2.1 ∧ (loadS cells half).2.1 ≤ 1073741824 := by
    have n0 := keptS_num 0 (cells.getD 0 []) (halfC cells half 0)
    have n1 := keptS_num 1 (cells.getD 1 []) (halfC cells half 1)
    unfold loadS kOf
    repeat' split
    all_goals simp only; omega
  have he : (loadS cells half).2.2 = 0 ∨ (loadS cells half).2.2 = 8 := by
    unfold loadS
    repeat' split
    all_goals simp
  obtain ⟨L, hL⟩ : ∃ L, loadS cells half = L := ⟨_, rfl⟩
  have hload := Load_ok h
  rw [hL] at hg he hw hload ⊢
  have hw2 : w < 2 := by omega
  unfold M_store_Plan
  rw [hload, bindS]
  have e1 : ((if L.2.2 ≠ 0 then some (L.2.2 != 8) else some false : Option Bool)) = some false := by
    rcases he with e | e
    · rw [if_neg (by simp [e])]
    · rw [if_pos (by simp [e]), e]; rfl
  have eg : IntKind.i64.wrap (L.2.1 + 1) = L.2.1 + 1 := by rw [i64_in _ (by omega)]
  rw [e1, bindS, if_neg (by simp), eg, and1i (by omega) (by omega), ← hw, half_eq h hw2, bindS, halfC_len h hw2]
  have eh : IntKind.i64.wrap ((half : Int) * 256) = 256 * (half : Int) := by rw [i64_in _ (by omega)]; omega
  rw [eh]
  by_cases c1 : b.length > 256 * half
  · rw [if_pos (by omega), if_pos c1]
  rw [if_neg (by omega), if_neg c1]
  have hb : b.length ≤ 16384 := by omega
  by_cases c2 : L.2.1 + 1 > 1073741824
  · rw [if_pos c2, if_pos c2]
  rw [if_neg c2, if_neg c2]
  have hwl : w * half ≤ half := by
    have := Nat.mul_le_mul_right half (show w ≤ 1 by omega)
    omega
  have hwm : (w : Int) * (half : Int) = ((w * half : Nat) : Int) := by simp
  have hN : chunkN 256 b.length ≤ b.length + 255 := by unfold chunkN; exact Nat.le_trans (Nat.div_le_self _ _) (by omega)
  rw [show M_slices_Chunk_byte_byte b 256 = some (b, 256) from rfl, bindS]
  simp only
  rw [if_pos ⟨by omega, by omega, by omega⟩]
  have hf := plan_fold b 0 (by omega) half w hhi hw2 (fun x_5 c_6 => (M_slices_Clone_byte_byte c_6) >>= fun r7 =>
          if room 32 (x_5 ++ [(⟨IntKind.i64.wrap ((IntKind.i64.wrap (2 + (IntKind.i64.wrap ((w : Int) * (half : Int))))) + (x_5.length : Int)), r7⟩ : T_api_Put)]).length then
            some (x_5 ++ [(⟨IntKind.i64.wrap ((IntKind.i64.wrap (2 + (IntKind.i64.wrap ((w : Int) * (half : Int))))) + (x_5.length : Int)), r7⟩ : T_api_Put)])
          else none) (fun x c hx hc => by
      rw [clone_eq c (by omega), bindS, hwm, i64_in ((w * half : Nat) : Int) (by omega), i64_in (2 + ((w * half : Nat) : Int)) (by omega), i64_in (2 + ((w * half : Nat) : Int) + (x.length : Int)) (by omega)]
      rw [if_pos (room_of (by omega) (by simp; omega))]
      congr 4) (chunkN 256 b.length) 0 [] (by omega) rfl
  unfold chunksL
  rw [List.range_eq_range', show Int.toNat 256 = 256 from rfl, hf, bindS, List.nil_append]
  have eu : IntKind.u64.wrap (L.2.1 + 1) = L.2.1 + 1 := by rw [IntKind.wrap_u64]; omega
  have el : IntKind.u64.wrap (b.length : Int) = (b.length : Int) := by rw [IntKind.wrap_u64]; omega
  rw [eu, el]
  have hcl := head_code_len (g := L.2.1 + 1) (n := (b.length : Int)) (by omega) (by omega)
  rw [leb_Put_eq [] _ (by simp) (by simp only [List.flatMap_cons, List.flatMap_nil, List.append_nil, List.length_nil]; omega), bindS]
  simp only [List.nil_append, List.flatMap_cons, List.flatMap_nil, List.append_nil]
  rw [sealI_eq (code_u8 _ _) (by omega), bindS, if_neg (by simp), if_pos (room_of (by omega) (by simp; omega))]
  rw [putsS, partsS, headS, List.range_eq_range']

theorem Plan_no {cells : List (List Int)} (hl : cells.length ≤ 1099511627776) (hu : ∀ c ∈ cells, U8s c) (h : ∀ half, ¬ okS cells half) (b : List Int) : M_store_Plan ⟨cells⟩ b = some ([], 1) := by
  unfold M_store_Plan
  rw [Load_no hl hu h]; rfl

/-- A write that may be. -/
def okP (n : Nat) (p : T_api_Put) : Prop := 0 ≤ p.F_At ∧ p.F_At < (n : Int) ∧ p.F_B.length ≤ 256 ∧ U8s p.F_B
theorem Do_l0 (y : List (List Int)) (hy : y.length ≤ 1099511627776) (hc : ∀ c ∈ y, c.length ≤ 256) : ∀ (m k : Nat), k + m = y.length → M_store_Do_l0 y (k : Int) y = some y
  | 0, k, h => by rw [M_store_Do_l0, if_neg (by omega)]
  | m + 1, k, h => by
    have hk : k < y.length := by omega
    have hx : at' y (k : Int) = y[k] := by rw [at'_nat, List.getD_eq_getElem?_getD, List.getElem?_eq_getElem hk]; rfl
    rw [M_store_Do_l0, if_pos (by omega), if_pos ⟨by omega, by omega⟩, hx, clone_eq _ (by have := hc y[k] (List.getElem_mem hk); omega), bindS, if_pos ⟨by omega, by omega⟩, bindS, Int.toNat_natCast, List.set_getElem_self, i64_s (by omega)]
    exact Do_l0 y hy hc m (k + 1) (by omega)
theorem Do_ok {cells : List (List Int)} {half : Nat} (h : okS cells half) {p : T_api_Put} (hp : okP cells.length p) : M_store_Do ⟨cells⟩ p = some (cells.set p.F_At.toNat p.F_B, 0) := by
  have hhi := h.hi; have hlen := h.len
  obtain ⟨h1, h2, h3, h4⟩ := hp
  unfold M_store_Do
  rw [Check_ok h, bindS, orB, orB, orB]
  have e : (((decide ((0 : Int) ≠ 0) || decide (p.F_At < 0)) = true)) = False := by simp; omega
  have d1 : decide (p.F_At < 0) = false := decide_eq_false (by omega)
  have d2 : decide (p.F_At ≥ (cells.length : Int)) = false := decide_eq_false (by omega)
  have d3 : decide ((p.F_B.length : Int) > 256) = false := decide_eq_false (by omega)
  simp only [d1, d2, d3, ne_eq, not_true_eq_false, decide_false, Bool.or_false, Bool.false_eq_true, if_false]
  rw [if_pos ⟨by omega, by omega, by omega, by omega⟩, bindS]
  have ec : cpyL (List.replicate (Int.toNat (cells.length : Int)) ([] : List Int)) cells = cells := by
    unfold cpyL
    rw [Int.toNat_natCast, List.length_replicate, List.take_length, List.drop_of_length_le (by simp), List.append_nil]
  rw [ec, if_pos ⟨h1, h2⟩, bindS, bindS]
  have hd := Do_l0 (cells.set p.F_At.toNat p.F_B) (by simp; omega) (fun c hc => by
    rcases List.mem_or_eq_of_mem_set hc with hc | rfl
    · exact (h.cell c hc).1
    · exact h3) (cells.set p.F_At.toNat p.F_B).length 0 (by omega)
  rw [show M_store_Do_l0 (cells.set p.F_At.toNat p.F_B) 0 (cells.set p.F_At.toNat p.F_B) = some (cells.set p.F_At.toNat p.F_B) from hd, bindS]
theorem okS_set {cells : List (List Int)} {half : Nat} (h : okS cells half) {p : T_api_Put} (hp : okP cells.length p) : okS (cells.set p.F_At.toNat p.F_B) half :=
  ⟨h.lo, h.hi, by simp [h.len], fun c hc => by
    rcases List.mem_or_eq_of_mem_set hc with hc | rfl
    · exact h.cell c hc
    · exact ⟨hp.2.2.1, hp.2.2.2⟩⟩

/-- All writes done. -/
def doAll (cells : List (List Int)) (ps : List T_api_Put) : List (List Int) := ps.foldl (fun c p => c.set p.F_At.toNat p.F_B) cells
theorem doAll_len : ∀ (ps : List T_api_Put) (cells : List (List Int)), (doAll cells ps).length = cells.length
  | [], _ => rfl
  | p :: ps, cells => by unfold doAll; rw [List.foldl_cons]; have := doAll_len ps (cells.set p.F_At.toNat p.F_B); unfold doAll at this; rw [this]; simp
theorem doAll_ok {half : Nat} : ∀ (ps : List T_api_Put) (cells : List (List Int)), okS cells half → (∀ p ∈ ps, okP cells.length p) → okS (doAll cells ps) half
  | [], _, h, _ => h
  | p :: ps, cells, h, hp => by
    unfold doAll
    rw [List.foldl_cons]
    exact doAll_ok ps _ (okS_set h (hp p (by simp))) (fun q hq => by rw [List.length_set]; exact hp q (by simp [hq]))
theorem doAll_other : ∀ (ps : List T_api_Put) (cells : List (List Int)) (j : Nat), (∀ p ∈ ps, p.F_At.toNat ≠ j) → (doAll cells ps)[j]? = cells[j]?
  | [], _, _, _ => rfl
  | p :: ps, cells, j, h => by
    unfold doAll
    rw [List.foldl_cons]
    have := doAll_other ps (cells.set p.F_At.toNat p.F_B) j fun q hq => h q (by simp [hq])
    unfold doAll at this
    rw [this, List.getElem?_set_ne (h p (by simp))]

theorem Save_l0 {half : Nat} (r1 : List T_api_Put × Int) (hr : r1.1.length ≤ 1099511627776) : ∀ (t : List T_api_Put) (k : Nat) (cells : List (List Int)), r1.1.drop k = t → okS cells half → (∀ p ∈ t, okP cells.length p) →
    M_store_Save_l0 r1 (k : Int) 0 cells = some (0, doAll cells t)
  | [], k, cells, h, hc, hp => by rw [M_store_Save_l0, if_neg (drop_end h)]; rfl
  | p :: t, k, cells, h, hc, hp => by
    obtain ⟨h1, h2, h3⟩ := drop_at h
    rw [M_store_Save_l0, if_pos h1, if_pos ⟨by omega, h1⟩, if_pos rfl, h2, Do_ok hc (hp p (by simp)), bindS, i64_s (by omega)]
    simp only
    rw [Save_l0 r1 hr t (k + 1) _ h3 (okS_set hc (hp p (by simp))) (fun q hq => by rw [List.length_set]; exact hp q (by simp [hq]))]
    rfl
theorem Save_err_l0 (r1 : List T_api_Put × Int) (hr : r1.1.length ≤ 1099511627776) (e : Int) (he : e ≠ 0) (cells : List (List Int)) : ∀ (t : List T_api_Put) (k : Nat), r1.1.drop k = t → M_store_Save_l0 r1 (k : Int) e cells = some (e, cells)
  | [], k, h => by rw [M_store_Save_l0, if_neg (drop_end h)]
  | p :: t, k, h => by
    obtain ⟨h1, h2, h3⟩ := drop_at h
    rw [M_store_Save_l0, if_pos h1, if_pos ⟨by omega, h1⟩, if_neg he, i64_s (by omega)]
    exact Save_err_l0 r1 hr e he cells t (k + 1) h3

theorem putsS_ok {half w : Nat} (hw : w < 2) (hh : 1 ≤ half) {g : Int} (hg : g ≤ 18446744073709551615) {b : List Int} (hu : U8s b) (hb : b.length ≤ 256 * half) (h64 : half ≤ 64) : ∀ p ∈ putsS half w g b, okP (2 + 2 * half) p := by
  have hwl : w * half ≤ half := by
    have := Nat.mul_le_mul_right half (show w ≤ 1 by omega)
    omega
  intro p hp
  unfold putsS at hp
  rcases List.mem_append.1 hp with hp | hp
  · obtain ⟨i, hi, rfl⟩ := List.mem_map.1 hp
    have hi' := List.mem_range.1 hi
    have hN : chunkN 256 b.length ≤ half := by
      unfold chunkN
      have : (b.length + 256 - 1) / 256 < half + 1 := by rw [Nat.div_lt_iff_lt_mul (by omega)]; omega
      omega
    exact ⟨by simp only; omega, by simp only; omega, by simp only; exact chunk_len _ _ _, chunk_u8 hu _ _⟩
  · simp only [List.mem_singleton] at hp; subst hp
    exact ⟨by simp only; omega, by simp only; omega, by simp only; have := headS_len (g := g) (n := (b.length : Int)) hg (by omega); omega, sealI_u8 _⟩
end Go.Proofs.Ytelobmiooldoaaa.Abs
