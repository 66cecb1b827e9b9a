/- What is kept when so many writes of a plan are done, plainly. Conditions: none but that bytes are bytes. -/
import Derived.Test.YtelobmiooldoaaaPS2
namespace Go.Proofs.Ytelobmiooldoaaa.Abs
open Go Go.RowKit Go.IntWalk Crc
set_option linter.unusedVariables false
set_option linter.unusedSimpArgs false
set_option maxRecDepth 100000

theorem gath_chunks (b : List Int) (rest : List (List Int)) : ∀ (m k : Nat), k + m = chunkN 256 b.length → gath (b.length - k * 256) (b.take (k * 256)) ((List.range' k m).map (fun i => chunkE 256 i b) ++ rest) = some b
  | 0, k, h => by
    have h1 := mt (chunkN_lt (n := 256) (len := b.length) (k := k) (by omega)).2 (by omega)
    rw [show b.length - k * 256 = 0 by omega, List.take_of_length_le (by omega)]
    simp [gath]
  | m + 1, k, h => by
    have h1 := (chunkN_lt (n := 256) (len := b.length) (k := k) (by omega)).1 (by omega)
    obtain ⟨n, hn⟩ : ∃ n, b.length - k * 256 = n + 1 := ⟨b.length - k * 256 - 1, by omega⟩
    have hl : (chunkE 256 k b).length = min (n + 1) 256 := by simp [chunkE]; omega
    rw [List.range'_succ, List.map_cons, List.cons_append, hn, gath, if_pos hl]
    have e1 : n + 1 - (chunkE 256 k b).length = b.length - (k + 1) * 256 := by omega
    have e2 : b.take (k * 256) ++ chunkE 256 k b = b.take ((k + 1) * 256) := by
      rw [chunkE, ← List.take_add]; congr 1; omega
    rw [e1, e2]
    exact gath_chunks b rest m (k + 1) (by omega)

theorem headS_open {g n : Int} (hg : 0 ≤ g ∧ g ≤ 18446744073709551615) (hn : 0 ≤ n ∧ n ≤ 18446744073709551615) : openI (headS g n) = (lebP g ++ lebP n, 0) := by
  have := head_code_len hg.2 hn.2
  exact openI_seal (code_u8 g n) (by omega)
theorem keptS_new {w : Nat} {g : Int} {half : Nat} {b : List Int} {rest : List (List Int)} {hc : List (List Int)} (hg : 1 ≤ g ∧ g ≤ 1073741824) (hw : g % 2 = w) (hb : b.length ≤ 256 * half) (hlen : hc.length = half) (hh : half ≤ 64)
    (hhc : hc = (List.range (chunkN 256 b.length)).map (fun i => chunkE 256 i b) ++ rest) : keptS w (headS g b.length) hc = (b, g) := by
  have e := headS_open (g := g) (n := (b.length : Int)) ⟨by omega, by omega⟩ ⟨by omega, by omega⟩
  have e2 := two_put (g := g) (n := (b.length : Int)) ⟨by omega, by omega⟩ ⟨by omega, by omega⟩
  have h0 : at' [g, (b.length : Int)] 0 = g := rfl
  have h1 : at' [g, (b.length : Int)] 1 = (b.length : Int) := rfl
  have hok : headOk w (headS g b.length) hc.length = true := by
    unfold headOk
    rw [e]; simp only; rw [e2]; simp only
    rw [h0, h1, hlen]
    simp [hw]; omega
  unfold keptS
  rw [if_pos hok, e]; simp only; rw [e2]; simp only
  rw [h0, h1, Int.toNat_natCast, hhc, List.range_eq_range']
  have := gath_chunks b rest (chunkN 256 b.length) 0 (by omega)
  simp only [Nat.zero_mul, Nat.sub_zero, List.take_zero] at this
  rw [this]

/-- A head's number. -/
def headN (w : Nat) (h : List Int) (half : Nat) : Int := if headOk w h half = true then at' (two (openI h).1).1 0 else 0
theorem keptS_head (w : Nat) (h : List Int) (hc : List (List Int)) : (keptS w h hc).2 = 0 ∨ (keptS w h hc).2 = headN w h hc.length := by
  unfold keptS headN
  split
  · split
    · exact .inl rfl
    · exact .inr rfl
  · exact .inl rfl
theorem headN_nil (w half : Nat) : headN w [] half = 0 := by
  unfold headN headOk
  rw [openI_nil]; simp
theorem keptS_nil (w : Nat) (hc : List (List Int)) : keptS w [] hc = ([], 0) := by
  unfold keptS headOk
  rw [openI_nil]; simp

/-- Writes into one head and its half. -/
def inHalf (half w : Nat) (p : T_api_Put) : Prop := p.F_At.toNat = w ∨ (2 + w * half ≤ p.F_At.toNat ∧ p.F_At.toNat < 2 + w * half + half)
theorem getD_of {cells cells' : List (List Int)} {j : Nat} (h : cells'[j]? = cells[j]?) : cells'.getD j [] = cells.getD j [] := by simp [List.getD_eq_getElem?_getD, h]
theorem halfC_ext {cells cells' : List (List Int)} {half w : Nat} (h : ∀ j, 2 + w * half ≤ j → j < 2 + w * half + half → cells'[j]? = cells[j]?) : halfC cells' half w = halfC cells half w := by
  unfold halfC
  apply List.ext_getElem?
  intro i
  simp only [List.getElem?_take, List.getElem?_drop]
  split
  · exact h _ (by omega) (by omega)
  · rfl
theorem kOf_other {cells : List (List Int)} {half w w' : Nat} {ps : List T_api_Put} (hw : w + w' = 1) (h : ∀ p ∈ ps, inHalf half w p) : kOf (doAll cells ps) half w' = kOf cells half w' := by
  have hw2 : w = 0 ∧ w' = 1 ∨ w = 1 ∧ w' = 0 := by omega
  have key : ∀ j, (j = w' ∨ (2 + w' * half ≤ j ∧ j < 2 + w' * half + half)) → (doAll cells ps)[j]? = cells[j]? := by
    intro j hj
    refine doAll_other ps cells j fun p hp e => ?_
    have := h p hp
    unfold inHalf at this
    rcases hw2 with ⟨rfl, rfl⟩ | ⟨rfl, rfl⟩ <;> omega
  unfold kOf
  rw [getD_of (key w' (.inl rfl)), halfC_ext fun j h1 h2 => key j (.inr ⟨h1, h2⟩)]
theorem headC_same {cells : List (List Int)} {w : Nat} {ps : List T_api_Put} (h : ∀ p ∈ ps, p.F_At.toNat ≠ w) : (doAll cells ps).getD w [] = cells.getD w [] := getD_of (doAll_other ps cells w h)

theorem chunkN_le {n half : Nat} (h : n ≤ 256 * half) : chunkN 256 n ≤ half := by
  unfold chunkN
  have : (n + 256 - 1) / 256 < half + 1 := by rw [Nat.div_lt_iff_lt_mul (by omega)]; omega
  omega
theorem partsS_in {half w : Nat} {b : List Int} (hb : b.length ≤ 256 * half) : ∀ p ∈ partsS half w b, 2 + w * half ≤ p.F_At.toNat ∧ p.F_At.toNat < 2 + w * half + half := by
  intro p hp
  obtain ⟨i, hi, rfl⟩ := List.mem_map.1 hp
  have hi' := List.mem_range.1 hi
  have := chunkN_le hb
  simp only [Int.toNat_natCast]; omega
theorem putsS_in {half w : Nat} {g : Int} {b : List Int} (hb : b.length ≤ 256 * half) : ∀ p ∈ putsS half w g b, inHalf half w p := by
  intro p hp
  rcases List.mem_append.1 hp with hp | hp
  · exact .inr (partsS_in hb p hp)
  · simp only [List.mem_singleton] at hp; subst hp; exact .inl (by simp)
theorem partsS_len (half w : Nat) (b : List Int) : (partsS half w b).length = chunkN 256 b.length := by simp [partsS]
theorem putsS_len (half w : Nat) (g : Int) (b : List Int) : (putsS half w g b).length = chunkN 256 b.length + 1 := by simp [putsS, partsS_len]

theorem doAll_parts (half w : Nat) (b : List Int) : ∀ (m k : Nat) (cells : List (List Int)), 2 + w * half + k + m ≤ cells.length → ∀ i, (doAll cells ((List.range' k m).map fun i => (⟨((2 + w * half + i : Nat) : Int), chunkE 256 i b⟩ : T_api_Put)))[2 + w * half + i]? = if k ≤ i ∧ i < k + m then some (chunkE 256 i b) else cells[2 + w * half + i]?
  | 0, k, cells, h, i => by rw [if_neg (by omega)]; rfl
  | m + 1, k, cells, h, i => by
    rw [List.range'_succ, List.map_cons]
    have ih := doAll_parts half w b m (k + 1) (cells.set (2 + w * half + k) (chunkE 256 k b)) (by rw [List.length_set]; omega) i
    unfold doAll at ih ⊢
    rw [List.foldl_cons, Int.toNat_natCast, ih]
    by_cases h1 : i = k
    · subst h1
      rw [if_neg (by omega), if_pos (by omega), List.getElem?_set_self (by omega)]
    · by_cases h2 : k + 1 ≤ i ∧ i < k + 1 + m
      · rw [if_pos h2, if_pos (by omega)]
      · rw [if_neg h2, if_neg (by omega), List.getElem?_set_ne (by omega)]

theorem doAll_app (cells : List (List Int)) (a b : List T_api_Put) : doAll cells (a ++ b) = doAll (doAll cells a) b := by simp [doAll, List.foldl_append]

theorem kOf_saved {cells : List (List Int)} {half w : Nat} (h : okS cells half) (hw : w < 2) {g : Int} (hg : 1 ≤ g ∧ g ≤ 1073741824) (hgw : g % 2 = w) {b : List Int} (hb : b.length ≤ 256 * half) : kOf (doAll cells (putsS half w g b)) half w = (b, g) := by
  have hlen := h.len; have hlo := h.lo; have hhi := h.hi
  have hN := chunkN_le hb
  have hwl : w * half ≤ half := by
    have := Nat.mul_le_mul_right half (show w ≤ 1 by omega)
    omega
  unfold kOf putsS
  rw [doAll_app]
  obtain ⟨c1, hc1⟩ : ∃ c1, doAll cells (partsS half w b) = c1 := ⟨_, rfl⟩
  have hl1 : c1.length = 2 + 2 * half := by rw [← hc1, doAll_len, hlen]
  rw [hc1]
  have e0 : doAll c1 [⟨(w : Int), headS g b.length⟩] = c1.set w (headS g b.length) := by simp [doAll]
  rw [e0]
  have e1 : (c1.set w (headS g b.length)).getD w [] = headS g b.length := by
    rw [List.getD_eq_getElem?_getD, List.getElem?_set_self (by omega)]; rfl
  rw [e1]
  have hq : ∀ i, c1[2 + w * half + i]? = if i < chunkN 256 b.length then some (chunkE 256 i b) else cells[2 + w * half + i]? := by
    intro i
    have := doAll_parts half w b (chunkN 256 b.length) 0 cells (by omega) i
    rw [← List.range_eq_range'] at this
    rw [← hc1]
    unfold partsS
    rw [this]
    simp
  refine keptS_new (half := half) (rest := (halfC cells half w).drop (chunkN 256 b.length)) hg hgw hb ?_ hhi ?_
  · unfold halfC; rw [List.length_take, List.length_drop, List.length_set]; omega
  · apply List.ext_getElem?
    intro i
    unfold halfC
    simp only [List.getElem?_append, List.length_map, List.length_range, List.getElem?_map, List.getElem?_take, List.getElem?_drop]
    by_cases hi : i < half
    · rw [if_pos hi, List.getElem?_set_ne (by omega), hq]
      by_cases h2 : i < chunkN 256 b.length
      · rw [if_pos h2, if_pos h2, List.getElem?_range h2]; rfl
      · rw [if_neg h2, if_neg h2]
        rw [if_pos (by omega)]
        congr 1; omega
    · rw [if_neg hi, if_neg (by omega)]
      rw [if_neg (by omega)]

/-- Of what was saved so often, the last is kept. -/
structure InvS (cells : List (List Int)) (half : Nat) (b : List Int) (g : Nat) : Prop where
  ok : okS cells half
  no : g = 0 → b = [] ∧ cells.getD 0 [] = [] ∧ cells.getD 1 [] = []
  yes : g ≠ 0 → kOf cells half (g % 2) = (b, (g : Int)) ∧ headN (1 - g % 2) (cells.getD (1 - g % 2) []) half < (g : Int)

theorem InvS.load {cells : List (List Int)} {half : Nat} {b : List Int} {g : Nat} (h : InvS cells half b g) : loadS cells half = if g = 0 then ([], 0, 8) else (b, (g : Int), 0) := by
  by_cases hg : g = 0
  · obtain ⟨_, h0, h1⟩ := h.no hg
    unfold loadS kOf
    rw [h0, h1, keptS_nil, keptS_nil, if_pos hg]
    simp
  · obtain ⟨h1, h2⟩ := h.yes hg
    rw [if_neg hg]
    have hx := keptS_head (1 - g % 2) (cells.getD (1 - g % 2) []) (halfC cells half (1 - g % 2))
    rw [halfC_len h.ok (by omega)] at hx
    have hlt : (kOf cells half (1 - g % 2)).2 < (g : Int) := by unfold kOf; omega
    unfold loadS
    rcases Nat.mod_two_eq_zero_or_one g with e | e
    · rw [e] at h1 hlt
      rw [h1]
      simp only [Nat.sub_zero] at hlt
      rw [if_neg (by simp only; omega), if_neg (by simp only; omega)]
    · rw [e] at h1 hlt
      rw [h1]
      simp only [Nat.sub_self] at hlt
      rw [if_pos (by simp only; omega)]

theorem InvS.part {cells : List (List Int)} {half : Nat} {b : List Int} {g : Nat} (h : InvS cells half b g) (hg : g < 1073741824) {b' : List Int} (hu : U8s b') (hb : b'.length ≤ 256 * half) {c : Nat} (hc : c ≤ (partsS half ((g + 1) % 2) b').length) :
    InvS (doAll cells ((putsS half ((g + 1) % 2) (g + 1) b').take c)) half b g := by
  have hlen := h.ok.len; have hlo := h.ok.lo; have hhi := h.ok.hi
  have e : (putsS half ((g + 1) % 2) (g + 1) b').take c = (partsS half ((g + 1) % 2) b').take c := by
    unfold putsS; rw [List.take_append_of_le_length hc]
  have hin : ∀ p ∈ (putsS half ((g + 1) % 2) (g + 1) b').take c, 2 + (g + 1) % 2 * half ≤ p.F_At.toNat ∧ p.F_At.toNat < 2 + (g + 1) % 2 * half + half := by
    rw [e]; exact fun p hp => partsS_in hb p (List.mem_of_mem_take hp)
  have hhead : ∀ w, w < 2 → (doAll cells ((putsS half ((g + 1) % 2) (g + 1) b').take c)).getD w [] = cells.getD w [] := fun w hw => headC_same fun p hp => by have := hin p hp; omega
  refine ⟨doAll_ok _ _ h.ok fun p hp => by rw [hlen]; exact putsS_ok (by omega) hlo (by omega) hu hb hhi p (List.mem_of_mem_take hp), fun h0 => ?_, fun h1 => ?_⟩
  · obtain ⟨q1, q2, q3⟩ := h.no h0
    exact ⟨q1, by rw [hhead 0 (by omega)]; exact q2, by rw [hhead 1 (by omega)]; exact q3⟩
  · obtain ⟨q1, q2⟩ := h.yes h1
    refine ⟨?_, by rw [hhead _ (by omega)]; exact q2⟩
    rw [kOf_other (w := (g + 1) % 2) (by omega) fun p hp => .inr (hin p hp)]
    exact q1
theorem InvS.all {cells : List (List Int)} {half : Nat} {b : List Int} {g : Nat} (h : InvS cells half b g) (hg : g < 1073741824) {b' : List Int} (hu : U8s b') (hb : b'.length ≤ 256 * half) :
    InvS (doAll cells (putsS half ((g + 1) % 2) (g + 1) b')) half b' (g + 1) := by
  have hlen := h.ok.len; have hlo := h.ok.lo; have hhi := h.ok.hi
  refine ⟨doAll_ok _ _ h.ok fun p hp => by rw [hlen]; exact putsS_ok (by omega) hlo (by omega) hu hb hhi p hp, fun h0 => by omega, fun _ => ⟨?_, ?_⟩⟩
  · rw [kOf_saved h.ok (by omega) ⟨by omega, by omega⟩ (by omega) hb]
    rfl
  · have hsame : (doAll cells (putsS half ((g + 1) % 2) (g + 1) b')).getD (1 - (g + 1) % 2) [] = cells.getD (1 - (g + 1) % 2) [] := headC_same fun p hp => by
      rcases putsS_in hb p hp with h | h <;> omega
    rw [hsame]
    by_cases h0 : g = 0
    · obtain ⟨_, q2, q3⟩ := h.no h0
      subst h0
      simp only [Nat.zero_add, Nat.reduceMod, Nat.sub_self]
      rw [q2, headN_nil]; omega
    · obtain ⟨q1, q2⟩ := h.yes h0
      have ew : 1 - (g + 1) % 2 = g % 2 := by omega
      rw [ew]
      have hx := keptS_head (g % 2) (cells.getD (g % 2) []) (halfC cells half (g % 2))
      unfold kOf at q1
      rw [q1, halfC_len h.ok (by omega)] at hx
      simp only at hx
      omega

theorem InvS.plan {cells : List (List Int)} {half : Nat} {b : List Int} {g : Nat} (h : InvS cells half b g) (hg : g < 1073741824) {b' : List Int} (hu : U8s b') :
    M_store_Plan ⟨cells⟩ b' = some (if b'.length > 256 * half then ([], 3) else (putsS half ((g + 1) % 2) (g + 1) b', 0)) := by
  have hl := h.load
  have hnum : (loadS cells half).2.1 = (g : Int) := by
    rw [hl]; split
    · rename_i h0; rw [h0]; rfl
    · rfl
  rw [Plan_ok h.ok hu (w := (g + 1) % 2) (by rw [hnum]; omega), hnum]
  rw [show ((if (g : Int) + 1 > 1073741824 then (([], 1) : List T_api_Put × Int) else (putsS half ((g + 1) % 2) ((g : Int) + 1) b', 0))) = (putsS half ((g + 1) % 2) ((g : Int) + 1) b', 0) from if_neg (by omega)]
theorem InvS.get {cells : List (List Int)} {half : Nat} {b : List Int} {g : Nat} (h : InvS cells half b g) : M_store_Load ⟨cells⟩ = some (if g = 0 then ([], 0, 8) else (b, (g : Int), 0)) := by
  rw [Load_ok h.ok, h.load]
theorem InvS.save {cells : List (List Int)} {half : Nat} {b : List Int} {g : Nat} (h : InvS cells half b g) (hg : g < 1073741824) {b' : List Int} (hu : U8s b') (hb : b'.length ≤ 256 * half) :
    M_store_Save ⟨cells⟩ b' = some (doAll cells (putsS half ((g + 1) % 2) (g + 1) b'), 0) := by
  have hlen := h.ok.len; have hlo := h.ok.lo; have hhi := h.ok.hi
  have hN := chunkN_le hb
  unfold M_store_Save
  rw [h.plan hg hu, if_neg (by omega), bindS]
  have := Save_l0 (half := half) (putsS half ((g + 1) % 2) ((g : Int) + 1) b', 0) (by rw [putsS_len]; omega) (putsS half ((g + 1) % 2) ((g : Int) + 1) b') 0 cells rfl h.ok (fun p hp => by rw [hlen]; exact putsS_ok (by omega) hlo (by omega) hu hb hhi p hp)
  simp only at this ⊢
  rw [show M_store_Save_l0 (putsS half ((g + 1) % 2) ((g : Int) + 1) b', 0) 0 0 cells = _ from this, bindS, if_neg (by simp)]

theorem New_eq {half : Nat} (h1 : 1 ≤ half) (h2 : half ≤ 64) : M_store_New (half : Int) = some (List.replicate (2 + 2 * half) [], 0) := by
  unfold M_store_New
  have e : IntKind.i64.wrap (2 + IntKind.i64.wrap (2 * (half : Int))) = ((2 + 2 * half : Nat) : Int) := by rw [i64_in (2 * (half : Int)) (by omega), i64_in _ (by omega)]; omega
  have d1 : decide ((half : Int) < 1) = false := decide_eq_false (by omega)
  have d2 : decide ((half : Int) > 64) = false := decide_eq_false (by omega)
  rw [orB, d1, d2, if_neg (by simp), e, if_pos ⟨by omega, by omega, by omega, by omega⟩, Int.toNat_natCast]
theorem InvS_new {half : Nat} (h1 : 1 ≤ half) (h2 : half ≤ 64) : InvS (List.replicate (2 + 2 * half) []) half [] 0 :=
  ⟨⟨h1, h2, by simp, fun c hc => by rw [List.eq_of_mem_replicate hc]; exact ⟨by simp, fun x hx => by simp at hx⟩⟩, fun _ => ⟨rfl, by rw [List.getD_eq_getElem?_getD, List.getElem?_replicate]; split <;> rfl, by rw [List.getD_eq_getElem?_getD, List.getElem?_replicate]; split <;> rfl⟩, fun h => absurd rfl h⟩

theorem live20_eq : M_thrumlaw20_live = some true := by
  have hu : U8s [97] := fun x hx => by simp at hx; omega
  have hi := InvS_new (half := 1) (by omega) (by omega)
  have hs := hi.all (g := 0) (by omega) hu (by decide)
  have e1 := New_eq (half := 1) (by omega) (by omega)
  have e2 := hi.plan (g := 0) (by omega) hu
  have e3 := hi.save (g := 0) (by omega) hu (by decide)
  have e4 := hs.get
  rw [if_neg (by decide)] at e2 e4
  unfold M_thrumlaw20_live
  simp only [Int.natCast_one] at e1
  have hp : putsS 1 ((0 + 1) % 2) (((0 : Nat) : Int) + 1) [97] = [⟨3, [97]⟩, ⟨1, headS 1 1⟩] := by
    unfold putsS partsS
    have : chunkN 256 [(97 : Int)].length = 1 := by decide
    rw [this]; rfl
  rw [hp] at e2 e3 e4
  have hsame := Same_eq [97] [97] hu hu
  rw [e1, bindS]
  dsimp only
  rw [e2, bindS, e3, bindS]
  dsimp only
  rw [e4, bindS]
  simp [at', hsame]
end Go.Proofs.Ytelobmiooldoaaa.Abs
