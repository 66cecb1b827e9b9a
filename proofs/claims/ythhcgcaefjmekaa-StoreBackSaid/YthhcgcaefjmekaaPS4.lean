/- StoreHalves and StoreNumbers, plainly: they answer true. Conditions: none but that bytes are bytes. -/
import Derived.Test.YthhcgcaefjmekaaPS3
namespace Go.Proofs.Ythhcgcaefjmekaa.Abs
open Go Go.RowKit Go.IntWalk Crc
set_option linter.unusedVariables false
set_option linter.unusedSimpArgs false
set_option maxRecDepth 100000

theorem tmod_bd {a n : Int} (hn : 0 < n) : -n < Int.tmod a n ∧ Int.tmod a n < n := by
  by_cases h : a < 0
  · obtain ⟨b, rfl⟩ : ∃ b, a = -b := ⟨-a, by omega⟩
    rw [Int.neg_tmod, Int.tmod_eq_emod_of_nonneg (by omega)]
    have h1 := Int.emod_nonneg b (show n ≠ 0 by omega)
    have h2 := Int.emod_lt_of_pos b hn
    omega
  · rw [Int.tmod_eq_emod_of_nonneg (by omega)]
    have h1 := Int.emod_nonneg a (show n ≠ 0 by omega)
    have h2 := Int.emod_lt_of_pos a hn
    omega
theorem tmod_ge {a n : Int} (hn : 0 < n) (ha : 0 ≤ a) : 0 ≤ Int.tmod a n ∧ Int.tmod a n < n := by
  rw [Int.tmod_eq_emod_of_nonneg ha]
  exact ⟨Int.emod_nonneg a (by omega), Int.emod_lt_of_pos a hn⟩
/-- A number brought into a run. -/
theorem into {x n : Int} (hn : 0 < n) (hn2 : n ≤ 1000) : ∃ c : Nat, (c : Int) < n ∧ Int.tmod (IntKind.i64.wrap (Int.tmod x n + n)) n = (c : Int) := by
  have h1 := tmod_bd (a := x) hn
  rw [i64_in _ (by omega)]
  have h2 := tmod_ge (a := Int.tmod x n + n) hn (by omega)
  exact ⟨(Int.tmod (Int.tmod x n + n) n).toNat, by omega, by omega⟩

theorem Halves_l1 {half : Nat} (a1 : List (List Int)) (a2 : List Int) (r1 : Bool) (y2 x0 x1 : Int) (x2 : Bool) (x3 : List Int) (r7 : List T_api_Put × Int) (j13 : Int) (y : List T_api_Put) (hy : y.length ≤ 1099511627776) :
    ∀ (t : List T_api_Put) (k : Nat) (cells : List (List Int)), y.drop k = t → okS cells half → (∀ p ∈ t, okP cells.length p) → M_thrumlaw20_StoreHalves_l1 a1 a2 r1 y2 x0 x1 x2 x3 r7 j13 y (k : Int) cells = some (.inr (doAll cells t))
  | [], k, cells, h, hc, hp => by rw [M_thrumlaw20_StoreHalves_l1, if_neg (drop_end h)]; rfl
  | p :: t, k, cells, h, hc, hp => by
    obtain ⟨h1, h2, h3⟩ := drop_at h
    rw [M_thrumlaw20_StoreHalves_l1, if_pos h1, if_pos ⟨by omega, h1⟩, h2, Do_ok hc (hp p (by simp)), bindS, if_neg (by simp), i64_s (by omega)]
    rw [Halves_l1 a1 a2 r1 y2 x0 x1 x2 x3 r7 j13 y hy t (k + 1) _ h3 (okS_set hc (hp p (by simp))) (fun q hq => by rw [List.length_set]; exact hp q (by simp [hq]))]
    rfl

theorem Halves_l0 {half : Nat} (a1 : List (List Int)) (a2 : List Int) (r1 : Bool) (hu : ∀ b ∈ a1, U8s b ∧ b.length ≤ 140737488355328) (ha : a1.length ≤ 20) (hh4 : half ≤ 4) : ∀ (t : List (List Int)) (k : Nat) (cells : List (List Int)) (now : List Int) (g : Nat), a1.drop k = t → InvS cells half now g → g ≤ k →
    U8s now → ∃ cells', M_thrumlaw20_StoreHalves_l0 a1 a2 r1 (half : Int) (k : Int) (g : Int) (decide (g ≠ 0)) now cells = some (.inr cells') ∧ okS cells' half
  | [], k, cells, now, g, h, hi, hg, hn => by rw [M_thrumlaw20_StoreHalves_l0, if_neg (drop_end h)]; exact ⟨cells, rfl, hi.ok⟩
  | b :: t, k, cells, now, g, h, hi, hg, hn => by
    have hlen := hi.ok.len; have hlo := hi.ok.lo; have hhi := hi.ok.hi
    have hbm : b ∈ a1 := by
      have : b ∈ a1.drop k := by rw [h]; simp
      exact List.mem_of_mem_drop this
    obtain ⟨hub, hbl⟩ := hu b hbm
    obtain ⟨h1, h2, h3⟩ := drop_at h
    have eh : IntKind.i64.wrap ((half : Int) * 256) = 256 * (half : Int) := by rw [i64_in _ (by omega)]; omega
    rw [M_thrumlaw20_StoreHalves_l0, if_pos h1, if_pos ⟨by omega, h1⟩, h2, hi.plan (by omega) hub, bindS, eh, i64_s (by omega)]
    by_cases c1 : b.length > 256 * half
    · rw [if_pos c1, if_pos (by omega), if_neg (by simp)]
      exact Halves_l0 a1 a2 r1 hu ha hh4 t (k + 1) cells now g h3 hi (by omega) hn
    · rw [if_neg c1, if_neg (by omega)]
      obtain ⟨ps, hps⟩ : ∃ ps, putsS half ((g + 1) % 2) ((g : Int) + 1) b = ps := ⟨_, rfl⟩
      have hpl : ps.length = chunkN 256 b.length + 1 := by rw [← hps, putsS_len]
      have hN := chunkN_le (show b.length ≤ 256 * half by omega)
      have hpok : ∀ p ∈ ps, okP cells.length p := fun p hp => by rw [hlen]; rw [← hps] at hp; exact putsS_ok (by omega) hlo (by omega) hub (by omega) hhi p hp
      rw [hps]
      have e8 : ((if ((ps, (0 : Int)) : List T_api_Put × Int).2 ≠ 0 then some true else some ((((ps, (0 : Int)) : List T_api_Put × Int).1.length : Int) == 0)) : Option Bool) = some false := by
        rw [if_neg (by simp)]
        congr 1
        simp only [beq_eq_false_iff_ne, ne_eq]; omega
      rw [e8, bindS, if_neg (by simp)]
      simp only
      have hj : ∃ c : Nat, c ≤ ps.length ∧ ((if (k : Int) < (a2.length : Int) then
              if 0 ≤ (k : Int) ∧ (k : Int) < (a2.length : Int) then
                if IntKind.i64.wrap ((ps.length : Int) + 1) ≠ 0 then
                  some (Int.tmod (at' a2 (k : Int)) (IntKind.i64.wrap ((ps.length : Int) + 1))) >>= fun y9 =>
                  some (IntKind.i64.wrap ((IntKind.i64.wrap (y9 + (ps.length : Int))) + 1)) >>= fun y11 =>
                  if IntKind.i64.wrap ((ps.length : Int) + 1) ≠ 0 then
                    some (Int.tmod y11 (IntKind.i64.wrap ((ps.length : Int) + 1)))
                  else none
                else none
              else none
            else
              some (ps.length : Int)) : Option Int) = some (c : Int) := by
        split
        · rename_i hk
          rw [if_pos ⟨by omega, hk⟩]
          have e1 : IntKind.i64.wrap ((ps.length : Int) + 1) = (ps.length : Int) + 1 := by rw [i64_in _ (by omega)]
          have hb1 := tmod_bd (a := at' a2 (k : Int)) (n := (ps.length : Int) + 1) (by omega)
          rw [e1, if_pos (by omega), bindS, bindS, if_pos (by omega), i64_in (Int.tmod (at' a2 (k : Int)) ((ps.length : Int) + 1) + (ps.length : Int)) (by omega), i64_in _ (by omega)]
          have hb2 := tmod_ge (a := Int.tmod (at' a2 (k : Int)) ((ps.length : Int) + 1) + (ps.length : Int) + 1) (n := (ps.length : Int) + 1) (by omega) (by omega)
          exact ⟨(Int.tmod (Int.tmod (at' a2 (k : Int)) ((ps.length : Int) + 1) + (ps.length : Int) + 1) ((ps.length : Int) + 1)).toNat, by omega, by congr 1; omega⟩
        · exact ⟨ps.length, Nat.le_refl _, rfl⟩
      obtain ⟨c, hc, hj⟩ := hj
      rw [hj, bindS, if_pos ⟨by simp, by show (0 : Int) ≤ (c : Int); omega, by show (c : Int) ≤ (ps.length : Int); omega⟩, bindS, cut_to, Int.toNat_natCast]
      have hl1 := Halves_l1 (half := half) a1 a2 r1 (half : Int) (k : Int) (g : Int) (decide (g ≠ 0)) now (ps, 0) (c : Int) (ps.take c) (by rw [List.length_take]; omega) (ps.take c) 0 cells rfl hi.ok (fun p hp => hpok p (List.mem_of_mem_take hp))
      rw [show M_thrumlaw20_StoreHalves_l1 a1 a2 r1 (half : Int) (k : Int) (g : Int) (decide (g ≠ 0)) now (ps, 0) (c : Int) (ps.take c) 0 cells = _ from hl1, bindS]
      simp only
      by_cases hcl : c = ps.length
      · have hall := hi.all (g := g) (by omega) hub (by omega)
        rw [hps] at hall
        have hload := hall.get
        rw [if_neg (by omega)] at hload
        rw [if_pos (by omega), bindS, hcl, List.take_length, hload, bindS, i64_s (by omega)]
        simp only
        have hsame := Same_eq b b hub hub
        have e9 : ((if (0 : Int) ≠ 0 then some true else some (((g + 1 : Nat) : Int) != ((g + 1 : Nat) : Int))) : Option Bool) = some false := by simp
        rw [if_neg (by simp), e9, bindS, if_neg (by simp), hsame, bindS]
        simp only [decide_true, Bool.not_true, bindS, Bool.false_eq_true, if_false]
        have := Halves_l0 a1 a2 r1 hu ha hh4 t (k + 1) _ b (g + 1) h3 hall (by omega) hub
        rw [show decide (g + 1 ≠ 0) = true by simp] at this
        exact this
      · have hpart := hi.part (g := g) (b' := b) (c := c) (by omega) hub (by omega) (by rw [partsS_len]; omega)
        rw [hps] at hpart
        have hload := hpart.get
        rw [if_neg (by omega), bindS, hload, bindS]
        simp only
        have hrec := Halves_l0 a1 a2 r1 hu ha hh4 t (k + 1) _ now g h3 hpart (by omega) hn
        by_cases h0 : g = 0
        · rw [if_pos (by simp [h0]), if_pos h0, if_neg (by simp)]
          exact hrec
        · have hsame := Same_eq now now hn hn
          have e9 : ((if (0 : Int) ≠ 0 then some true else some (((g : Nat) : Int) != ((g : Nat) : Int))) : Option Bool) = some false := by simp
          rw [if_neg (by simp [h0]), if_neg h0]
          simp only
          rw [e9, bindS, if_neg (by simp), hsame, bindS]
          simp only [decide_true, Bool.not_true, bindS, Bool.false_eq_true, if_false]
          exact hrec

theorem StoreHalves_true (a0 : Int) (a1 : List (List Int)) (a2 : List Int) (hu : ∀ b ∈ a1, U8s b ∧ b.length ≤ 140737488355328) (ha : a1.length ≤ 140737488355328) : M_thrumlaw20_StoreHalves a0 a1 a2 = some true := by
  obtain ⟨c, hc1, hc2⟩ := into (x := a0) (n := 4) (by omega) (by omega)
  have eh : IntKind.i64.wrap (1 + (c : Int)) = ((c + 1 : Nat) : Int) := by rw [i64_in _ (by omega)]; omega
  unfold M_thrumlaw20_StoreHalves
  rw [live20_eq, bindS, if_neg (by simp), bindS, hc2, eh, New_eq (half := c + 1) (by omega) (by omega), bindS]
  simp only
  have e5 : ((if (0 : Int) ≠ 0 then some true else some (decide ((a1.length : Int) > 20))) : Option Bool) = some (decide ((a1.length : Int) > 20)) := by simp
  rw [e5, bindS]
  by_cases hl : (a1.length : Int) > 20
  · rw [if_pos (by simpa using hl), if_pos trivial]; rfl
  · rw [if_neg (by simpa using hl)]
    obtain ⟨cells', h1, h2⟩ := Halves_l0 (half := c + 1) a1 a2 true hu (by omega) (by omega) a1 0 _ [] 0 rfl (InvS_new (by omega) (by omega)) (by omega) (fun x hx => by simp at hx)
    rw [show M_thrumlaw20_StoreHalves_l0 a1 a2 true ((c + 1 : Nat) : Int) 0 0 false [] (List.replicate (2 + 2 * (c + 1)) []) = some (.inr cells') from h1, bindS]
    simp only
    rw [if_pos trivial, Check_ok h2]; rfl

theorem last_put (half w : Nat) (g : Int) (b : List Int) : at' (putsS half w g b) (((putsS half w g b).length : Int) - 1) = ⟨(w : Int), headS g b.length⟩ := by
  have hl := putsS_len half w g b
  rw [hl, show (((chunkN 256 b.length + 1 : Nat) : Int) - 1) = ((chunkN 256 b.length : Nat) : Int) by omega, at'_nat, List.getD_eq_getElem?_getD]
  unfold putsS
  rw [List.getElem?_append_right (by rw [partsS_len]; omega), partsS_len, Nat.sub_self]
  rfl

theorem Numbers_l0 {half : Nat} (b : List Int) (a2 : Int) (r1 : Bool) (hub : U8s b) (hb : b.length ≤ 256 * half) {K : Nat} (hK : K ≤ 5) (hK2 : Int.tmod (IntKind.i64.wrap ((Int.tmod a2 6) + 6)) 6 = (K : Int)) : ∀ (m k : Nat) (cells : List (List Int)) (now : List Int), k + m = K → InvS cells half now k →
    ∃ cells', M_thrumlaw20_StoreNumbers_l0 b a2 r1 (half : Int) (k : Int) cells = some (.inr cells') ∧ okS cells' half
  | 0, k, cells, now, h, hi => by rw [M_thrumlaw20_StoreNumbers_l0, hK2, if_neg (by omega)]; exact ⟨cells, rfl, hi.ok⟩
  | m + 1, k, cells, now, h, hi => by
    have hlen := hi.ok.len; have hlo := hi.ok.lo; have hhi := hi.ok.hi
    have hall := hi.all (g := k) (by omega) hub hb
    have hload := hall.get
    rw [if_neg (by omega)] at hload
    have hN := chunkN_le hb
    rw [M_thrumlaw20_StoreNumbers_l0, hK2, if_pos (by omega), hi.plan (by omega) hub, if_neg (by omega), bindS, hi.save (by omega) hub hb, bindS]
    simp only
    rw [hload, bindS, i64_s (by omega)]
    have hpl := putsS_len half ((k + 1) % 2) ((k : Int) + 1) b
    have hlast := last_put half ((k + 1) % 2) ((k : Int) + 1) b
    obtain ⟨ps, hps⟩ : ∃ ps, putsS half ((k + 1) % 2) ((k : Int) + 1) b = ps := ⟨_, rfl⟩
    rw [hps] at hpl hlast hall ⊢
    have hsame := Same_eq b b hub hub
    have e13 : IntKind.i64.wrap (1 + IntKind.i64.wrap (Int.tdiv (IntKind.i64.wrap ((b.length : Int) + 255)) 256)) = (ps.length : Int) := by
      rw [hpl, i64_in ((b.length : Int) + 255) (by omega), Int.tdiv_eq_ediv_of_nonneg (by omega), i64_in (((b.length : Int) + 255) / 256) (by omega), i64_in _ (by omega)]
      unfold chunkN; omega
    have e14 : IntKind.i64.wrap ((ps.length : Int) - 1) = (ps.length : Int) - 1 := by rw [i64_in _ (by omega)]
    have e15 : Int.tmod ((k + 1 : Nat) : Int) 2 = (((k + 1) % 2 : Nat) : Int) := by rw [Int.tmod_eq_emod_of_nonneg (by omega)]; omega
    rw [e13, e14, hlast, e15]
    have g14 : 0 ≤ (ps.length : Int) - 1 ∧ (ps.length : Int) - 1 < (ps.length : Int) := ⟨by omega, by omega⟩
    simp only [ne_eq, not_true_eq_false, if_false, bne_self_eq_false, bindS, Bool.false_eq_true, hsame, decide_true, Bool.not_true, if_pos g14]
    exact Numbers_l0 b a2 r1 hub hb hK hK2 m (k + 1) _ b (by omega) hall

theorem StoreNumbers_true (a0 : Int) (b : List Int) (a2 : Int) (hub : U8s b) (hb : b.length ≤ 140737488355328) : M_thrumlaw20_StoreNumbers a0 b a2 = some true := by
  obtain ⟨c, hc1, hc2⟩ := into (x := a0) (n := 8) (by omega) (by omega)
  obtain ⟨K, hK1, hK2⟩ := into (x := a2) (n := 6) (by omega) (by omega)
  have eh : IntKind.i64.wrap (1 + (c : Int)) = ((c + 1 : Nat) : Int) := by rw [i64_in _ (by omega)]; omega
  have eh2 : IntKind.i64.wrap (256 * ((c + 1 : Nat) : Int)) = 256 * ((c + 1 : Nat) : Int) := by rw [i64_in _ (by omega)]
  unfold M_thrumlaw20_StoreNumbers
  rw [live20_eq, bindS, if_neg (by simp), bindS, hc2, eh, eh2]
  by_cases hl : (b.length : Int) > 256 * ((c + 1 : Nat) : Int)
  · rw [if_pos hl]
  · rw [if_neg hl, New_eq (half := c + 1) (by omega) (by omega), bindS, if_neg (by simp)]
    obtain ⟨cells', h1, h2⟩ := Numbers_l0 (half := c + 1) b a2 true hub (by omega) (by omega) hK2 K 0 _ [] (by omega) (InvS_new (by omega) (by omega))
    rw [show M_thrumlaw20_StoreNumbers_l0 b a2 true ((c + 1 : Nat) : Int) 0 (List.replicate (2 + 2 * (c + 1)) []) = some (.inr cells') from h1, bindS]
    simp only
    have e1 : IntKind.i64.wrap (2 + IntKind.i64.wrap (2 * ((c + 1 : Nat) : Int))) = (cells'.length : Int) := by rw [h2.len, i64_in (2 * ((c + 1 : Nat) : Int)) (by omega), i64_in _ (by omega)]; omega
    rw [if_pos trivial, e1]
    simp [bindS]
end Go.Proofs.Ythhcgcaefjmekaa.Abs
