/- StoreBack, plainly: it answers true. Conditions: none but that bytes are bytes, numbers of 64 bits. -/
import Derived.Test.YthhcgcaefjmekaaPS6
namespace Go.Proofs.Ythhcgcaefjmekaa.Abs
open Go Go.RowKit Go.IntWalk Crc
set_option linter.unusedVariables false
set_option linter.unusedSimpArgs false
set_option maxRecDepth 100000

theorem readL_put : ∀ (x A B acc : List Int), (∀ n ∈ x, I64 n) → A.length + 10 * x.length ≤ 1099511627776 → readL (A ++ (sigB x ++ B)) x.length A.length acc = some (acc ++ x, ((A.length + (sigB x).length : Nat) : Int))
  | [], A, B, acc, hi, hA => by simp [readL, sigB]
  | n :: x, A, B, acc, hi, hA => by
    have hz := zig_u64 (hi n (by simp))
    have hl := lebP_le (zigP n) hz.2
    have hs : sigB (n :: x) = lebP (zigP n) ++ sigB x := by simp [sigB]
    simp only [List.length_cons] at hA
    have e : A ++ (sigB (n :: x) ++ B) = A ++ (lebP (zigP n) ++ (sigB x ++ B)) := by rw [hs, List.append_assoc]
    have e2 : A ++ (lebP (zigP n) ++ (sigB x ++ B)) = (A ++ lebP (zigP n)) ++ (sigB x ++ B) := by rw [List.append_assoc]
    rw [e, List.length_cons, readL, getP_put A _ _ hz (by omega), if_neg (by simp)]
    simp only
    rw [zag_zig, show ((A.length : Int) + ((lebP (zigP n)).length : Int)) = (((A ++ lebP (zigP n)).length : Nat) : Int) by simp, e2, readL_put x (A ++ lebP (zigP n)) B _ (fun m hm => hi m (by simp [hm])) (by rw [List.length_append]; omega), hs]
    simp only [List.append_assoc, List.cons_append, List.nil_append, List.length_append]
    congr 2; omega

theorem readLs_put : ∀ (l : List (List Int)) (A B : List Int) (acc : List (List Int)), (∀ x ∈ l, x.length ≤ 4096 ∧ ∀ n ∈ x, I64 n) → A.length + 60000 * l.length ≤ 1099511000000 →
    readLs (A ++ (l.flatMap oneB ++ B)) l.length A.length acc = some (acc ++ l, ((A.length + (l.flatMap oneB).length : Nat) : Int))
  | [], A, B, acc, hi, hA => by simp [readLs]
  | x :: l, A, B, acc, hi, hA => by
    obtain ⟨h1, h2⟩ := hi x (by simp)
    have ho := oneB_len (x := x) (by omega) h2
    have hl := lebP_le (x.length : Int) (by omega)
    simp only [List.length_cons] at hA
    have e : A ++ ((x :: l).flatMap oneB ++ B) = A ++ (lebP (x.length : Int) ++ (sigB x ++ (l.flatMap oneB ++ B))) := by simp [oneB]
    have e2 : A ++ (lebP (x.length : Int) ++ (sigB x ++ (l.flatMap oneB ++ B))) = (A ++ lebP (x.length : Int)) ++ (sigB x ++ (l.flatMap oneB ++ B)) := by rw [List.append_assoc]
    have e3 : (A ++ lebP (x.length : Int)) ++ (sigB x ++ (l.flatMap oneB ++ B)) = (A ++ oneB x) ++ (l.flatMap oneB ++ B) := by simp [oneB]
    rw [e, List.length_cons, readLs, getP_put A _ _ ⟨by omega, by omega⟩ (by omega)]
    simp only [Int.toNat_natCast]
    rw [if_neg (by simp; omega), show ((A.length : Int) + ((lebP (x.length : Int)).length : Int)) = (((A ++ lebP (x.length : Int)).length : Nat) : Int) by simp, e2, readL_put x (A ++ lebP (x.length : Int)) _ [] h2 (by rw [List.length_append]; omega)]
    simp only
    rw [e3, show (A ++ lebP (x.length : Int)).length + (sigB x).length = (A ++ oneB x).length by simp [oneB]; omega, readLs_put l (A ++ oneB x) B _ (fun y hy => hi y (by simp [hy])) (by rw [List.length_append]; omega)]
    simp only [List.append_assoc, List.cons_append, List.nil_append, List.nil_append, List.flatMap_cons, List.length_append]
    congr 2; omega

theorem takeP_lay {n : Int} {l : List (List Int)} (hn : 0 ≤ n ∧ n ≤ 1073741824) (hl : l.length ≤ 8) (hx : ∀ x ∈ l, x.length ≤ 4096 ∧ ∀ n ∈ x, I64 n) : takeP (layB n l) = (n, l, 0) := by
  have l1 := lebP_le n (by omega)
  have l2 := lebP_le (l.length : Int) (by omega)
  have e1 : layB n l = [] ++ (lebP n ++ (lebP (l.length : Int) ++ l.flatMap oneB)) := by simp [layB]
  have e2 : layB n l = lebP n ++ (lebP (l.length : Int) ++ l.flatMap oneB) := by simp [layB]
  have e3 : layB n l = (lebP n ++ lebP (l.length : Int)) ++ (l.flatMap oneB ++ []) := by simp [layB]
  have g1 : getP (layB n l) 0 = (n, ((lebP n).length : Int), 0) := by
    rw [e1]
    have := getP_put [] (lebP (l.length : Int) ++ l.flatMap oneB) n ⟨hn.1, by omega⟩ (by simp)
    simpa using this
  have g2 : getP (layB n l) ((lebP n).length : Int) = ((l.length : Int), ((lebP n).length : Int) + ((lebP (l.length : Int)).length : Int), 0) := by
    rw [e2]
    exact getP_put (lebP n) (l.flatMap oneB) (l.length : Int) ⟨by omega, by omega⟩ (by omega)
  have g3 := readLs_put l (lebP n ++ lebP (l.length : Int)) [] [] hx (by rw [List.length_append]; omega)
  rw [← e3] at g3
  unfold takeP
  rw [g1]
  simp only
  rw [if_neg (by simp; omega), g2]
  simp only
  rw [if_neg (by simp; omega), Int.toNat_natCast, show ((lebP n).length : Int) + ((lebP (l.length : Int)).length : Int) = (((lebP n ++ lebP (l.length : Int)).length : Nat) : Int) by simp, g3]
  simp only [List.nil_append]
  rw [if_neg]
  simp [layB]
  omega

theorem readL_back (b : List Int) (hb : b.length ≤ 4611686018427387904) (hu : U8s b) : ∀ (k : Nat) (a : Int) (acc r : List Int) (z : Int), 0 ≤ a → a ≤ b.length → readL b k a acc = some (r, z) → ∃ x, r = acc ++ x ∧ x.length = k ∧ b.drop a.toNat = sigB x ++ b.drop z.toNat ∧ ∀ n ∈ x, I64 n
  | 0, a, acc, r, z, h1, h2, h => by
    simp only [readL, Option.some.injEq, Prod.mk.injEq] at h
    obtain ⟨rfl, rfl⟩ := h
    exact ⟨[], by simp, rfl, by simp [sigB], by simp⟩
  | k + 1, a, acc, r, z, h1, h2, h => by
    simp only [readL] at h
    split at h
    · cases h
    · rename_i he
      have hp := getP_at b a hb
      have he' : (getP b a).2.2 = 0 := by simpa using he
      obtain ⟨_, _, g1, g2, g3, g4⟩ := getP_back b a (getP b a).1 (getP b a).2.1 hb hu (by rw [← he'])
      obtain ⟨x, q1, q2, q3, q4⟩ := readL_back b hb hu k _ _ r z hp.1 hp.2 h
      refine ⟨zagP (getP b a).1 :: x, by rw [q1]; simp, by simp [q2], ?_, fun n hn => ?_⟩
      · have : sigB (zagP (getP b a).1 :: x) = lebP (getP b a).1 ++ sigB x := by simp [sigB, zig_zag g1]
        rw [this, List.append_assoc, ← q3, ← g4]
      · rcases List.mem_cons.1 hn with rfl | hn
        · exact zag_i64 ⟨g1, g2⟩
        · exact q4 n hn
theorem readLs_back (b : List Int) (hb : b.length ≤ 4611686018427387904) (hu : U8s b) : ∀ (k : Nat) (a : Int) (acc r : List (List Int)) (z : Int), 0 ≤ a → a ≤ b.length → readLs b k a acc = some (r, z) → ∃ l, r = acc ++ l ∧ l.length = k ∧ b.drop a.toNat = l.flatMap oneB ++ b.drop z.toNat ∧ ∀ x ∈ l, ∀ n ∈ x, I64 n
  | 0, a, acc, r, z, h1, h2, h => by
    simp only [readLs, Option.some.injEq, Prod.mk.injEq] at h
    obtain ⟨rfl, rfl⟩ := h
    exact ⟨[], by simp, rfl, by simp, by simp⟩
  | k + 1, a, acc, r, z, h1, h2, h => by
    simp only [readLs] at h
    split at h
    · cases h
    · rename_i hc
      have hp := getP_at b a hb
      split at h
      · cases h
      · rename_i y q hy
        have he : (getP b a).2.2 = 0 := by simpa using (not_or.1 hc).1
        obtain ⟨_, _, g1, g2, g3, g4⟩ := getP_back b a (getP b a).1 (getP b a).2.1 hb hu (by rw [← he])
        have hat := readL_at b hb _ _ _ _ _ hp.1 hp.2 hy
        obtain ⟨x, q1, q2, q3, q4⟩ := readL_back b hb hu _ _ _ _ _ hp.1 hp.2 hy
        rw [List.nil_append] at q1; subst q1
        obtain ⟨l, r1, r2, r3, r4⟩ := readLs_back b hb hu k q _ r z hat.1 hat.2.1 h
        refine ⟨y :: l, by rw [r1]; simp, by simp [r2], ?_, fun x hx => ?_⟩
        · have : (y :: l).flatMap oneB = lebP (getP b a).1 ++ (sigB y ++ l.flatMap oneB) := by
            simp only [List.flatMap_cons, oneB]
            rw [show ((y.length : Nat) : Int) = (getP b a).1 by omega, List.append_assoc]
          rw [this, List.append_assoc, List.append_assoc, ← r3, ← q3, ← g4]
        · rcases List.mem_cons.1 hx with rfl | hx
          · exact q4
          · exact r4 x hx
theorem takeP_back {b : List Int} (hb : b.length ≤ 4611686018427387904) (hu : U8s b) (h : (takeP b).2.2 = 0) : layP (takeP b).1 (takeP b).2.1 = (b, 0) ∧ (∀ x ∈ (takeP b).2.1, ∀ n ∈ x, I64 n) ∧ I64 (takeP b).1 := by
  have hsm := takeP_small b hb
  have hp := getP_at b 0 hb
  have hp2 := getP_at b (getP b 0).2.1 hb
  revert h hsm
  unfold takeP
  split
  · intro h _; simp at h
  · rename_i c1
    split
    · intro h _; simp at h
    · rename_i c2
      split
      · intro h _; simp at h
      · rename_i l z hl
        split
        · intro h _; simp at h
        · rename_i hz
          intro _ hsm
          simp only at hsm ⊢
          have e1 : (getP b 0).2.2 = 0 := by simpa using (not_or.1 c1).1
          have e2 : (getP b (getP b 0).2.1).2.2 = 0 := by simpa using (not_or.1 c2).1
          have m1 := (not_or.1 c1).2
          obtain ⟨_, _, g1, g2, g3, g4⟩ := getP_back b 0 (getP b 0).1 (getP b 0).2.1 hb hu (Prod.ext rfl (Prod.ext rfl e1))
          obtain ⟨_, _, g5, g6, g7, g8⟩ := getP_back b (getP b 0).2.1 (getP b (getP b 0).2.1).1 (getP b (getP b 0).2.1).2.1 hb hu (Prod.ext rfl (Prod.ext rfl e2))
          obtain ⟨l', r1, r2, r3, r4⟩ := readLs_back b hb hu _ _ _ _ _ hp2.1 hp2.2 hl
          rw [List.nil_append] at r1; subst r1
          refine ⟨?_, r4, ?_⟩
          · unfold layP
            rw [if_neg (by omega), if_neg (fun h => h.elim (fun h => by omega) (fun h => h hsm.2))]
            congr 1
            have hz' : z.toNat = b.length := by
              have : z = (b.length : Int) := by simpa using hz
              omega
            rw [hz', List.drop_length, List.append_nil] at r3
            unfold layB
            rw [show ((l.length : Nat) : Int) = (getP b (getP b 0).2.1).1 by omega, List.append_assoc, ← r3, ← g8, ← g4]
            simp
          · unfold I64; omega

theorem Few_l0 (cells : List (List Int)) (hl : cells.length ≤ 140737488355328) : ∀ (t : List (List Int)) (k : Nat), cells.drop k = t → ∃ e, M_thrumref20_Few_l0 ⟨cells⟩ (k : Int) = some e ∧ (e = .inl false ∨ e = .inr ())
  | [], k, h => by rw [M_thrumref20_Few_l0, if_neg (drop_end h)]; exact ⟨_, rfl, .inr rfl⟩
  | c :: t, k, h => by
    obtain ⟨h1, h2, h3⟩ := drop_at h
    rw [M_thrumref20_Few_l0, if_pos h1, if_pos ⟨by omega, h1⟩, h2]
    split
    · exact ⟨_, rfl, .inl rfl⟩
    · rw [i64_s (by omega)]; exact Few_l0 cells hl t (k + 1) h3
theorem Few_eq (cells : List (List Int)) (hl : cells.length ≤ 140737488355328) : ∃ f, M_thrumref20_Few ⟨cells⟩ = some f ∧ (f = true → cells.length ≤ 140) := by
  obtain ⟨e, h1, h2⟩ := Few_l0 cells hl cells 0 rfl
  unfold M_thrumref20_Few
  rw [show M_thrumref20_Few_l0 ⟨cells⟩ 0 = some e from h1, bindS]
  rcases h2 with rfl | rfl
  · exact ⟨false, rfl, by simp⟩
  · refine ⟨_, rfl, fun h => ?_⟩
    have := of_decide_eq_true h
    simp only at this
    omega

theorem Back_l0 (a0 : Int) (a1 : List (List Int)) (a2 : List Int) (a3 : T_api_Store) (hl : a1.length ≤ 20) : ∀ (t : List (List Int)) (k : Nat), a1.drop k = t → M_thrumlaw20_StoreBack_l0 a0 a1 a2 a3 true (k : Int) = some (if ∀ x ∈ t, x.length ≤ 5000 then .inr () else .inl true)
  | [], k, h => by rw [M_thrumlaw20_StoreBack_l0, if_neg (drop_end h)]; simp
  | x :: t, k, h => by
    obtain ⟨h1, h2, h3⟩ := drop_at h
    rw [M_thrumlaw20_StoreBack_l0, if_pos h1, if_pos ⟨by omega, h1⟩, h2]
    by_cases hc : (x.length : Int) > 5000
    · rw [if_pos hc, if_neg (fun h => by have := h x (by simp); omega)]
    · rw [if_neg hc, i64_s (by omega), Back_l0 a0 a1 a2 a3 hl t (k + 1) h3]
      by_cases ht : ∀ y ∈ t, y.length ≤ 5000
      · rw [if_pos ht, if_pos (fun y hy => by
          rcases List.mem_cons.1 hy with rfl | hy
          · omega
          · exact ht y hy)]
      · rw [if_neg ht, if_neg (fun h => ht fun y hy => h y (by simp [hy]))]

/-- What a store keeps, saved: any store. -/
theorem Save_load {cells : List (List Int)} {half : Nat} (h : okS cells half) {b : List Int} (hu : U8s b) :
    (∃ e, e ≠ 0 ∧ M_store_Save ⟨cells⟩ b = some ([], e)) ∨ ∃ c', M_store_Save ⟨cells⟩ b = some (c', 0) ∧ (loadS cells half).2.1 < 1073741824 ∧ M_store_Load ⟨c'⟩ = some (b, (loadS cells half).2.1 + 1, 0) := by
  have hlen := h.len; have hlo := h.lo; have hhi := h.hi
  have n0 := keptS_num 0 (cells.getD 0 []) (halfC cells half 0)
  have n1 := keptS_num 1 (cells.getD 1 []) (halfC cells half 1)
  have hg : (loadS cells half).2.1 = max (kOf cells half 0).2 (kOf cells half 1).2 := by
    unfold loadS kOf
    repeat' split
    all_goals simp only; omega
  have hg2 : 0 ≤ (loadS cells half).2.1 ∧ (loadS cells half).2.1 ≤ 1073741824 := by
    rw [hg]; unfold kOf; omega
  obtain ⟨g, hgg⟩ : ∃ g, (loadS cells half).2.1 = g := ⟨_, rfl⟩
  obtain ⟨w, hw⟩ : ∃ w : Nat, (w : Int) = (g + 1) % 2 := ⟨((g + 1) % 2).toNat, by omega⟩
  have hplan := Plan_ok h hu (w := w) (by rw [hgg]; exact hw)
  rw [hgg] at hplan hg hg2 ⊢
  have serr : ∀ (e : Int), e ≠ 0 → M_store_Plan ⟨cells⟩ b = some ([], e) → M_store_Save ⟨cells⟩ b = some ([], e) := by
    intro e he hp
    unfold M_store_Save
    rw [hp, bindS]
    simp only
    rw [show M_store_Save_l0 ([], e) 0 e cells = _ from Save_err_l0 ([], e) (by simp) e he cells [] 0 rfl, bindS, if_pos he]
  by_cases c1 : b.length > 256 * half
  · rw [if_pos c1] at hplan
    exact .inl ⟨3, by omega, serr 3 (by omega) hplan⟩
  rw [if_neg c1] at hplan
  by_cases c2 : g + 1 > 1073741824
  · rw [if_pos c2] at hplan
    exact .inl ⟨1, by omega, serr 1 (by omega) hplan⟩
  rw [if_neg c2] at hplan
  have hN := chunkN_le (show b.length ≤ 256 * half by omega)
  have hpok := putsS_ok (half := half) (w := w) (by omega) hlo (g := g + 1) (by omega) hu (by omega) hhi
  right
  refine ⟨doAll cells (putsS half w (g + 1) b), ?_, by omega, ?_⟩
  · unfold M_store_Save
    rw [hplan, bindS]
    have := Save_l0 (half := half) (putsS half w (g + 1) b, 0) (by rw [putsS_len]; omega) (putsS half w (g + 1) b) 0 cells rfl h (fun p hp => by rw [hlen]; exact hpok p hp)
    simp only at this ⊢
    rw [show M_store_Save_l0 (putsS half w (g + 1) b, 0) 0 0 cells = _ from this, bindS, if_neg (by simp)]
  · have hok := doAll_ok (putsS half w (g + 1) b) cells h (fun p hp => by rw [hlen]; exact hpok p hp)
    have k1 := kOf_saved h (w := w) (by omega) (g := g + 1) ⟨by omega, by omega⟩ (by omega) (b := b) (by omega)
    have k2 := kOf_other (cells := cells) (half := half) (w := w) (w' := 1 - w) (ps := putsS half w (g + 1) b) (by omega) (putsS_in (by omega))
    rw [Load_ok hok]
    congr 1
    unfold loadS
    have hw2 : w = 0 ∨ w = 1 := by omega
    rcases hw2 with rfl | rfl
    · simp only [Nat.sub_zero] at k2
      rw [k1, k2, if_neg (by simp only; omega), if_neg (by simp only; omega)]
    · simp only [Nat.sub_self] at k2
      rw [k1, k2, if_pos (by simp only; omega)]

theorem StoreBack_true (n : Int) (l : List (List Int)) (b : List Int) (cells : List (List Int)) (hn : I64 n) (hl : l.length ≤ 140737488355328) (hx : ∀ x ∈ l, ∀ n ∈ x, I64 n) (hu : U8s b) (hb : b.length ≤ 140737488355328)
    (hc : cells.length ≤ 140737488355328) (hcu : ∀ c ∈ cells, U8s c) : M_thrumlaw20_StoreBack n l b ⟨cells⟩ = some true := by
  obtain ⟨f, hf, hf2⟩ := Few_eq cells hc
  unfold M_thrumlaw20_StoreBack
  rw [live20_eq, bindS, if_neg (by simp), orB]
  have e4 : ((if (decide ((l.length : Int) > 20) || decide ((b.length : Int) > 5000)) = true then some true else (M_thrumref20_Few ⟨cells⟩ >>= fun r3 => some (!r3))) : Option Bool) = some ((decide ((l.length : Int) > 20) || decide ((b.length : Int) > 5000)) || !f) := by
    rw [hf, bindS]
    cases h : (decide ((l.length : Int) > 20) || decide ((b.length : Int) > 5000)) <;> simp
  rw [e4, bindS]
  by_cases h1 : ((decide ((l.length : Int) > 20) || decide ((b.length : Int) > 5000)) || !f) = true
  · rw [if_pos h1]
  rw [if_neg h1]
  simp only [Bool.or_eq_true, decide_eq_true_eq, not_or, Bool.not_eq_true', Bool.not_eq_false] at h1
  obtain ⟨⟨h11, h12⟩, h13⟩ := h1
  have hclen := hf2 h13
  rw [show M_thrumlaw20_StoreBack_l0 n l b ⟨cells⟩ true 0 = _ from Back_l0 n l b ⟨cells⟩ (by omega) l 0 rfl, bindS]
  by_cases h2 : ¬ ∀ x ∈ l, x.length ≤ 5000
  · rw [if_neg h2]
  have h2 := Classical.not_not.1 h2
  rw [if_pos h2]
  simp only
  have hxx : ∀ x ∈ l, x.length ≤ 5000 ∧ ∀ n ∈ x, I64 n := fun x h => ⟨h2 x h, hx x h⟩
  rw [Lay_eq n l hn (by omega) hxx, bindS, andB]
  -- what was laid is taken
  have p1 : ((if (decide ((layP n l).2 = 0) && decide (n ≤ 1073741824)) = true then
            (M_store_Take (layP n l).1) >>= fun r8 =>
            ((
              if r8.1 ≠ n then
                some true
              else
                (M_thrumref15_SameLists r8.2.1 l) >>= fun r9 =>
                some (!r9)) : Option Bool) >>= fun j10 =>
            ((
              if j10 = true then
                some true
              else
                some (r8.2.2 != 0)) : Option Bool) >>= fun j11 =>
            if j11 = true then
              some (.inl false)
            else
              some (.inr ())
          else
            some (.inr ())) : Option (Sum Bool Unit)) = some (.inr ()) := by
    split
    · rename_i hc2
      simp only [Bool.and_eq_true, decide_eq_true_eq] at hc2
      have hlay : 0 ≤ n ∧ l.length ≤ 8 ∧ (∀ x ∈ l, x.length ≤ 4096) ∧ (layP n l).1 = layB n l := by
        have := hc2.1
        unfold layP at this ⊢
        split at this
        · simp at this
        · rename_i hn0
          split at this
          · simp at this
          · rename_i hh
            rw [if_neg hn0, if_neg hh]
            have := not_or.1 hh
            exact ⟨by omega, by omega, fun x hx => (Classical.not_not.1 this.2) x hx, rfl⟩
      obtain ⟨q1, q2, q3, q4⟩ := hlay
      have hl8 := flat_oneB_len l hxx
      have lb1 := lebP_le n (by omega)
      have lb2 := lebP_le (l.length : Int) (by omega)
      have hu2 := layP_u8 n l
      rw [q4] at hu2 ⊢
      rw [STake_eq hu2 (by unfold layB; rw [List.length_append, List.length_append]; omega), takeP_lay ⟨q1, hc2.2⟩ q2 (fun x h => ⟨q3 x h, hx x h⟩), bindS]
      simp only
      rw [if_neg (by simp), SameL_self l (by omega) (fun x h => by have := q3 x h; omega)]
      rfl
    · rfl
  rw [p1, bindS]
  simp only
  rw [STake_eq hu hb, bindS]
  have p2 : ((if (takeP b).2.2 = 0 then
              (M_store_Lay (takeP b).1 (takeP b).2.1) >>= fun r14 =>
              ((
                if r14.2 ≠ 0 then
                  some true
                else
                  (M_thrumref03_Same r14.1 b) >>= fun r15 =>
                  some (!r15)) : Option Bool) >>= fun j16 =>
              if j16 = true then
                some (.inl false)
              else
                some (.inr ())
            else
              some (.inr ())) : Option (Sum Bool Unit)) = some (.inr ()) := by
    split
    · rename_i hc2
      obtain ⟨q1, q2, q3⟩ := takeP_back (by omega) hu hc2
      have hsm := takeP_small b (by omega)
      rw [Lay_eq _ _ q3 (by omega) (fun x h => ⟨by have := hsm.2 x h; omega, q2 x h⟩), q1, bindS]
      simp only
      rw [if_neg (by simp), Same_eq b b hu hu]
      simp [bindS]
    · rfl
  rw [p2, bindS]
  simp only
  by_cases hok : ∃ half, okS cells half
  · obtain ⟨half, hok⟩ := hok
    have he : (loadS cells half).2.2 = 0 ∨ (loadS cells half).2.2 = 8 := by
      unfold loadS
      repeat' split
      all_goals simp
    rw [Load_ok hok, bindS]
    rcases Save_load hok hu with ⟨e, e1, e2⟩ | ⟨c', e1, e2, e3⟩
    · rw [e2, bindS, if_pos e1]; rfl
    · rw [e1, bindS, if_neg (by simp)]
      simp only
      have hi : IntKind.i64.wrap ((loadS cells half).2.1 + 1) = (loadS cells half).2.1 + 1 := by
        have n0 := keptS_num 0 (cells.getD 0 []) (halfC cells half 0)
        have n1 := keptS_num 1 (cells.getD 1 []) (halfC cells half 1)
        have : 0 ≤ (loadS cells half).2.1 := by
          unfold loadS kOf
          repeat' split
          all_goals simp only; omega
        rw [i64_in _ (by omega)]
      have hs := Same_eq b b hu hu
      rw [e3, bindS, hi]
      simp only
      rcases he with he | he
      · simp [he, hs, bindS]
      · simp [he, hs, bindS]
  · have hno : ∀ half, ¬ okS cells half := fun half h => hok ⟨half, h⟩
    rw [Load_no (by omega) hcu hno, bindS]
    have hsv : M_store_Save ⟨cells⟩ b = some ([], 1) := by
      unfold M_store_Save
      rw [Plan_no (by omega) hcu hno, bindS]
      simp only
      rw [show M_store_Save_l0 ([], 1) 0 1 cells = _ from Save_err_l0 ([], 1) (by simp) 1 (by omega) cells [] 0 rfl, bindS, if_pos (by simp)]
    rw [hsv, bindS, if_pos (by simp)]; rfl
end Go.Proofs.Ythhcgcaefjmekaa.Abs
