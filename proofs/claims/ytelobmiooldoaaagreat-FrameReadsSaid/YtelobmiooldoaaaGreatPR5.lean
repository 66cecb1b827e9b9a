/- Plain facts: what the document reads as a frame. Conditions: none. -/
import Derived.Test.YtelobmiooldoaaaGreatPR4
namespace Go.Proofs.YtelobmiooldoaaaGreat.Abs
open Go Go.RowKit Go.IntWalk Crc
set_option linter.unusedVariables false
set_option linter.unnecessarySimpa false
set_option linter.unusedSimpArgs false
set_option linter.unusedSectionVars false
set_option maxRecDepth 100000

theorem bind_some {α β : Type} {m : Option α} {f : α → Option β} {b : β} (h : (m >>= f) = some b) : ∃ a, m = some a ∧ f a = some b := by
  cases m with
  | none => cases h
  | some a => exact ⟨a, rfl, h⟩
theorem cut_from {α : Type} (l : List α) (k : Nat) : cut' l (some (k : Int)) none = l.drop k := by simp [cut']
theorem U8s_r {A B : List Int} (h : U8s (A ++ B)) : U8s B := fun x hx => h x (List.mem_append_right _ hx)
theorem U8s_nil : U8s [] := by intro x hx; cases hx

theorem rbyte1_C {x : Int} {R : List Int} (hx : 0 ≤ x ∧ x ≤ 255) : M_thrum_thrumref07_text_byte1 ⟨[x] ++ R, false⟩ = some (x, R, false) := by
  rw [M_thrum_thrumref07_text_byte1]
  simp only [orB]
  rw [if_neg (by simp <;> omega), if_pos (by simp <;> omega), if_pos (by simp [cutOk] <;> omega)]
  refine congrArg some (Prod.ext ?_ (Prod.ext ?_ rfl))
  · show IntKind.i64.wrap x = x
    exact i64_in x (by omega)
  · show cut' ([x] ++ R) (some ((1 : Nat) : Int)) none = R
    rw [cut_from]; rfl
theorem rbyte1_D (B : List Int) (bad : Bool) (hu : U8s B) : ∃ (v : Int) (B' : List Int) (bad' : Bool), M_thrum_thrumref07_text_byte1 ⟨B, bad⟩ = some (v, B', bad') ∧ U8s B' ∧ B'.length ≤ B.length ∧ 0 ≤ v ∧ v ≤ 255 ∧ (bad' = false → bad = false ∧ B = [v] ++ B') := by
  by_cases hb : bad = true ∨ B = []
  · refine ⟨0, [], true, ?_, U8s_nil, by simp, by omega, by omega, by simp⟩
    rw [M_thrum_thrumref07_text_byte1]
    simp only [orB]
    rw [if_pos (by rcases hb with rfl | rfl <;> simp)]
  · match bad, B with
    | true, _ => exact absurd (.inl rfl) hb
    | false, [] => exact absurd (.inr rfl) hb
    | false, x :: R =>
      have hx := hu x (by simp)
      exact ⟨x, R, false, rbyte1_C hx, U8s_r (A := [x]) hu, by simp, hx.1, hx.2, fun _ => ⟨rfl, rfl⟩⟩

theorem getP_put0 {n : Int} {R : List Int} (hn : 0 ≤ n ∧ n ≤ 18446744073709551615) : getP (lebP n ++ R) 0 = (n, ((lebP n).length : Int), 0) := by
  have hg := getP_put [] R n hn (by simp)
  rw [List.nil_append, List.length_nil, show ((0 : Nat) : Int) = 0 from rfl, Int.zero_add] at hg
  exact hg
theorem getP_back0 {B : List Int} {n a : Int} (hl : B.length ≤ 1000000) (hu : U8s B) (hg : getP B 0 = (n, a, 0)) : 0 ≤ n ∧ n ≤ 18446744073709551615 ∧ a = ((lebP n).length : Int) ∧ ∃ R, B = lebP n ++ R := by
  obtain ⟨g1, g2, g3, g4, g5, g6⟩ := getP_back B 0 n a (by omega) hu hg
  exact ⟨g3, g4, by omega, B.drop a.toNat, by simpa using g6⟩
theorem rnumber_C {n most : Int} {R : List Int} (hl : (lebP n ++ R).length ≤ 1000000) (hu : U8s (lebP n ++ R)) (hn : 0 ≤ n ∧ n ≤ 9223372036854775807) (hm : n ≤ most) : M_thrum_thrumref07_text_number ⟨lebP n ++ R, false⟩ most = some (n, R, false) := by
  have hg := getP_put0 (n := n) (R := R) ⟨hn.1, by omega⟩
  rw [M_thrum_thrumref07_text_number]
  simp only
  rw [refGet_eq _ 0 (by omega) hu (by omega), hg, bindS]
  simp only [orB]
  rw [if_neg (by simp <;> omega), if_pos (by simp [cutOk] <;> omega), i64_in n (by omega), cut_from, List.drop_left]
theorem rnumber_D (B : List Int) (bad : Bool) (hl : B.length ≤ 1000000) (hu : U8s B) {most : Int} (hm : 0 ≤ most ∧ most ≤ 9223372036854775807) : ∃ (v : Int) (B' : List Int) (bad' : Bool), M_thrum_thrumref07_text_number ⟨B, bad⟩ most = some (v, B', bad') ∧ U8s B' ∧ B'.length ≤ B.length ∧ 0 ≤ v ∧ v ≤ most ∧ (bad' = false → bad = false ∧ B = lebP v ++ B') := by
  generalize hg : getP B 0 = g
  obtain ⟨n, a, e⟩ := g
  by_cases hc : bad = true ∨ e ≠ 0 ∨ n > most
  · refine ⟨0, [], true, ?_, U8s_nil, by simp, by omega, hm.1, by simp⟩
    rw [M_thrum_thrumref07_text_number]
    simp only
    rw [refGet_eq _ 0 (by omega) hu (by omega), hg, bindS]
    simp only [orB]
    rw [if_pos]
    rcases hc with h | h | h <;> simp [h]
  · have hb : bad = false := by cases bad <;> simp_all
    have he : e = 0 := by rcases Int.lt_trichotomy e 0 with h | h | h <;> simp_all <;> omega
    have hn : n ≤ most := by rcases Int.lt_or_le most n with h | h <;> simp_all <;> omega
    subst hb; subst he
    obtain ⟨g1, g2, g3, R, rfl⟩ := getP_back0 hl hu hg
    exact ⟨n, R, false, rnumber_C hl hu ⟨g1, by omega⟩ hn, U8s_r hu, by simp, g1, hn, fun _ => ⟨rfl, rfl⟩⟩

theorem rTake_eq {B : List Int} (hl : B.length ≤ 1000000) (hu : U8s B) : M_thrumref03_Take B 0 = some (if (getP B 0).2.2 ≠ 0 then (0, 0, (getP B 0).2.2) else (zagP (getP B 0).1, (getP B 0).2.1, 0)) := by
  have hn := getP_u64 B 0
  unfold M_thrumref03_Take
  rw [refGet_eq B 0 (by omega) hu (by omega), bindS]
  by_cases h : (getP B 0).2.2 ≠ 0
  · rw [if_pos h, if_pos h]
  · rw [if_neg h, if_neg h, refZag_eq hn.1 hn.2, bindS]
theorem sigB_cons (v : Int) (t : List Int) : sigB (v :: t) = lebP (zigP v) ++ sigB t := by simp [sigB]
theorem rsigned_lC {N : Nat} (hN : N ≤ 4096) : ∀ (t : List Int) (k : Nat) (acc R : List Int), k + t.length = N → acc.length = k → (sigB t ++ R).length ≤ 1000000 → U8s (sigB t ++ R) → (∀ n ∈ t, I64 n) → M_thrum_thrumref07_text_signed_l0 (N : Int) (k : Int) acc (sigB t ++ R) false = some (.inr (acc ++ t, R, false))
  | [], k, acc, R, hk, ha, hl, hu, hi => by
    simp only [List.length_nil] at hk
    rw [M_thrum_thrumref07_text_signed_l0, if_neg (by omega)]; simp [sigB]
  | v :: t, k, acc, R, hk, ha, hl, hu, hi => by
    simp only [List.length_cons] at hk
    rw [sigB_cons, List.append_assoc] at hl hu ⊢
    have hv := hi v (by simp)
    have hz := zig_u64 hv
    have hg := getP_put0 (n := zigP v) (R := sigB t ++ R) hz
    rw [M_thrum_thrumref07_text_signed_l0, if_pos (by omega), rTake_eq hl hu, hg, bindS]
    simp only [orB, ne_eq, not_true_eq_false, if_false]
    rw [if_neg (by simp), if_pos (room8 (by simp; omega)), if_pos (by simp [cutOk] <;> omega), cut_from, List.drop_left, bindS, i64_s (by omega), zag_zig]
    have h2 := U8s_r hu
    have h3 : (sigB t ++ R).length ≤ 1000000 := by rw [List.length_append] at hl; omega
    have := rsigned_lC hN t (k + 1) (acc ++ [v]) R (by omega) (by simp; omega) h3 h2 (fun n hn => hi n (by simp [hn]))
    rw [this]; simp
theorem rsigned_C {t R : List Int} (ht : t.length ≤ 4096) (hl : (sigB t ++ R).length ≤ 1000000) (hu : U8s (sigB t ++ R)) (hi : ∀ n ∈ t, I64 n) : M_thrum_thrumref07_text_signed ⟨sigB t ++ R, false⟩ (t.length : Int) = some (t, R, false) := by
  have h := rsigned_lC ht t 0 [] R (by omega) rfl hl hu hi
  rw [show ((0 : Nat) : Int) = 0 from rfl] at h
  rw [M_thrum_thrumref07_text_signed]
  simp only
  rw [h, bindS]; rfl
theorem rsigned_lD {N : Nat} (hN : N ≤ 4096) : ∀ (j k : Nat) (acc B : List Int) (bad : Bool), k + j = N → acc.length = k → U8s B → B.length ≤ 1000000 → M_thrum_thrumref07_text_signed_l0 (N : Int) (k : Int) acc B bad = some (.inl ([], [], true)) ∨
    ∃ (l B' : List Int) (bad' : Bool), M_thrum_thrumref07_text_signed_l0 (N : Int) (k : Int) acc B bad = some (.inr (acc ++ l, B', bad')) ∧ U8s B' ∧ B'.length ≤ B.length ∧ (bad' = false → bad = false ∧ l.length = j ∧ (∀ n ∈ l, I64 n) ∧ B = sigB l ++ B')
  | 0, k, acc, B, bad, hk, ha, hu, hl => by
    refine .inr ⟨[], B, bad, ?_, hu, Nat.le_refl _, fun h => ⟨h, rfl, by simp, by simp [sigB]⟩⟩
    rw [M_thrum_thrumref07_text_signed_l0, if_neg (by omega)]; simp
  | j + 1, k, acc, B, bad, hk, ha, hu, hl => by
    generalize hg : getP B 0 = g
    obtain ⟨n, a, e⟩ := g
    by_cases hc : bad = true ∨ e ≠ 0
    · refine .inl ?_
      rw [M_thrum_thrumref07_text_signed_l0, if_pos (by omega), rTake_eq hl hu, hg, bindS]
      simp only [orB]
      rw [if_pos]
      rcases hc with h | h <;> simp [h]
    · have hb : bad = false := by cases bad <;> simp_all
      have he : e = 0 := by rcases Int.lt_trichotomy e 0 with h | h | h <;> simp_all <;> omega
      subst hb; subst he
      obtain ⟨g1, g2, g3, R, rfl⟩ := getP_back0 hl hu hg
      have hg' := getP_put0 (n := n) (R := R) ⟨g1, g2⟩
      have e : M_thrum_thrumref07_text_signed_l0 (N : Int) (k : Int) acc (lebP n ++ R) false = M_thrum_thrumref07_text_signed_l0 (N : Int) ((k + 1 : Nat) : Int) (acc ++ [zagP n]) R false := by
        rw [M_thrum_thrumref07_text_signed_l0, if_pos (by omega), rTake_eq hl hu, hg', bindS]
        simp only [orB, ne_eq, not_true_eq_false, if_false]
        rw [if_neg (by simp), if_pos (room8 (by simp; omega)), if_pos (by simp [cutOk] <;> omega), cut_from, List.drop_left, bindS, i64_s (by omega)]
      rw [e]
      rcases rsigned_lD hN j (k + 1) (acc ++ [zagP n]) R false (by omega) (by simp; omega) (U8s_r hu) (by rw [List.length_append] at hl; omega) with h | ⟨l, B', bad', h1, h2, h3, h4⟩
      · exact .inl h
      · refine .inr ⟨zagP n :: l, B', bad', by rw [h1]; simp, h2, by rw [List.length_append]; omega, fun hb => ?_⟩
        obtain ⟨_, q1, q2, q3⟩ := h4 hb
        refine ⟨rfl, by simp [q1], fun m hm => ?_, by rw [sigB_cons, zig_zag g1, List.append_assoc, ← q3]⟩
        rcases List.mem_cons.1 hm with rfl | hm
        · exact zag_i64 ⟨g1, g2⟩
        · exact q2 m hm
theorem rsigned_D {N : Nat} (hN : N ≤ 4096) (B : List Int) (bad : Bool) (hl : B.length ≤ 1000000) (hu : U8s B) : ∃ (l B' : List Int) (bad' : Bool), M_thrum_thrumref07_text_signed ⟨B, bad⟩ (N : Int) = some (l, B', bad') ∧ U8s B' ∧ B'.length ≤ B.length ∧ (bad' = false → bad = false ∧ l.length = N ∧ (∀ n ∈ l, I64 n) ∧ B = sigB l ++ B') := by
  rw [M_thrum_thrumref07_text_signed]
  simp only
  rcases rsigned_lD hN N 0 [] B bad (by omega) rfl hu hl with h | ⟨l, B', bad', h1, h2, h3, h4⟩
  · rw [show ((0 : Nat) : Int) = 0 from rfl] at h
    refine ⟨[], [], true, ?_, U8s_nil, by simp, by simp⟩
    rw [h]; rfl
  · rw [show ((0 : Nat) : Int) = 0 from rfl] at h1
    refine ⟨l, B', bad', ?_, h2, h3, h4⟩
    rw [h1]; rfl

theorem rpart_C {X R : List Int} : M_thrum_thrumref07_text_part ⟨X ++ R, false⟩ (X.length : Int) = some (X, R, false) := by
  rw [M_thrum_thrumref07_text_part]
  simp only [orB]
  rw [if_neg (by simp <;> omega), if_pos (by simp [cutOk] <;> omega), if_pos (by simp [cutOk] <;> omega), cut_to, cut_from, Int.toNat_natCast, List.take_left, List.drop_left]
theorem rpart_D (n : Nat) (B : List Int) (bad : Bool) (hu : U8s B) : ∃ (X B' : List Int) (bad' : Bool), M_thrum_thrumref07_text_part ⟨B, bad⟩ (n : Int) = some (X, B', bad') ∧ U8s X ∧ U8s B' ∧ B'.length ≤ B.length ∧ (bad' = false → bad = false ∧ X.length = n ∧ B = X ++ B') := by
  by_cases hb : bad = true ∨ B.length < n
  · refine ⟨[], [], true, ?_, U8s_nil, U8s_nil, by simp, by simp⟩
    rw [M_thrum_thrumref07_text_part]
    simp only [orB]
    rw [if_pos]
    rcases hb with h | h <;> simp [h]
  · have h1 : bad = false := by cases bad <;> simp_all
    have h2 : n ≤ B.length := by omega
    subst h1
    have e : B = B.take n ++ B.drop n := (List.take_append_drop n B).symm
    have hn : (B.take n).length = n := by simp [h2]
    refine ⟨B.take n, B.drop n, false, ?_, fun x hx => hu x (List.mem_of_mem_take hx), fun x hx => hu x (List.mem_of_mem_drop hx), by simp, fun _ => ⟨rfl, hn, e⟩⟩
    have := rpart_C (X := B.take n) (R := B.drop n)
    rw [← e, hn] at this
    exact this

theorem bytesOf_w {w d : Nat} (hw : w ≤ 8) (hd : d ≤ 4096) : IntKind.i64.wrap (Int.tdiv (IntKind.i64.wrap ((IntKind.i64.wrap ((w : Int) * (d : Int))) + 7)) 8) = ((bytesOf w d : Nat) : Int) := by
  have h1 : w * d ≤ 8 * 4096 := Nat.mul_le_mul hw hd
  have h2 : (w : Int) * (d : Int) = ((w * d : Nat) : Int) := by push_cast; rfl
  unfold bytesOf
  rw [h2]
  generalize w * d = q at *
  rw [i64_in (q : Int) (by omega), i64_in ((q : Int) + 7) (by omega), Int.tdiv_eq_ediv_of_nonneg (by omega), i64_in _ (by omega)]
  omega
theorem bytesOf_1 {d : Nat} (hd : d ≤ 4096) : IntKind.i64.wrap (Int.tdiv (IntKind.i64.wrap ((d : Int) + 7)) 8) = ((bytesOf 1 d : Nat) : Int) := by
  unfold bytesOf
  rw [i64_in ((d : Int) + 7) (by omega), Int.tdiv_eq_ediv_of_nonneg (by omega), i64_in _ (by omega)]
  omega

/-- A vector that may be is read as it was. -/
theorem rsent_C {s : T_api_Sent} (hs : FitV s) (hm : mayP s = true) {R : List Int} (hl : (bodyP s ++ R).length ≤ 1000000) (hu : U8s (bodyP s ++ R)) :
    M_thrum_thrumref07_text_sent ⟨bodyP s ++ R, false⟩ = some (s.F_Scheme, s.F_Dim, s.F_L, s.F_V, s.F_Scale, s.F_Wide, s.F_Lev, s.F_Neg, R, false) := by
  have hS := may_iff.1 hm
  have hdim : 0 < s.F_Dim ∧ s.F_Dim ≤ 4096 := by cases hS <;> exact ⟨by assumption, by assumption⟩
  have hsch : 0 ≤ s.F_Scheme ∧ s.F_Scheme ≤ 3 := by cases hS <;> omega
  have hsc := hs.sc
  unfold I64 at hsc
  have e0 : bodyP s ++ R = [s.F_Scheme] ++ (lebP s.F_Dim ++ (restP s ++ R)) := by unfold bodyP; simp
  rw [e0] at hl hu ⊢
  have hu1 := U8s_r hu
  have hl1 : (lebP s.F_Dim ++ (restP s ++ R)).length ≤ 1000000 := by rw [List.length_append] at hl; omega
  have hu2 := U8s_r hu1
  have hl2 : (restP s ++ R).length ≤ 1000000 := by rw [List.length_append] at hl1; omega
  rw [M_thrum_thrumref07_text_sent, rbyte1_C (by omega), bindS]
  simp only
  rw [rnumber_C hl1 hu1 (by omega) hdim.2, bindS]
  simp only [orB]
  rw [if_neg (by simp; omega)]
  cases hS with
  | dense d0 d1 hs0 hv z =>
    obtain ⟨z1, z2, z3, z4, z5⟩ := z
    have er : restP s = sigB s.F_V := by unfold restP; rw [if_pos hs0]
    rw [er] at hl2 hu2 ⊢
    rw [if_neg (by omega), bindS]
    simp only
    rw [if_pos (by simp [hs0]), ← hv, rsigned_C (by omega) hl2 hu2 hs.v, bindS, z1, z2, z3, z4, z5]
  | top d0 d1 hs0 c hv z =>
    obtain ⟨z2, z3, z4, z5⟩ := z
    have hL := top_len c
    have er : restP s = putB s.F_Dim s.F_L ++ sigB s.F_V := by unfold restP; rw [if_neg (by omega), if_pos hs0]
    rw [er, List.append_assoc] at hl2 hu2 ⊢
    have hg := get_put s.F_Dim s.F_L [] (sigB s.F_V ++ R) c (by simp)
    rw [List.nil_append, List.length_nil, Nat.zero_add, show ((0 : Nat) : Int) = 0 from rfl] at hg
    have hu3 := U8s_r hu2
    have hl3 : (sigB s.F_V ++ R).length ≤ 1000000 := by rw [List.length_append] at hl2; omega
    rw [if_pos hs0, refGet6_eq s.F_Dim _ 0 (by omega) hu2 (by omega), hg, bindS]
    simp only
    rw [if_neg (by simp), if_pos (by simp [cutOk] <;> omega), bindS, cut_from, List.drop_left]
    simp only
    rw [if_pos (by simp [hs0]), hv, rsigned_C (by omega) hl3 hu3 hs.v, bindS, z2, z3, z4, z5]
  | level d0 d1 hs0 w0 w1 l x c n z =>
    obtain ⟨z1, z2⟩ := z
    have er : restP s = lebP s.F_Scale ++ ([s.F_Wide] ++ (planeB (pWov s.F_Dim.toNat) s.F_Wide.toNat s.F_Dim.toNat s.F_Lev ++ signsB s.F_Neg)) := by unfold restP; rw [if_neg (by omega), if_neg (by omega), if_pos hs0]
    rw [er] at hl2 hu2 ⊢
    simp only [List.append_assoc] at hl2 hu2 ⊢
    have hu3 := U8s_r hu2
    have hu4 := U8s_r hu3
    have hLev : s.F_Lev.length = s.F_Dim.toNat := by omega
    have hby := bytesOf_w (w := s.F_Wide.toNat) (d := s.F_Dim.toNat) (by omega) (by omega)
    rw [Int.toNat_of_nonneg (by omega), Int.toNat_of_nonneg (by omega)] at hby
    have hb1 := bytesOf_1 (d := s.F_Dim.toNat) (by omega)
    rw [Int.toNat_of_nonneg (by omega)] at hb1
    have hun := refUnweave_eq (w := s.F_Wide.toNat) (d := s.F_Dim.toNat) (by omega) (by omega) (planeB_u8 (pWov s.F_Dim.toNat) s.F_Wide.toNat s.F_Dim.toNat s.F_Lev)
    rw [if_pos (planeB_len _ _ _ _), if_pos (tail_put (plc_wov _ _) hLev), take_put (plc_wov _ _) hLev (fun y hy => ⟨(hs.fit.u y hy).1, x y hy⟩), Int.toNat_of_nonneg (by omega), Int.toNat_of_nonneg (by omega)] at hun
    have hn : s.F_Neg.length = s.F_Dim.toNat := by omega
    have hrd := refRead5_eq (d := s.F_Dim.toNat) (by omega) (signsB_u8 s.F_Neg)
    rw [← hn, if_pos (signsB_len _), if_pos (show tail0 1 s.F_Neg.length (signsB s.F_Neg) from tail_put (plc_side 1 s.F_Neg.length) (by simp)), readS_signs, n] at hrd
    have hp1 : ((planeB (pWov s.F_Dim.toNat) s.F_Wide.toNat s.F_Dim.toNat s.F_Lev).length : Int) = ((bytesOf s.F_Wide.toNat s.F_Dim.toNat : Nat) : Int) := by rw [planeB_len]
    have hp2 : ((signsB s.F_Neg).length : Int) = ((bytesOf 1 s.F_Dim.toNat : Nat) : Int) := by rw [signsB_len, hn]
    have hpart := rpart_C (X := planeB (pWov s.F_Dim.toNat) s.F_Wide.toNat s.F_Dim.toNat s.F_Lev) (R := signsB s.F_Neg ++ R)
    rw [hp1] at hpart
    have hpart2 := rpart_C (X := signsB s.F_Neg) (R := R)
    rw [hp2] at hpart2
    rw [if_neg (by omega), bindS]
    simp only
    rw [if_neg (by simp; omega), rnumber_C hl2 hu2 (by omega) (by omega), bindS]
    simp only
    rw [if_pos hs0, rbyte1_C (by omega), bindS]
    simp only
    rw [if_neg (by simp; omega), hby, bindS, hpart, bindS]
    simp only
    rw [hun, bindS]
    simp only
    rw [if_neg (by simp), bindS]
    simp only
    rw [hb1, hpart2, bindS]
    simp only
    rw [hrd, bindS, if_neg (by simp), z1, z2]
    rfl
  | sign d0 d1 hs0 c n z =>
    obtain ⟨z1, z2, z3, z4⟩ := z
    have er : restP s = lebP s.F_Scale ++ signsB s.F_Neg := by unfold restP; rw [if_neg (by omega), if_neg (by omega), if_neg (by omega)]
    rw [er] at hl2 hu2 ⊢
    simp only [List.append_assoc] at hl2 hu2 ⊢
    have hb1 := bytesOf_1 (d := s.F_Dim.toNat) (by omega)
    rw [Int.toNat_of_nonneg (by omega)] at hb1
    have hn : s.F_Neg.length = s.F_Dim.toNat := by omega
    have hrd := refRead5_eq (d := s.F_Dim.toNat) (by omega) (signsB_u8 s.F_Neg)
    rw [← hn, if_pos (signsB_len _), if_pos (show tail0 1 s.F_Neg.length (signsB s.F_Neg) from tail_put (plc_side 1 s.F_Neg.length) (by simp)), readS_signs, n] at hrd
    have hp2 : ((signsB s.F_Neg).length : Int) = ((bytesOf 1 s.F_Dim.toNat : Nat) : Int) := by rw [signsB_len, hn]
    have hpart2 := rpart_C (X := signsB s.F_Neg) (R := R)
    rw [hp2] at hpart2
    rw [if_neg (by omega), bindS]
    simp only
    rw [if_neg (by simp; omega), rnumber_C hl2 hu2 (by omega) (by omega), bindS]
    simp only
    rw [if_neg (by omega), bindS]
    simp only
    rw [hb1, hpart2, bindS]
    simp only
    rw [hrd, bindS, if_neg (by simp), z1, z2, z3, z4]
    rfl
end Go.Proofs.YtelobmiooldoaaaGreat.Abs
