/- Plain facts on frames: what was read is written as it stood. Conditions: none. -/
import Derived.Test.YtelobmiooldoaaaGreatPG7
namespace Go.Proofs.YtelobmiooldoaaaGreat.Abs
open Go Go.RowKit Go.IntWalk Crc
set_option linter.unusedVariables false
set_option linter.unnecessarySimpa false
set_option linter.unusedSimpArgs false
set_option linter.unusedSectionVars false
set_option maxRecDepth 100000

theorem drop_len {b X : List Int} {k k' : Nat} (hk : k ≤ b.length) (h : b.drop k = X ++ b.drop k') (he : k' = k + X.length) : k' ≤ b.length := by
  have := congrArg List.length h
  simp only [List.length_drop, List.length_append] at this
  omega

section
variable {b : List Int} (hb : b.length ≤ 1000000) (hu : U8s b)
include hb hu

theorem number_D {k : Nat} (hk : k ≤ b.length) (bad : Bool) {most : Int} (hm : 0 ≤ most) : ∃ (v : Int) (k' : Nat) (bad' : Bool), M_thrum_frame_reader_number ⟨⟨b, (k : Int)⟩, bad⟩ most = some (v, b, (k' : Int), bad') ∧ k' ≤ b.length ∧ 0 ≤ v ∧ v ≤ most ∧
    (bad' = false → bad = false ∧ v ≤ 18446744073709551615 ∧ b.drop k = lebP v ++ b.drop k') := by
  rw [M_thrum_frame_reader_number]
  simp only
  rw [leb_Get_eq b k (by omega) hu (by omega), bindS, orB, orB]
  generalize hg : getP b (k : Int) = g
  obtain ⟨n, a, e⟩ := g
  simp only
  split
  · exact ⟨0, k, true, rfl, hk, by omega, hm, by simp⟩
  · rename_i hc
    simp at hc
    obtain ⟨⟨h1, h2⟩, h3⟩ := hc
    subst h1; subst h2
    obtain ⟨g1, g2, g3, g4, g5, g6⟩ := getP_back b k n a (by omega) hu hg
    have e1 : a.toNat = k + (lebP n).length := by omega
    rw [Int.toNat_natCast, e1] at g6
    refine ⟨n, k + (lebP n).length, false, ?_, drop_len hk g6 rfl, g3, by omega, fun _ => ⟨rfl, g4, g6⟩⟩
    rw [g5]; push_cast; rfl

theorem part_D {k : Nat} (hk : k ≤ b.length) (bad : Bool) {n : Nat} (hn : n ≤ 1000000) : ∃ (X : List Int) (k' : Nat) (bad' : Bool), M_thrum_frame_reader_part ⟨⟨b, (k : Int)⟩, bad⟩ (n : Int) = some (X, b, (k' : Int), bad') ∧ k' ≤ b.length ∧ X.length = n ∧ U8s X ∧
    (bad' = false → bad = false ∧ b.drop k = X ++ b.drop k') := by
  have hz : U8s (List.replicate n 0) := by intro x hx; rw [List.mem_replicate] at hx; omega
  cases bad with
  | true =>
    refine ⟨List.replicate n 0, k, true, ?_, hk, by simp, hz, by simp⟩
    rw [M_thrum_frame_reader_part, if_pos rfl, if_pos (by omega)]; simp
  | false =>
    by_cases h : k + n ≤ b.length
    · refine ⟨(b.drop k).take n, k + n, false, part_good b k n (by omega) h, h, by simp; omega, fun x hx => hu x (List.mem_of_mem_drop (List.mem_of_mem_take hx)), fun _ => ⟨rfl, ?_⟩⟩
      rw [← List.drop_drop, List.take_append_drop]
    · refine ⟨List.replicate n 0, k, true, ?_, hk, by simp, hz, by simp⟩
      rw [M_thrum_frame_reader_part, if_neg (by simp)]
      simp only
      rw [i64_in _ (by omega), if_pos (by omega), if_pos (by omega)]; simp

theorem small_D {k : Nat} (hk : k ≤ b.length) (bad : Bool) : ∃ (v : Int) (k' : Nat) (bad' : Bool), M_thrum_frame_reader_small ⟨⟨b, (k : Int)⟩, bad⟩ = some (v, b, (k' : Int), bad') ∧ k' ≤ b.length ∧ 0 ≤ v ∧ v ≤ 255 ∧
    (bad' = false → bad = false ∧ b.drop k = [v] ++ b.drop k') := by
  obtain ⟨X, k', bad', h1, h2, h3, h4, h5⟩ := part_D hb hu hk bad (n := 1) (by omega)
  match X, h3 with
  | [x], _ =>
    have hx := h4 x (by simp)
    refine ⟨x, k', bad', ?_, h2, hx.1, hx.2, h5⟩
    rw [M_thrum_frame_reader_small]
    erw [h1]
    rw [bindS, if_pos (by simp), drop_at0, i64_in _ (by omega)]

theorem signed_lD {N : Nat} (hN : N ≤ 4096) : ∀ (j k : Nat) (acc : List Int) (bad : Bool), acc.length + j = N → k ≤ b.length → ∃ (l : List Int) (k' : Nat) (bad' : Bool), M_thrum_frame_reader_signed_l0 (N : Int) acc b (k : Int) bad = some (acc ++ l, b, (k' : Int), bad') ∧ k' ≤ b.length ∧
    (bad' = false → bad = false ∧ l.length = j ∧ (∀ n ∈ l, I64 n) ∧ b.drop k = sigB l ++ b.drop k')
  | 0, k, acc, bad, hl, hk => by
    refine ⟨[], k, bad, ?_, hk, fun h => ⟨h, rfl, by simp, by simp [sigB]⟩⟩
    rw [M_thrum_frame_reader_signed_l0]
    simp only [andB]
    rw [if_neg (by simp; omega)]; simp
  | j + 1, k, acc, bad, hl, hk => by
    rw [M_thrum_frame_reader_signed_l0]
    simp only [andB]
    cases bad with
    | true =>
      refine ⟨[], k, true, ?_, hk, by simp⟩
      rw [if_neg (by simp)]; simp
    | false =>
      obtain ⟨v, k1, bad1, h1, h2, h3, h4, h5⟩ := number_D hb hu hk false (most := 18446744073709551615) (by omega)
      rw [if_pos (by simp; omega), h1, bindS]
      simp only
      rw [Zag_eq h3 h4, bindS, if_pos (room8 (by simp; omega))]
      obtain ⟨l, k', bad', g1, g2, g3⟩ := signed_lD hN j k1 (acc ++ [zagP v]) bad1 (by simp; omega) h2
      refine ⟨zagP v :: l, k', bad', ?_, g2, fun hb' => ?_⟩
      · rw [g1]; simp
      · obtain ⟨e1, e2, e3, e4⟩ := g3 hb'
        obtain ⟨f1, f2, f3⟩ := h5 e1
        refine ⟨by simp, by simp [e2], fun n hn => ?_, ?_⟩
        · rcases List.mem_cons.1 hn with rfl | hn
          · exact zag_i64 ⟨h3, f2⟩
          · exact e3 n hn
        · have : sigB (zagP v :: l) = lebP v ++ sigB l := by simp [sigB, zig_zag h3]
          rw [this, f3, e4, List.append_assoc]

theorem signed_D {k : Nat} (hk : k ≤ b.length) (bad : Bool) {N : Nat} (hN : N ≤ 4096) : ∃ (l : List Int) (k' : Nat) (bad' : Bool), M_thrum_frame_reader_signed ⟨⟨b, (k : Int)⟩, bad⟩ (N : Int) = some (l, b, (k' : Int), bad') ∧ k' ≤ b.length ∧
    (bad' = false → bad = false ∧ l.length = N ∧ (∀ n ∈ l, I64 n) ∧ b.drop k = sigB l ++ b.drop k') := by
  obtain ⟨l, k', bad', h1, h2, h3⟩ := signed_lD hb hu hN N k [] bad (by simp) hk
  refine ⟨l, k', bad', ?_, h2, h3⟩
  rw [M_thrum_frame_reader_signed, if_pos (by omega), bindS]
  simp only [Int.toNat_zero, List.replicate_zero]
  rw [h1, bindS]; simp

theorem places_D {k : Nat} (hk : k ≤ b.length) (bad : Bool) (dim : Int) : ∃ (l : List Int) (k' : Nat) (bad' : Bool), M_thrum_frame_reader_places ⟨⟨b, (k : Int)⟩, bad⟩ dim = some (l, b, (k' : Int), bad') ∧ k' ≤ b.length ∧ l.length ≤ 4096 ∧
    (bad' = false → bad = false ∧ checkP dim l = 0 ∧ b.drop k = putB dim l ++ b.drop k') := by
  cases bad with
  | true => exact ⟨[], k, true, by rw [M_thrum_frame_reader_places, if_pos rfl], hk, by simp, by simp⟩
  | false =>
    rw [M_thrum_frame_reader_places, if_neg (by simp)]
    simp only
    rw [iGet_eq dim b k (by omega) hu (by omega), bindS]
    generalize hg : igetP dim b (k : Int) = g
    have hlen := igetP_len dim b (k : Int)
    rw [hg] at hlen
    obtain ⟨l, a, e⟩ := g
    simp only at hlen ⊢
    split
    · exact ⟨[], k, true, rfl, hk, by simp, by simp⟩
    · rename_i he
      have : e = 0 := by simpa using he
      subst this
      obtain ⟨g1, g2, g3, g4, g5⟩ := put_get dim b k l a (by omega) hu hg
      rw [Int.toNat_natCast] at g5
      refine ⟨l, a.toNat, false, by rw [Int.toNat_of_nonneg (by omega)], by omega, hlen, fun _ => ⟨by simp, g1, g5⟩⟩

theorem signs_D {k : Nat} (hk : k ≤ b.length) (bad : Bool) {d : Nat} (hd : d ≤ 4096) : ∃ (l : List Bool) (k' : Nat) (bad' : Bool), M_thrum_frame_reader_signs ⟨⟨b, (k : Int)⟩, bad⟩ (d : Int) = some (l, b, (k' : Int), bad') ∧ k' ≤ b.length ∧
    (bad' = false → bad = false ∧ l.length = d ∧ b.drop k = signsB l ++ b.drop k') := by
  have hn : IntKind.i64.wrap (Int.tdiv (IntKind.i64.wrap ((d : Int) + 7)) 8) = ((bytesOf 1 d : Nat) : Int) := by
    rw [i64_in ((d : Int) + 7) (by omega), Int.tdiv_eq_ediv_of_nonneg (by omega), i64_in _ (by omega)]
    unfold bytesOf; omega
  have hby := bytesOf_le (w := 1) (d := d) (by omega) hd
  obtain ⟨X, k', bad', h1, h2, h3, h4, h5⟩ := part_D hb hu hk bad (n := bytesOf 1 d) (by omega)
  rw [M_thrum_frame_reader_signs, hn, h1, bindS]
  simp only
  rw [Read_eq hd h4 h3]
  by_cases ht : tail0 1 d X
  · rw [if_pos ht, bindS]
    simp only
    rw [must_eq, bindS]
    refine ⟨readS d X, k', bad', by simp, h2, fun h => ?_⟩
    obtain ⟨e1, e2⟩ := h5 h
    refine ⟨e1, by simp [readS, planeT_len], ?_⟩
    rw [signs_readS h4 h3 ht]; exact e2
  · rw [if_neg ht, bindS]
    simp only
    rw [must_eq, bindS]
    exact ⟨[], k', true, by simp, h2, by simp⟩

theorem sent_D {k : Nat} (hk : k ≤ b.length) : ∃ (s : T_api_Sent) (k' : Nat) (bad' : Bool), M_thrum_frame_reader_sent ⟨⟨b, (k : Int)⟩, false⟩ = some (s.F_Scheme, s.F_Dim, s.F_L, s.F_V, s.F_Scale, s.F_Wide, s.F_Lev, s.F_Neg, b, (k' : Int), bad') ∧ k' ≤ b.length ∧
    (bad' = false → FitV s ∧ mayP s = true ∧ b.drop k = bodyP s ++ b.drop k') := by
  obtain ⟨sch, k1, bad1, h1, h2, h3, h4, h5⟩ := small_D hb hu hk false
  obtain ⟨dim, k2, bad2, g1, g2, g3, g4, g5⟩ := number_D hb hu h2 bad1 (most := 4096) (by omega)
  rw [M_thrum_frame_reader_sent, h1, bindS]
  simp only
  rw [g1, bindS]
  simp only
  rw [i64_in dim (by omega), must_eq, bindS]
  simp only
  by_cases hbd : (bad2 || !decide (dim > 0)) = true
  · rw [if_pos hbd]
    exact ⟨⟨sch, dim, [], [], 0, 0, [], []⟩, k2, true, by rw [hbd], g2, by simp⟩
  rw [if_neg hbd]
  have hbd' : (bad2 || !decide (dim > 0)) = false := by simpa using hbd
  rw [hbd']
  simp only [Bool.or_eq_false_iff, Bool.not_eq_false', decide_eq_true_eq] at hbd'
  obtain ⟨rfl, hd⟩ := hbd'
  obtain ⟨rfl, _, g6⟩ := g5 rfl
  obtain ⟨_, h6⟩ := h5 rfl
  rw [g6] at h6
  obtain ⟨d, rfl⟩ : ∃ d : Nat, dim = (d : Int) := ⟨dim.toNat, by omega⟩
  have hd4 : d ≤ 4096 := by omega
  -- what is behind, by its scheme
  have fin : ∀ (s : T_api_Sent) (k' : Nat), s.F_Scheme = sch → s.F_Dim = (d : Int) → b.drop k2 = restP s ++ b.drop k' → b.drop k = bodyP s ++ b.drop k' := by
    intro s k' e1 e2 e3
    rw [h6, e3]; unfold bodyP; rw [e1, e2]; simp
  by_cases c0 : sch = 0
  · subst c0
    rw [if_pos rfl]
    obtain ⟨l, k3, bad3, r1, r2, r3⟩ := signed_D hb hu g2 false hd4
    rw [r1, bindS]
    refine ⟨⟨0, d, [], l, 0, 0, [], []⟩, k3, bad3, rfl, r2, fun hbb => ?_⟩
    obtain ⟨_, e1, e2, e3⟩ := r3 hbb
    refine ⟨⟨⟨by simp, by simp; omega, by simp, by simp, by simp⟩, e2, by simp [I64]⟩, may_iff.2 (.dense hd (by simp; omega) rfl (by simp [e1]) (by simp)), fin _ _ rfl rfl (by simp [restP]; exact e3)⟩
  rw [if_neg c0]
  by_cases c1 : sch = 1
  · subst c1
    rw [if_pos rfl]
    obtain ⟨l, k3, bad3, r1, r2, r2', r3⟩ := places_D hb hu g2 false (d : Int)
    obtain ⟨v, k4, bad4, q1, q2, q3⟩ := signed_D hb hu r2 bad3 r2'
    rw [r1, bindS]
    simp only
    rw [q1, bindS]
    refine ⟨⟨1, d, l, v, 0, 0, [], []⟩, k4, bad4, rfl, q2, fun hbb => ?_⟩
    obtain ⟨e0, e1, e2, e3⟩ := q3 hbb
    obtain ⟨_, f1, f2⟩ := r3 e0
    refine ⟨⟨⟨by simp; omega, by simp; omega, by simp, by simp, by simp⟩, e2, by simp [I64]⟩, may_iff.2 (.top hd (by simp; omega) rfl f1 (by simp [e1]) (by simp)), fin _ _ rfl rfl ?_⟩
    simp only [restP, if_neg (show ¬ (1 : Int) = 0 by omega), if_true]
    rw [f2, e3, List.append_assoc]
  rw [if_neg c1]
  by_cases c2 : sch = 2
  · subst c2
    rw [if_pos rfl]
    obtain ⟨sc, k3, bad3, r1, r2, r3, r4, r5⟩ := number_D hb hu g2 false (most := 9223372036854775807) (by omega)
    obtain ⟨w, k4, bad4, q1, q2, q3, q4, q5⟩ := small_D hb hu r2 bad3
    rw [r1, bindS]
    simp only
    rw [q1, bindS]
    simp only [andB]
    rw [must_eq, bindS]
    simp only
    by_cases hbw : (bad4 || !(decide (w > 0) && decide (w ≤ 8))) = true
    · rw [if_pos hbw, i64_in sc (by omega)]
      exact ⟨⟨2, d, [], [], sc, w, [], []⟩, k4, true, by rw [hbw], q2, by simp⟩
    rw [if_neg hbw]
    have hbw' : (bad4 || !(decide (w > 0) && decide (w ≤ 8))) = false := by simpa using hbw
    rw [hbw']
    simp only [Bool.or_eq_false_iff, Bool.not_eq_false', Bool.and_eq_true, decide_eq_true_eq] at hbw'
    obtain ⟨rfl, hw1, hw2⟩ := hbw'
    obtain ⟨rfl, q6⟩ := q5 rfl
    obtain ⟨_, _, r6⟩ := r5 rfl
    obtain ⟨w, rfl⟩ : ∃ n : Nat, w = (n : Int) := ⟨w.toNat, by omega⟩
    have hby := bytesOf_le (w := w) (d := d) (by omega) hd4
    rw [Bytes_eq (w := w) (d := d) (by omega) hd4, bindS]
    simp only
    rw [must_eq, bindS]
    simp only [beq_self_eq_true, Bool.not_true, Bool.or_self]
    obtain ⟨X, k5, bad5, p1, p2, p3, p4, p5⟩ := part_D hb hu q2 false (n := bytesOf w d) (by omega)
    rw [p1, bindS]
    simp only
    rw [M_plane_Unweave, M_plane_woven, bindS, takeW_eq (w := w) (d := d) (by omega) hd4 p4 p3, bindS, bindS]
    simp only
    rw [must_eq, bindS]
    simp only
    obtain ⟨ng, k6, bad6, s1, s2, s3⟩ := signs_D hb hu p2 (bad5 || !((if tail0 w d X then (planeT (pWov d) w d X, (0 : Int)) else ([], 6)).2 == 0)) hd4
    rw [s1, bindS, i64_in sc (by omega)]
    refine ⟨⟨2, d, [], [], sc, w, (if tail0 w d X then (planeT (pWov d) w d X, (0 : Int)) else ([], 6)).1, ng⟩, k6, bad6, rfl, s2, fun hbb => ?_⟩
    obtain ⟨e0, e1, e2⟩ := s3 hbb
    have ht : tail0 w d X := by
      by_cases ht : tail0 w d X
      · exact ht
      · rw [if_neg ht] at e0; simp at e0
    rw [if_pos ht] at e0 ⊢
    simp only [beq_self_eq_true, Bool.not_true, Bool.or_false] at e0
    obtain ⟨_, f1⟩ := p5 e0
    have hT : ∀ n ∈ planeT (pWov d) w d X, 0 ≤ n ∧ n.toNat < 2 ^ w := by
      intro n hn
      unfold planeT at hn
      obtain ⟨e, _, rfl⟩ := List.mem_map.1 hn
      exact ⟨by omega, by rw [Int.toNat_natCast]; exact takeIn_lt _ _⟩
    have hpw : (2 : Nat) ^ w ≤ 2 ^ 8 := Nat.pow_le_pow_right (by omega) (by omega)
    refine ⟨⟨⟨by simp, by simp, by simp [planeT_len]; omega, by simp; omega, fun n hn => by have := hT n hn; omega⟩, by simp, ⟨by simp only; omega, by simp only; omega⟩⟩, may_iff.2 (.level hd (by simp; omega) rfl (by simp; omega) (by simp; omega) (by simp [planeT_len]) (fun n hn => by simpa using (hT n hn).2) r3 (by simp [e1]) (by simp)), fin _ _ rfl rfl ?_⟩
    simp only [restP, if_neg (show ¬ (2 : Int) = 0 by omega), if_neg (show ¬ (2 : Int) = 1 by omega), if_true, Int.toNat_natCast]
    rw [put_take (plc_wov w d) p3 p4 (fun m h1 h2 => ht m h2 h1), r6, q6, f1, e2]; simp
  rw [if_neg c2]
  by_cases c3 : sch = 3
  · subst c3
    rw [if_pos rfl]
    obtain ⟨sc, k3, bad3, r1, r2, r3, r4, r5⟩ := number_D hb hu g2 false (most := 9223372036854775807) (by omega)
    obtain ⟨ng, k6, bad6, s1, s2, s3⟩ := signs_D hb hu r2 bad3 hd4
    rw [r1, bindS]
    simp only
    rw [s1, bindS, i64_in sc (by omega)]
    refine ⟨⟨3, d, [], [], sc, 0, [], ng⟩, k6, bad6, rfl, s2, fun hbb => ?_⟩
    obtain ⟨e0, e1, e2⟩ := s3 hbb
    obtain ⟨_, _, r6⟩ := r5 e0
    refine ⟨⟨⟨by simp, by simp, by simp, by simp; omega, by simp⟩, by simp, ⟨by simp only; omega, by simp only; omega⟩⟩, may_iff.2 (.sign hd (by simp; omega) rfl r3 (by simp [e1]) (by simp)), fin _ _ rfl rfl ?_⟩
    simp only [restP, if_neg (show ¬ (3 : Int) = 0 by omega), if_neg (show ¬ (3 : Int) = 1 by omega), if_neg (show ¬ (3 : Int) = 2 by omega)]
    rw [r6, e2]; simp
  · rw [if_neg c3]
    exact ⟨⟨sch, d, [], [], 0, 0, [], []⟩, k2, true, rfl, g2, by simp⟩
end

/-- What is opened was sealed. -/
theorem open_sound {b c : List Int} (hu : U8s b) (h : openI b = (c, 0)) : sealI c = b := by
  unfold openI at h
  simp only [Prod.mk.injEq] at h
  obtain ⟨h1, h2⟩ := h
  unfold sealI
  rw [← h1, bytesL_of]
  unfold openB at h2 ⊢
  split at h2
  · cases h2
  · split at h2
    · cases h2
    · split at h2
      · rename_i h3 h4 h5
        rw [if_neg h3, if_neg h4, if_pos h5, h5, bytesL_Yn hu]
      · cases h2

/-- What is read, whatever it is. -/
theorem read_D {b : List Int} (hb : b.length ≤ 70000) (hu : U8s b) : (∃ e, e ≠ 0 ∧ M_frame_Read b = some (0, 0, 0, 0, 0, [], [], 0, 0, [], [], e)) ∨
    ∃ f : T_api_Frame, M_frame_Read b = some (f.F_Kind, f.F_From, f.F_Step, f.F_S.F_Scheme, f.F_S.F_Dim, f.F_S.F_L, f.F_S.F_V, f.F_S.F_Scale, f.F_S.F_Wide, f.F_S.F_Lev, f.F_S.F_Neg, 0) ∧ FitV f.F_S ∧ frameOk f ∧ sealI (textP f) = b := by
  rw [M_frame_Read, openI_eq hu hb, bindS]
  generalize ho : openI b = o
  have hc := openI_u8 b
  have hcl := openI_len b
  rw [ho] at hc hcl
  obtain ⟨c, e⟩ := o
  simp only at hc hcl ⊢
  by_cases he : e ≠ 0
  · rw [if_pos he]; exact .inl ⟨e, he, rfl⟩
  rw [if_neg he]
  have he' : e = 0 := by simpa using he
  subst he'
  have hs := open_sound hu ho
  have hl : c.length ≤ 1000000 := by omega
  obtain ⟨ver, k1, bad1, a1, a2, a3, a4, a5⟩ := small_D hl hc (k := 0) (Nat.zero_le _) false
  obtain ⟨kind, k2, bad2, b1, b2, b3, b4, b5⟩ := small_D hl hc a2 (bad1 || !(ver == 1))
  obtain ⟨from_, k3, bad3, c1, c2, c3, c4, c5⟩ := number_D hl hc b2 bad2 (most := 63) (by omega)
  obtain ⟨step, k4, bad4, d1, d2, d3, d4, d5⟩ := number_D hl hc c2 bad3 (most := 1073741824) (by omega)
  rw [show (0 : Int) = ((0 : Nat) : Int) from rfl, a1, bindS]
  simp only
  rw [must_eq, bindS]
  simp only
  rw [b1, bindS]
  simp only
  rw [c1, bindS]
  simp only
  rw [d1, bindS]
  simp only [andB]
  -- the rest, when all is told
  have fin : ∀ (s : T_api_Sent) (k5 : Nat) (bad5 : Bool), k5 ≤ c.length → (bad5 = false → bad4 = false ∧ FitV s ∧ (kind = 1 ∧ mayP s = true ∧ c.drop k4 = bodyP s ++ c.drop k5 ∨ kind ≠ 1 ∧ s = zeroS ∧ k5 = k4)) →
      ∀ m, m = (if bad5 = true then some ((0 : Int), (0 : Int), (0 : Int), (0 : Int), (0 : Int), ([] : List Int), ([] : List Int), (0 : Int), (0 : Int), ([] : List Int), ([] : List Bool), (6 : Int)) else if (k5 : Int) < (c.length : Int) then some (0, 0, 0, 0, 0, [], [], 0, 0, [], [], 6) else
        (M_frame_Check ⟨kind, IntKind.i64.wrap from_, IntKind.i64.wrap step, s⟩ >>= fun r10 => if r10 ≠ 0 then some (0, 0, 0, 0, 0, [], [], 0, 0, [], [], 6) else some (kind, IntKind.i64.wrap from_, IntKind.i64.wrap step, s.F_Scheme, s.F_Dim, s.F_L, s.F_V, s.F_Scale, s.F_Wide, s.F_Lev, s.F_Neg, 0))) →
      (∃ e, e ≠ 0 ∧ m = some (0, 0, 0, 0, 0, [], [], 0, 0, [], [], e)) ∨ ∃ f : T_api_Frame, m = some (f.F_Kind, f.F_From, f.F_Step, f.F_S.F_Scheme, f.F_S.F_Dim, f.F_S.F_L, f.F_S.F_V, f.F_S.F_Scale, f.F_S.F_Wide, f.F_S.F_Lev, f.F_S.F_Neg, 0) ∧ FitV f.F_S ∧ frameOk f ∧ sealI (textP f) = b := by
    rintro s k5 bad5 hk5 hs5 m rfl
    cases bad5 with
    | true => rw [if_pos rfl]; exact .inl ⟨6, by omega, rfl⟩
    | false =>
      rw [if_neg (by simp)]
      by_cases hlt : (k5 : Int) < (c.length : Int)
      · rw [if_pos hlt]; exact .inl ⟨6, by omega, rfl⟩
      rw [if_neg hlt]
      obtain ⟨rfl, hfit, hS⟩ := hs5 rfl
      obtain ⟨rfl, _, d6⟩ := d5 rfl
      obtain ⟨rfl, _, c6⟩ := c5 rfl
      obtain ⟨hb1, b6⟩ := b5 rfl
      simp only [Bool.or_eq_false_iff, Bool.not_eq_false', beq_iff_eq] at hb1
      obtain ⟨rfl, rfl⟩ := hb1
      obtain ⟨_, a6⟩ := a5 rfl
      rw [i64_in from_ (by omega), i64_in step (by omega), fCheck_eq (f := ⟨kind, from_, step, s⟩) hfit.fit, bindS]
      by_cases hok : frameOk ⟨kind, from_, step, s⟩
      · rw [if_pos hok, if_neg (by simp)]
        refine .inr ⟨⟨kind, from_, step, s⟩, rfl, hfit, hok, ?_⟩
        have hend : c.drop k5 = [] := List.drop_eq_nil_of_le (by omega)
        have ht : textP ⟨kind, from_, step, s⟩ = c := by
          rw [List.drop_zero] at a6
          rw [a6, b6, c6, d6]
          unfold textP
          simp only
          rcases hS with ⟨rfl, h2, h3⟩ | ⟨h1, rfl, rfl⟩
          · rw [if_pos rfl, h3, hend]; simp
          · rw [if_neg h1, hend]; simp
        rw [ht]; exact hs
      · rw [if_neg hok, if_pos (by simp)]; exact .inl ⟨6, by omega, rfl⟩
  by_cases hj : (decide (kind = 1) && !bad4) = true
  · rw [hj, if_pos rfl]
    simp only [Bool.and_eq_true, decide_eq_true_eq, Bool.not_eq_true'] at hj
    obtain ⟨rfl, rfl⟩ := hj
    obtain ⟨s, k5, bad5, e1, e2, e3⟩ := sent_D hl hc d2
    rw [e1, bindS, bindS]
    exact fin s k5 bad5 e2 (fun h => by obtain ⟨g1, g2, g3⟩ := e3 h; exact ⟨rfl, g1, .inl ⟨rfl, g2, g3⟩⟩) _ rfl
  · rw [if_neg hj, bindS]
    refine fin zeroS k4 bad4 d2 (fun h => ?_) _ rfl
    subst h
    refine ⟨rfl, ⟨zero_fit, by simp [zeroS], by simp [zeroS, I64]⟩, .inr ⟨?_, rfl, rfl⟩⟩
    intro hk
    apply hj
    simp [hk]
end Go.Proofs.YtelobmiooldoaaaGreat.Abs
