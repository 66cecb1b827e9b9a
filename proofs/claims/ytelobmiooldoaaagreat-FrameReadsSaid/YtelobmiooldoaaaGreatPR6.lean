/- Plain facts: the document reads as frames what the program does. Conditions: none. -/
import Derived.Test.YtelobmiooldoaaaGreatPR5
namespace Go.Proofs.YtelobmiooldoaaaGreat.Abs
open Go Go.RowKit Go.IntWalk Crc
set_option linter.unusedVariables false
set_option linter.unnecessarySimpa false
set_option linter.unusedSimpArgs false
set_option linter.unusedSectionVars false
set_option maxRecDepth 100000

theorem planeT_fit {w d : Nat} (X : List Int) : ∀ n ∈ planeT (pWov d) w d X, 0 ≤ n ∧ n.toNat < 2 ^ w := by
  intro n hn
  unfold planeT at hn
  obtain ⟨e, _, rfl⟩ := List.mem_map.1 hn
  exact ⟨by omega, by rw [Int.toNat_natCast]; exact takeIn_lt _ _⟩

/-- What is read as a vector, whatever it is. -/
theorem rsent_D (B : List Int) (bad : Bool) (hl : B.length ≤ 1000000) (hu : U8s B) : ∃ (s : T_api_Sent) (B' : List Int) (bad' : Bool), M_thrum_thrumref07_text_sent ⟨B, bad⟩ = some (s.F_Scheme, s.F_Dim, s.F_L, s.F_V, s.F_Scale, s.F_Wide, s.F_Lev, s.F_Neg, B', bad') ∧ U8s B' ∧ B'.length ≤ B.length ∧
    (bad' = false → bad = false ∧ FitV s ∧ (mayP s = true → B = bodyP s ++ B')) := by
  obtain ⟨sch, B1, bad1, h1, h2, h3, h4, h5, h6⟩ := rbyte1_D B bad hu
  obtain ⟨dim, B2, bad2, g1, g2, g3, g4, g5, g6⟩ := rnumber_D B1 bad1 (by omega) h2 (most := 4096) (by omega)
  rw [M_thrum_thrumref07_text_sent, h1, bindS]
  simp only
  rw [g1, bindS]
  simp only [orB]
  by_cases hbd : bad2 = true ∨ dim = 0
  · refine ⟨⟨sch, dim, [], [], 0, 0, [], []⟩, [], true, ?_, U8s_nil, by simp, by simp⟩
    rw [if_pos (by rcases hbd with h | h <;> simp [h])]
  have hb2 : bad2 = false := by cases bad2 <;> simp_all
  have hd0 : dim ≠ 0 := fun h => hbd (.inr h)
  subst hb2
  obtain ⟨rfl, g7⟩ := g6 rfl
  obtain ⟨rfl, h7⟩ := h6 rfl
  obtain ⟨d, rfl⟩ : ∃ d : Nat, dim = (d : Int) := ⟨dim.toNat, by omega⟩
  have hd4 : d ≤ 4096 := by omega
  have fin : ∀ (s : T_api_Sent) (B' : List Int), s.F_Scheme = sch → s.F_Dim = (d : Int) → B2 = restP s ++ B' → B = bodyP s ++ B' := by
    intro s B' e1 e2 e3
    rw [h7, g7, e3]; unfold bodyP; rw [e1, e2]; simp
  rw [if_neg (by simp; omega)]
  by_cases c1 : sch = 1
  · subst c1
    rw [if_pos rfl, refGet6_eq (d : Int) B2 0 (by omega) g2 (by omega), bindS]
    generalize hg : igetP (d : Int) B2 0 = q
    have hlen := igetP_len (d : Int) B2 0
    rw [hg] at hlen
    obtain ⟨L, a, e⟩ := q
    simp only at hlen ⊢
    by_cases he : e ≠ 0
    · rw [if_pos he, bindS]
      exact ⟨⟨1, d, [], [], 0, 0, [], []⟩, [], true, rfl, U8s_nil, by simp, by simp⟩
    have he' : e = 0 := by simpa using he
    subst he'
    obtain ⟨p1, p2, p3, p4, p5⟩ := put_get (d : Int) B2 0 L a (by omega) g2 hg
    obtain ⟨a, rfl⟩ : ∃ n : Nat, a = (n : Int) := ⟨a.toNat, by omega⟩
    obtain ⟨V, B3, bad3, r1, r2, r3, r4⟩ := rsigned_D hlen (B2.drop a) false (by simp; omega) (fun x hx => g2 x (List.mem_of_mem_drop hx))
    rw [if_neg (by simp), if_pos (by simp [cutOk] <;> omega), bindS, cut_from]
    simp only
    rw [if_pos (by simp), r1, bindS]
    refine ⟨⟨1, d, L, V, 0, 0, [], []⟩, B3, bad3, rfl, r2, by rw [List.length_drop] at r3; omega, fun hb => ?_⟩
    obtain ⟨_, q1, q2, q3⟩ := r4 hb
    refine ⟨by simp, ⟨⟨by simp only; omega, by simp only; omega, by simp, by simp, by simp⟩, q2, by simp [I64]⟩, fun _ => fin _ _ rfl rfl ?_⟩
    simp only [restP, if_neg (show ¬ (1 : Int) = 0 by omega), if_true]
    rw [List.append_assoc, ← q3]
    simpa using p5
  rw [if_neg c1, bindS]
  simp only
  by_cases c0 : sch = 0
  · subst c0
    obtain ⟨V, B3, bad3, r1, r2, r3, r4⟩ := rsigned_D hd4 B2 false (by omega) g2
    rw [if_pos (by simp), r1, bindS]
    refine ⟨⟨0, d, [], V, 0, 0, [], []⟩, B3, bad3, rfl, r2, by omega, fun hb => ?_⟩
    obtain ⟨_, q1, q2, q3⟩ := r4 hb
    refine ⟨by simp, ⟨⟨by simp, by simp only; omega, by simp, by simp, by simp⟩, q2, by simp [I64]⟩, fun _ => fin _ _ rfl rfl ?_⟩
    simpa [restP] using q3
  rw [if_neg (by simp [c0, c1])]
  obtain ⟨sc, B3, bad3, r1, r2, r3, r4, r5, r6⟩ := rnumber_D B2 false (by omega) g2 (most := 9223372036854775807) (by omega)
  rw [r1, bindS]
  simp only
  by_cases c2 : sch = 2
  · subst c2
    obtain ⟨w, B4, bad4, q1, q2, q3, q4, q5, q6⟩ := rbyte1_D B3 bad3 r2
    rw [if_pos rfl, q1, bindS]
    simp only
    by_cases hw : w < 1 ∨ w > 8
    · rw [if_pos (by rcases hw with h | h <;> simp [h]), bindS]
      exact ⟨⟨2, d, [], [], sc, w, [], []⟩, [], true, rfl, U8s_nil, by simp, by simp⟩
    obtain ⟨w, rfl⟩ : ∃ n : Nat, w = (n : Int) := ⟨w.toNat, by omega⟩
    obtain ⟨X, B5, bad5, p1, p2, p3, p4, p5⟩ := rpart_D (bytesOf w d) B4 bad4 q2
    rw [if_neg (by simp; omega), bytesOf_w (by omega) hd4, bindS, p1, bindS]
    simp only
    rw [refUnweave_eq (by omega) hd4 p2, bindS]
    by_cases hbad : bad5 = true ∨ ¬ (X.length = bytesOf w d ∧ tail0 w d X)
    · rw [if_pos, bindS]
      · exact ⟨⟨2, d, [], [], sc, w, [], []⟩, [], true, rfl, U8s_nil, by simp, by simp⟩
      · rcases hbad with h | h
        · simp [h]
        · by_cases hx : X.length = bytesOf w d
          · have ht : ¬ tail0 w d X := fun ht => h ⟨hx, ht⟩
            simp [hx, ht]
          · simp [hx]
    have hb5 : bad5 = false := by cases bad5 <;> simp_all
    have hX : X.length = bytesOf w d ∧ tail0 w d X := Classical.not_not.1 fun h => hbad (.inr h)
    subst hb5
    obtain ⟨hX1, hX2⟩ := hX
    rw [if_pos hX1, if_pos hX2, if_neg (by simp), bindS]
    simp only
    obtain ⟨Y, B6, bad6, s1, s2, s3, s4, s5⟩ := rpart_D (bytesOf 1 d) B5 false p3
    rw [bytesOf_1 hd4, s1, bindS]
    simp only
    rw [refRead5_eq hd4 s2, bindS]
    by_cases hb6 : bad6 = true
    · rw [if_pos hb6]
      exact ⟨⟨2, d, [], [], sc, w, planeT (pWov d) w d X, _⟩, B6, true, rfl, s3, by omega, by simp⟩
    rw [if_neg hb6]
    have hb6' : bad6 = false := by cases bad6 <;> simp_all
    subst hb6'
    obtain ⟨_, hY, e6⟩ := s5 rfl
    obtain ⟨rfl, _, e5⟩ := p5 rfl
    obtain ⟨rfl, e4⟩ := q6 rfl
    obtain ⟨_, e3⟩ := r6 rfl
    rw [if_pos hY]
    by_cases ht : tail0 1 d Y
    · rw [if_pos ht]
      refine ⟨⟨2, d, [], [], sc, w, planeT (pWov d) w d X, readS d Y⟩, B6, false, by simp, s3, by omega, fun _ => ⟨by simp, ?_, fun _ => fin _ _ rfl rfl ?_⟩⟩
      · have hpw : (2 : Nat) ^ w ≤ 2 ^ 8 := Nat.pow_le_pow_right (by omega) (by omega)
        exact ⟨⟨by simp, by simp, by simp [planeT_len]; omega, by simp [readS, planeT_len]; omega, fun n hn => by have := planeT_fit X n hn; omega⟩, by simp, ⟨by simp only; omega, by simp only; omega⟩⟩
      · simp only [restP, if_neg (show ¬ (2 : Int) = 0 by omega), if_neg (show ¬ (2 : Int) = 1 by omega), if_true, Int.toNat_natCast]
        rw [put_take (plc_wov w d) hX1 p2 (fun m h1 h2 => hX2 m h2 h1), signs_readS s2 hY ht, e3, e4, e5, e6]; simp
    · rw [if_neg ht]
      exact ⟨⟨2, d, [], [], sc, w, planeT (pWov d) w d X, []⟩, B6, true, by simp, s3, by omega, by simp⟩
  rw [if_neg c2, bindS]
  simp only
  obtain ⟨Y, B6, bad6, s1, s2, s3, s4, s5⟩ := rpart_D (bytesOf 1 d) B3 bad3 r2
  rw [bytesOf_1 hd4, s1, bindS]
  simp only
  rw [refRead5_eq hd4 s2, bindS]
  by_cases hb6 : bad6 = true
  · rw [if_pos hb6]
    exact ⟨⟨sch, d, [], [], sc, 0, [], _⟩, B6, true, rfl, s3, by omega, by simp⟩
  rw [if_neg hb6]
  have hb6' : bad6 = false := by cases bad6 <;> simp_all
  subst hb6'
  obtain ⟨rfl, hY, e6⟩ := s5 rfl
  obtain ⟨_, e3⟩ := r6 rfl
  rw [if_pos hY]
  by_cases ht : tail0 1 d Y
  · rw [if_pos ht]
    refine ⟨⟨sch, d, [], [], sc, 0, [], readS d Y⟩, B6, false, by simp, s3, by omega, fun _ => ⟨by simp, ⟨⟨by simp, by simp, by simp, by simp [readS, planeT_len]; omega, by simp⟩, by simp, ⟨by simp only; omega, by simp only; omega⟩⟩, fun _ => fin _ _ rfl rfl ?_⟩⟩
    simp only [restP, if_neg c0, if_neg c1, if_neg c2]
    rw [signs_readS s2 hY ht, e3, e6]; simp
  · rw [if_neg ht]
    exact ⟨⟨sch, d, [], [], sc, 0, [], []⟩, B6, true, by simp, s3, by omega, by simp⟩

/-- The error of what is no frame. -/
def errP (b : List Int) : Int := if (openI b).2 ≠ 0 then (openI b).2 else 6
theorem refRead_D {b : List Int} (hb : b.length ≤ 70000) (hu : U8s b) : M_thrumref07_Read b = some (0, 0, 0, 0, 0, [], [], 0, 0, [], [], errP b) ∨
    ∃ f : T_api_Frame, M_thrumref07_Read b = some (f.F_Kind, f.F_From, f.F_Step, f.F_S.F_Scheme, f.F_S.F_Dim, f.F_S.F_L, f.F_S.F_V, f.F_S.F_Scale, f.F_S.F_Wide, f.F_S.F_Lev, f.F_S.F_Neg, 0) ∧ FitV f.F_S ∧ frameOk f ∧ sealI (textP f) = b := by
  rw [M_thrumref07_Read, refOpenI_eq hu hb, bindS]
  unfold errP
  generalize ho : openI b = o
  have hc := openI_u8 b
  have hcl := openI_len b
  rw [ho] at hc hcl
  obtain ⟨c, e⟩ := o
  simp only at hc hcl ⊢
  by_cases he : e ≠ 0
  · rw [if_pos he, if_pos he]; exact .inl rfl
  rw [if_neg he, if_neg he]
  have he' : e = 0 := by simpa using he
  subst he'
  have hs := open_sound hu ho
  have hl : c.length ≤ 1000000 := by omega
  obtain ⟨ver, C1, bad1, a1, a2, a3, a4, a5, a6⟩ := rbyte1_D c false hc
  obtain ⟨kind, C2, bad2, b1, b2, b3, b4, b5, b6⟩ := rbyte1_D C1 bad1 a2
  obtain ⟨from_, C3, bad3, c1, c2, c3, c4, c5, c6⟩ := rnumber_D C2 bad2 (by omega) b2 (most := 63) (by omega)
  obtain ⟨step, C4, bad4, d1, d2, d3, d4, d5, d6⟩ := rnumber_D C3 bad3 (by omega) c2 (most := 1073741824) (by omega)
  rw [a1, bindS]
  simp only
  rw [b1, bindS]
  simp only
  rw [c1, bindS]
  simp only
  rw [d1, bindS]
  simp only
  have pre : bad4 = false → c = [ver] ++ ([kind] ++ (lebP from_ ++ (lebP step ++ C4))) := by
    intro h
    obtain ⟨h3, e4⟩ := d6 h
    obtain ⟨h2, e3⟩ := c6 h3
    obtain ⟨h1, e2⟩ := b6 h2
    obtain ⟨_, e1⟩ := a6 h1
    rw [e1, e2, e3, e4]
  -- the rest, when all is told
  have fin : ∀ (s : T_api_Sent) (C5 : List Int) (bad5 : Bool), (bad5 = false → bad4 = false ∧ FitV s ∧ (kind = 1 ∧ (mayP s = true → C4 = bodyP s ++ C5) ∨ kind ≠ 1 ∧ s = zeroS ∧ C5 = C4)) →
      ∀ m, m = (((if bad5 = true then some true else some (decide ((C5.length : Int) > 0))) : Option Bool) >>= fun j8 =>
    ((if j8 = true then some true else some (ver != 1)) : Option Bool) >>= fun j9 =>
    ((if j9 = true then some true else (M_thrumref07_Check ⟨kind, from_, step, s⟩) >>= fun r10 => some (r10 != 0)) : Option Bool) >>= fun j11 =>
    if j11 = true then some ((0 : Int), (0 : Int), (0 : Int), (0 : Int), (0 : Int), ([] : List Int), ([] : List Int), (0 : Int), (0 : Int), ([] : List Int), ([] : List Bool), (6 : Int))
    else some (kind, from_, step, s.F_Scheme, s.F_Dim, s.F_L, s.F_V, s.F_Scale, s.F_Wide, s.F_Lev, s.F_Neg, 0)) →
      m = some (0, 0, 0, 0, 0, [], [], 0, 0, [], [], 6) ∨ ∃ f : T_api_Frame, m = some (f.F_Kind, f.F_From, f.F_Step, f.F_S.F_Scheme, f.F_S.F_Dim, f.F_S.F_L, f.F_S.F_V, f.F_S.F_Scale, f.F_S.F_Wide, f.F_S.F_Lev, f.F_S.F_Neg, 0) ∧ FitV f.F_S ∧ frameOk f ∧ sealI (textP f) = b := by
    rintro s C5 bad5 hs5 m rfl
    rw [orB, orB]
    by_cases hj : (decide ((decide (bad5 = true) || decide ((C5.length : Int) > 0)) = true) || ver != 1) = true
    · rw [if_pos hj, bindS, if_pos rfl]; exact .inl rfl
    rw [if_neg hj]
    simp at hj
    obtain ⟨⟨rfl, hC5⟩, rfl⟩ := hj
    obtain ⟨rfl, hfit, hS⟩ := hs5 rfl
    rw [refFCheck_eq (f := ⟨kind, from_, step, s⟩) hfit.fit, bindS, bindS]
    by_cases hok : frameOk ⟨kind, from_, step, s⟩
    · rw [if_pos hok, if_neg (by simp)]
      refine .inr ⟨⟨kind, from_, step, s⟩, rfl, hfit, hok, ?_⟩
      have ht : textP ⟨kind, from_, step, s⟩ = c := by
        rw [pre rfl]
        unfold textP
        simp only
        rcases hS with ⟨rfl, h3⟩ | ⟨h1, rfl, rfl⟩
        · have hmay : mayP s = true := by
            rcases hok.2 with ⟨_, h⟩ | ⟨h, _⟩
            · exact h
            · simp at h
          rw [if_pos rfl, h3 hmay, hC5]; simp
        · rw [if_neg h1, hC5]; simp
      rw [ht]; exact hs
    · rw [if_neg hok, if_pos (by simp)]; exact .inl rfl
  by_cases hk : kind = 1
  · rw [if_pos hk]
    obtain ⟨s, C5, bad5, e1, e2, e3, e4⟩ := rsent_D C4 bad4 (by omega) d2
    rw [e1, bindS, bindS]
    exact fin s C5 bad5 (fun h => by obtain ⟨g1, g2, g3⟩ := e4 h; exact ⟨g1, g2, .inl ⟨hk, g3⟩⟩) _ rfl
  · rw [if_neg hk, bindS]
    exact fin zeroS C4 bad4 (fun h => ⟨h, ⟨zero_fit, by simp [zeroS], by simp [zeroS, I64]⟩, .inr ⟨hk, rfl, rfl⟩⟩) _ rfl

/-- A frame that may be is read by the document as it was. -/
theorem refRead_C {f : T_api_Frame} (h : FitV f.F_S) (hok : frameOk f) (hl : (textP f).length ≤ 65532) :
    M_thrumref07_Read (sealI (textP f)) = some (f.F_Kind, f.F_From, f.F_Step, f.F_S.F_Scheme, f.F_S.F_Dim, f.F_S.F_L, f.F_S.F_V, f.F_S.F_Scale, f.F_S.F_Wide, f.F_S.F_Lev, f.F_S.F_Neg, 0) := by
  have hu := textP_u8 hok
  have hopen := refOpenI_eq (sealI_u8 (textP f)) (by rw [sealI_len]; omega)
  rw [openI_seal hu hl] at hopen
  have hok' := hok
  obtain ⟨⟨o1, o2, o3, o4⟩, hk⟩ := hok
  have hkk : f.F_Kind = 1 ∨ f.F_Kind = 2 := by rcases hk with h | h; exact .inl h.1; exact .inr h.1
  have hc := refFCheck_eq (f := f) h.fit
  rw [if_pos hok'] at hc
  rw [M_thrumref07_Read, hopen, bindS]
  simp only [ne_eq, not_true_eq_false, if_false]
  have e0 : textP f = [1] ++ ([f.F_Kind] ++ (lebP f.F_From ++ (lebP f.F_Step ++ (if f.F_Kind = 1 then bodyP f.F_S else [])))) := rfl
  rw [e0] at hu hl ⊢
  have hu1 := U8s_r hu
  have hu2 := U8s_r hu1
  have hu3 := U8s_r hu2
  have hu4 := U8s_r hu3
  have hl2 : (lebP f.F_From ++ (lebP f.F_Step ++ (if f.F_Kind = 1 then bodyP f.F_S else []))).length ≤ 1000000 := by
    rw [List.length_append, List.length_append] at hl; omega
  have hl3 : (lebP f.F_Step ++ (if f.F_Kind = 1 then bodyP f.F_S else [])).length ≤ 1000000 := by rw [List.length_append] at hl2; omega
  rw [rbyte1_C (by omega), bindS]
  simp only
  rw [rbyte1_C (by omega), bindS]
  simp only
  rw [rnumber_C hl2 hu2 (by omega) (by omega), bindS]
  simp only
  rw [rnumber_C hl3 hu3 (by omega) (by omega), bindS]
  simp only
  rcases hk with ⟨h1, h2⟩ | ⟨h1, h2⟩
  · rw [if_pos h1] at hl3 hu4
    have hs := rsent_C h h2 (R := []) (by rw [List.append_nil]; rw [List.length_append] at hl3; omega) (by rw [List.append_nil]; exact hu4)
    rw [List.append_nil] at hs
    rw [if_pos h1, if_pos h1, hs, bindS, bindS]
    simp only [bindS, Bool.false_eq_true, if_false]
    rw [if_neg (by simp), bindS, if_neg (by simp)]
    show ((M_thrumref07_Check f) >>= _) >>= _ = _
    rw [hc, bindS, bindS, if_neg (by simp)]
  · rw [if_neg (by omega), if_neg (by omega), bindS]
    simp only [bindS, Bool.false_eq_true, if_false]
    rw [if_neg (by simp), bindS, if_neg (by simp)]
    have hf : f = ⟨f.F_Kind, f.F_From, f.F_Step, zeroS⟩ := by rw [← h2]
    have hc' : M_thrumref07_Check ⟨f.F_Kind, f.F_From, f.F_Step, ⟨0, 0, [], [], 0, 0, [], []⟩⟩ = some 0 := by
      rw [hf] at hc; exact hc
    rw [hc', bindS, bindS, if_neg (by simp), h2]; rfl
end Go.Proofs.YtelobmiooldoaaaGreat.Abs
