/- Plain facts: what the document writes. Conditions: none. -/
import Derived.Test.YtelobmiooldoaaaGreatPR2
namespace Go.Proofs.YtelobmiooldoaaaGreat.Abs
open Go Go.RowKit Go.IntWalk Crc
set_option linter.unusedVariables false
set_option linter.unnecessarySimpa false
set_option linter.unusedSimpArgs false
set_option linter.unusedSectionVars false
set_option maxRecDepth 100000

theorem refMay_l0 (s : T_api_Sent) (j2 : Bool) (hl : s.F_Lev.length ≤ 4611686018427387904) (hu : ∀ n ∈ s.F_Lev, 0 ≤ n ∧ n ≤ 18446744073709551615) : ∀ (t : List Int) (k : Nat), s.F_Lev.drop k = t → M_thrumref07_May_l0 s j2 (k : Int) = some (if (t.all fun n => decide ((wid n.toNat : Int) ≤ s.F_Wide)) = true then .inr () else .inl false)
  | [], k, h => by rw [M_thrumref07_May_l0, if_neg (drop_end h)]; rfl
  | x :: t, k, h => by
    obtain ⟨h1, h2, h3⟩ := drop_at h
    have hm : x ∈ s.F_Lev := by
      have : x ∈ s.F_Lev.drop k := by rw [h]; simp
      exact List.mem_of_mem_drop this
    rw [M_thrumref07_May_l0, if_pos h1, if_pos ⟨by omega, h1⟩, h2, refWidth_eq (hu x hm), bindS, i64_s (by omega), refMay_l0 s j2 hl hu t (k + 1) h3, List.all_cons]
    by_cases hw : ((wid x.toNat : Nat) : Int) > s.F_Wide
    · have : ¬ (((wid x.toNat : Nat) : Int) ≤ s.F_Wide) := by omega
      rw [if_pos hw, decide_eq_false this]; rfl
    · have : ((wid x.toNat : Nat) : Int) ≤ s.F_Wide := by omega
      rw [if_neg hw, decide_eq_true this, Bool.true_and]

theorem refMay_eq {s : T_api_Sent} (h : FitS s) : M_thrumref07_May s = some (mayP s) := by
  obtain ⟨h1, h2, h3, h4, h5⟩ := h
  have hl := fun j => refMay_l0 s j h3 h5 s.F_Lev 0 rfl
  rw [show ((0 : Nat) : Int) = 0 from rfl] at hl
  rw [M_thrumref07_May]
  simp only [orB, andB, hl, refCheck_eq _ _ h1, bindS]
  by_cases hd : (decide (s.F_Dim < 1) || decide (s.F_Dim > 4096)) = true
  · rw [if_pos hd]
    congr 1; symm
    rw [Bool.eq_false_iff]
    intro hm
    simp at hd
    cases may_iff.1 hm <;> omega
  rw [if_neg hd]
  simp at hd
  by_cases c0 : s.F_Scheme = 0
  · rw [if_pos c0]
    congr 1
    rw [Bool.eq_iff_iff]
    simp [mayP, bareP, c0, zeroS, dimOk]
    constructor
    · rintro ⟨⟨⟨a1, a2⟩, a3, a4⟩, a5, a6⟩
      exact ⟨⟨⟨by omega, by omega⟩, a2⟩, a1, a5, a3, a4, a6⟩
    · rintro ⟨⟨⟨_, _⟩, a2⟩, a1, a5, a3, a4, a6⟩
      exact ⟨⟨⟨a1, a2⟩, a3, a4⟩, a5, a6⟩
  rw [if_neg c0]
  by_cases c1 : s.F_Scheme = 1
  · rw [if_pos c1]
    congr 1
    rw [Bool.eq_iff_iff]
    simp [mayP, bareP, c0, c1, zeroS, dimOk]
    constructor
    · rintro ⟨⟨⟨a1, a2⟩, a3, a4⟩, a5, a6⟩
      exact ⟨⟨⟨⟨by omega, by omega⟩, a1⟩, by omega⟩, a5, a3, a4, a6⟩
    · rintro ⟨⟨⟨⟨_, _⟩, a1⟩, a2⟩, a5, a3, a4, a6⟩
      exact ⟨⟨⟨a1, by omega⟩, a3, a4⟩, a5, a6⟩
  rw [if_neg c1]
  by_cases c2 : s.F_Scheme = 2
  · rw [if_pos c2]
    by_cases hw : (decide ((decide (s.F_Wide < 1) || decide (s.F_Wide > 8)) = true) || ((s.F_Lev.length : Int) != s.F_Dim)) = true
    · rw [if_pos hw]
      congr 1; symm
      rw [Bool.eq_false_iff]
      intro hm
      simp at hw
      cases may_iff.1 hm <;> omega
    · rw [if_neg hw]
      simp at hw
      by_cases ha : (s.F_Lev.all fun n => decide ((wid n.toNat : Int) ≤ s.F_Wide)) = true
      · rw [if_pos ha]
        simp only [bindS]
        congr 1
        rw [Bool.eq_iff_iff]
        simp at ha
        simp [mayP, bareP, c0, c1, c2, zeroS, dimOk]
        constructor
        · rintro ⟨⟨⟨a1, a2⟩, a3⟩, a4⟩
          exact ⟨⟨⟨⟨⟨⟨⟨⟨by omega, by omega⟩, by omega⟩, by omega⟩, by omega⟩, ha⟩, a3⟩, a4⟩, a1, a2⟩
        · rintro ⟨⟨⟨_, a3⟩, a4⟩, a1, a2⟩
          exact ⟨⟨⟨a1, a2⟩, a3⟩, a4⟩
      · rw [if_neg ha]
        simp only [bindS]
        congr 1; symm
        rw [Bool.eq_false_iff]
        intro hm
        apply ha
        simp [mayP, bareP, c0, c1, c2, zeroS, dimOk] at hm
        simp
        exact hm.1.1.1.2
  rw [if_neg c2]
  by_cases c3 : s.F_Scheme = 3
  · rw [if_pos c3]
    congr 1
    rw [Bool.eq_iff_iff]
    simp [mayP, bareP, c0, c1, c2, c3, zeroS, dimOk]
    constructor
    · rintro ⟨⟨⟨⟨a1, a2⟩, a3, a4⟩, a5⟩, a6⟩
      exact ⟨⟨⟨⟨by omega, by omega⟩, a5⟩, a6⟩, a1, a2, a3, a4⟩
    · rintro ⟨⟨⟨_, a5⟩, a6⟩, a1, a2, a3, a4⟩
      exact ⟨⟨⟨⟨a1, a2⟩, a3, a4⟩, a5⟩, a6⟩
  · rw [if_neg c3]
    congr 1; symm
    rw [Bool.eq_false_iff]
    intro hm
    cases may_iff.1 hm <;> omega

theorem FitS.lens {s : T_api_Sent} (h : FitS s) : Lens s := ⟨h.L, h.V, h.Lev, h.Neg⟩
theorem refFCheck_eq {f : T_api_Frame} (h : FitS f.F_S) : M_thrumref07_Check f = some (if frameOk f then 0 else 1) := by
  rw [M_thrumref07_Check]
  simp only [andB, refMay_eq h, SameSent_eq h.lens, bindS, Bool.decide_eq_true]
  unfold frameOk zeroS
  by_cases a : 0 ≤ f.F_From <;> by_cases b : f.F_From < 64 <;> by_cases c : 0 ≤ f.F_Step <;> by_cases d : f.F_Step ≤ 1073741824 <;> simp [a, b, c, d]
  by_cases k1 : f.F_Kind = 1
  · simp only [k1, true_and, if_pos, Int.reduceEq, false_and, or_false]
    cases mayP f.F_S <;> simp
  · by_cases k2 : f.F_Kind = 2
    · simp only [k2, Int.reduceEq, false_and, false_or, true_and, if_true, if_false]
      by_cases hz : f.F_S = ⟨0, 0, [], [], 0, 0, [], []⟩ <;> simp [hz]
    · simp [k1, k2]
theorem refFSame_eq {f g : T_api_Frame} (h : FitS f.F_S) : M_thrumref07_Same f g = some (decide (f = g)) := by
  obtain ⟨f1, f2, f3, f4⟩ := f
  obtain ⟨g1, g2, g3, g4⟩ := g
  rw [M_thrumref07_Same]
  simp only at h
  simp only [SameSent_eq h.lens, bindS, andB]
  congr 1
  rw [Bool.eq_iff_iff]
  simp [and_assoc]
theorem fSame_eq {f g : T_api_Frame} (h : FitS f.F_S) : M_frame_Same f g = some (decide (f = g)) := by
  obtain ⟨f1, f2, f3, f4⟩ := f
  obtain ⟨g1, g2, g3, g4⟩ := g
  rw [M_frame_Same]
  simp only at h
  simp only [same_eq h, bindS, andB]
  congr 1
  rw [Bool.eq_iff_iff]
  simp [and_assoc]

theorem refWeave_l1 (l : List Int) (hl : l.length ≤ 4096) (hu : ∀ n ∈ l, 0 ≤ n ∧ n ≤ 18446744073709551615) {w : Nat} (hw : w < 64) : ∀ (t : List Int) (k : Nat) (acc : List Bool), l.drop k = t → acc.length + t.length ≤ 4000000 → M_thrumref05_Weave_l1 l (w : Int) (k : Int) acc = some (acc ++ t.map fun x => x.toNat.testBit w)
  | [], k, acc, h, ha => by rw [M_thrumref05_Weave_l1, if_neg (drop_end h)]; simp
  | x :: t, k, acc, h, ha => by
    obtain ⟨h1, h2, h3⟩ := drop_at h
    have hm : x ∈ l := by
      have : x ∈ l.drop k := by rw [h]; simp
      exact List.mem_of_mem_drop this
    obtain ⟨q1, q2⟩ := hu x hm
    simp only [List.length_cons] at ha
    have hb : (Int.tmod (sShr .u64 x (w : Int)) 2 == 1) = x.toNat.testBit w := by
      have e := shrU x.toNat w (by omega)
      rw [Int.toNat_of_nonneg q1] at e
      rw [e, Nat.testBit_eq_decide_div_mod_eq]
      generalize x.toNat / 2 ^ w = q
      rw [Int.tmod_eq_emod_of_nonneg (by omega), Bool.eq_iff_iff]
      simp; omega
    rw [M_thrumref05_Weave_l1, if_pos h1, if_pos ⟨by omega, h1⟩, if_pos (by omega), h2, hb, if_pos (room1 (by simp; omega)), bindS, i64_s (by omega), refWeave_l1 l hl hu hw t (k + 1) _ h3 (by simp; omega)]
    simp
theorem refWeave_l0 (l : List Int) (hl : l.length ≤ 4096) (hu : ∀ n ∈ l, 0 ≤ n ∧ n ≤ 18446744073709551615) : ∀ (w : Nat) (acc : List Bool), w ≤ 32 → acc.length + w * l.length ≤ 4000000 → M_thrumref05_Weave_l0 l ((w : Int) - 1) acc = some (acc ++ woveL w l)
  | 0, acc, hw, ha => by rw [M_thrumref05_Weave_l0, if_neg (by omega)]; simp [woveL]
  | w + 1, acc, hw, ha => by
    have e : ((w + 1 : Nat) : Int) - 1 = (w : Int) := by omega
    rw [Nat.succ_mul] at ha
    have h1 := refWeave_l1 l hl hu (w := w) (by omega) l 0 acc rfl (by omega)
    rw [show ((0 : Nat) : Int) = 0 from rfl] at h1
    rw [e, M_thrumref05_Weave_l0, if_pos (by omega), h1, bindS, i64_in _ (by omega), refWeave_l0 l hl hu w _ (by omega) (by simp; omega), woveL, List.append_assoc]
theorem refWeave_eq {w : Nat} (hw : w ≤ 32) {l : List Int} (hl : l.length ≤ 4096) (hx : ∀ x ∈ l, 0 ≤ x ∧ x ≤ 18446744073709551615 ∧ x.toNat < 2 ^ w) : M_thrumref05_Weave (w : Int) l = some (planeB (pWov l.length) w l.length l, 0) := by
  have hq : w * l.length ≤ 32 * 4096 := Nat.mul_le_mul hw hl
  rw [M_thrumref05_Weave, refmay_eq hw hl rfl hx, bindS, if_neg (by simp), i64_in _ (by omega), refWeave_l0 l hl (fun n hn => ⟨(hx n hn).1, (hx n hn).2.1⟩) w [] hw (by simp; omega), bindS, List.nil_append, refpack_eq _ (by rw [woveL_len]; omega), bindS, pack_wove]
theorem refSigns_eq {l : List Bool} (hl : l.length ≤ 4096) : M_thrumref05_Signs l = some (signsB l, 0) := by
  rw [M_thrumref05_Signs, if_neg (by omega), refpack_eq l (by omega), bindS, pack_signs]

theorem refBody_eq {s : T_api_Sent} (h : FitV s) : M_thrumref07_Body s = some (if mayP s = true then (bodyP s, 0) else ([], 1)) := by
  rw [M_thrumref07_Body, refMay_eq h.fit, bindS]
  by_cases hm : mayP s = true
  rotate_left
  · have : mayP s = false := by simpa using hm
    rw [this]; rfl
  rw [hm, if_neg (by simp), if_pos rfl]
  have hS := may_iff.1 hm
  have hdim : 0 < s.F_Dim ∧ s.F_Dim ≤ 4096 := by cases hS <;> exact ⟨by assumption, by assumption⟩
  have hsch : 0 ≤ s.F_Scheme ∧ s.F_Scheme ≤ 3 := by cases hS <;> omega
  have hl := lebP_le s.F_Dim (by omega)
  have h2 : M_thrumref03_Put [IntKind.u8.wrap s.F_Scheme] [IntKind.u64.wrap s.F_Dim] = some ([s.F_Scheme] ++ lebP s.F_Dim) := by
    rw [u8_in _ (by omega), u64_in _ (by omega), refPut_eq _ _ (by simp) (by simp; omega) (by simp; omega)]; simp
  have h2l : ([s.F_Scheme] ++ lebP s.F_Dim).length ≤ 11 := by simp; omega
  rw [h2, bindS]
  cases hS with
  | dense d0 d1 hs hv z =>
    have := sigB_len s.F_V h.v
    rw [if_pos hs, refSigned_eq _ _ (by omega) h.v (by omega), bindS]
    unfold bodyP restP; rw [if_pos hs]; simp
  | top d0 d1 hs c hv z =>
    have hL := top_len c
    have hpl := putB_len s.F_Dim s.F_L (by omega)
    have := sigB_len s.F_V h.v
    rw [if_neg (by omega), if_pos hs, refPut6_eq _ _ (by omega), bindS]
    simp only
    rw [if_pos (room1 (by rw [List.length_append]; omega)), refSigned_eq _ _ (by omega) h.v (by rw [List.length_append]; omega), bindS]
    unfold bodyP restP; rw [if_neg (by omega), if_pos hs]; simp
  | level d0 d1 hs w0 w1 l x c n z =>
    have hsc := h.sc
    unfold I64 at hsc
    have hls := lebP_le s.F_Scale (by omega)
    have hLev : s.F_Lev.length = s.F_Dim.toNat := by omega
    have hw := refWeave_eq (w := s.F_Wide.toNat) (l := s.F_Lev) (by omega) (by omega) (fun y hy => ⟨(h.fit.u y hy).1, (h.fit.u y hy).2, x y hy⟩)
    rw [Int.toNat_of_nonneg (by omega)] at hw
    have hby := bytesOf_le (w := s.F_Wide.toNat) (d := s.F_Lev.length) (by omega) (by omega)
    have hb1 := bytesOf_le (w := 1) (d := s.F_Neg.length) (by omega) (by omega)
    rw [if_neg (by omega), if_neg (by omega), u64_in _ (by omega), refPut_eq _ _ (by simp) (by simp; omega) (by simp only [List.flatMap_cons, List.flatMap_nil, List.length_append, List.length_nil] at *; omega), bindS, if_pos hs, hw, bindS, u8_in _ (by omega),
      if_pos (room1 (by simp only [List.flatMap_cons, List.flatMap_nil, List.length_append, List.length_nil, List.length_cons] at *; omega)), bindS]
    simp only
    rw [if_pos (room1 (by simp only [List.flatMap_cons, List.flatMap_nil, List.length_append, List.length_nil, List.length_cons, planeB_len] at *; omega)), refSigns_eq (by omega), bindS]
    simp only
    rw [if_pos (room1 (by simp only [List.flatMap_cons, List.flatMap_nil, List.length_append, List.length_nil, List.length_cons, planeB_len, signsB_len] at *; omega))]
    unfold bodyP restP; rw [if_neg (by omega), if_neg (by omega), if_pos hs, hLev]; simp
  | sign d0 d1 hs c n z =>
    have hsc := h.sc
    unfold I64 at hsc
    have hls := lebP_le s.F_Scale (by omega)
    have hb1 := bytesOf_le (w := 1) (d := s.F_Neg.length) (by omega) (by omega)
    rw [if_neg (by omega), if_neg (by omega), u64_in _ (by omega), refPut_eq _ _ (by simp) (by simp; omega) (by simp only [List.flatMap_cons, List.flatMap_nil, List.length_append, List.length_nil] at *; omega), bindS, if_neg (by omega), refSigns_eq (by omega), bindS]
    simp only
    rw [if_pos (room1 (by simp only [List.flatMap_cons, List.flatMap_nil, List.length_append, List.length_nil, List.length_cons, signsB_len] at *; omega))]
    unfold bodyP restP; rw [if_neg (by omega), if_neg (by omega), if_neg (by omega)]; simp

theorem refSealI_eq {b : List Int} (hu : U8s b) (h : b.length ≤ 65532) : M_thrumref04_Seal b = some (sealI b, 0) := by
  have := refSeal_in (bytesL b) (by rw [bytesL_len]; exact h)
  rwa [bytesL_Yn hu] at this
theorem refWrite_eq {f : T_api_Frame} (h : FitV f.F_S) (hl : frameOk f → (textP f).length ≤ 65532) : M_thrumref07_Write f = some (if frameOk f then (sealI (textP f), 0) else ([], 1)) := by
  rw [M_thrumref07_Write, refFCheck_eq h.fit, bindS]
  by_cases hok : frameOk f
  rotate_left
  · rw [if_neg hok, if_neg hok, if_pos (by simp)]
  rw [if_pos hok, if_pos hok, if_neg (by simp)]
  have hu := textP_u8 hok
  have hlen := hl hok
  obtain ⟨⟨o1, o2, o3, o4⟩, hk⟩ := hok
  have hk' : f.F_Kind = 1 ∨ f.F_Kind = 2 := by rcases hk with h | h; exact .inl h.1; exact .inr h.1
  have l1 := lebP_le f.F_From (by omega)
  have l2 := lebP_le f.F_Step (by omega)
  rw [u8_in _ (by omega), u64_in _ (by omega), u64_in _ (by omega), refPut_eq _ _ (by simp) (by simp; omega) (by simp; omega), bindS]
  simp only [List.flatMap_cons, List.flatMap_nil, List.append_nil]
  rcases hk with ⟨h1, h2⟩ | ⟨h1, h2⟩
  · have e : textP f = ([1, f.F_Kind] ++ (lebP f.F_From ++ lebP f.F_Step)) ++ bodyP f.F_S := by
      unfold textP; rw [if_pos h1]; simp
    have hr := restP_len h h2
    rw [if_pos h1, refBody_eq h, bindS, if_pos h2]
    simp only
    rw [← e, if_pos (room1 (by omega)), refSealI_eq hu hlen, bindS]
  · have e : textP f = [1, f.F_Kind] ++ (lebP f.F_From ++ lebP f.F_Step) := by
      unfold textP; rw [if_neg (by omega)]; simp
    rw [if_neg (by omega), ← e, refSealI_eq hu hlen, bindS]

structure NotBig (s : T_api_Sent) : Prop where
  l : s.F_L.length ≤ 500
  v : s.F_V.length ≤ 500
theorem big_no {s : T_api_Sent} (h : (decide ((s.F_L.length : Int) > 500) || decide ((s.F_V.length : Int) > 500) || decide ((s.F_Lev.length : Int) > 500) || decide ((s.F_Neg.length : Int) > 500)) = false) : NotBig s := by
  simp only [Bool.or_eq_false_iff, decide_eq_false_iff_not, Int.not_lt, gt_iff_lt] at h
  exact ⟨by omega, by omega⟩

theorem FrameWrites_true (f g : T_api_Frame) (hf : FitV f.F_S) : M_thrumlaw07_FrameWrites f g = some true := by
  rw [M_thrumlaw07_FrameWrites, live7_eq, bindS, if_neg (by simp), Big_eq, bindS]
  simp only [Big_eq, bindS, orB]
  by_cases hc : (decide ((decide ((f.F_S.F_L.length : Int) > 500) || decide ((f.F_S.F_V.length : Int) > 500) || decide ((f.F_S.F_Lev.length : Int) > 500) || decide ((f.F_S.F_Neg.length : Int) > 500)) = true) || (decide ((g.F_S.F_L.length : Int) > 500) || decide ((g.F_S.F_V.length : Int) > 500) || decide ((g.F_S.F_Lev.length : Int) > 500) || decide ((g.F_S.F_Neg.length : Int) > 500))) = true
  · rw [if_pos hc]
  rw [if_neg hc]
  have hc' := (Bool.not_eq_true _).mp hc
  rw [Bool.or_eq_false_iff, Bool.decide_eq_true] at hc'
  have hn := big_no hc'.1
  have hlen : frameOk f → (textP f).length ≤ 65532 := fun hok => by have := textP_small hf hok hn.v hn.l; omega
  have hsame : ∀ b : List Int, U8s b → M_thrumref03_Same b b = some true := fun b hb => by rw [Same_eq b b hb hb]; simp
  have hu1 : U8s (if frameOk f then (sealI (textP f), (0 : Int)) else ([], 1)).1 := by
    split
    · exact sealI_u8 _
    · intro x hx; simp at hx
  have hu2 : U8s (if mayP f.F_S = true then (bodyP f.F_S, (0 : Int)) else ([], 1)).1 := by
    split
    · rename_i hm; exact bodyP_u8 hm
    · intro x hx; simp at hx
  have w1 := Write_eq hf hlen
  have w2 := refWrite_eq hf hlen
  have ackS : M_thrumref07_Same (⟨2, f.F_From, f.F_Step, (⟨0, 0, [], [], 0, 0, [], []⟩ : T_api_Sent)⟩ : T_api_Frame) (⟨2, f.F_From, f.F_Step, (⟨0, 0, [], [], 0, 0, [], []⟩ : T_api_Sent)⟩ : T_api_Frame) = some true := by
    rw [refFSame_eq zero_fit]; simp
  rw [M_frame_Size, M_thrumref07_Size, w1, w2, Body_eq hf, refBody_eq hf]
  simp only [bindS, if_true]
  rw [hsame _ hu1, hsame _ hu2, may_eq hf.fit, refMay_eq hf.fit, fCheck_eq hf.fit, refFCheck_eq hf.fit, fSame_eq hf.fit, refFSame_eq hf.fit, M_frame_Ack, M_thrumref07_Ack]
  simp only [bindS, if_true]
  rw [ackS, bindS]
end Go.Proofs.YtelobmiooldoaaaGreat.Abs
