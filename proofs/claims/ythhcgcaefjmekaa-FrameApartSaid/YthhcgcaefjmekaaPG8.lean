/- Plain facts on frames: two frames have the same text just if they are the same. Conditions: none. -/
import Derived.Test.YthhcgcaefjmekaaPG7
namespace Go.Proofs.Ythhcgcaefjmekaa.Abs
open Go Go.RowKit Go.IntWalk Crc
set_option linter.unusedVariables false
set_option linter.unnecessarySimpa false
set_option linter.unusedSimpArgs false
set_option maxRecDepth 100000

theorem Same_fr {f g : T_api_Frame} (h : FitS f.F_S) : M_frame_Same f g = some (decide (f = g)) := by
  obtain ⟨f1, f2, f3, f4⟩ := f
  obtain ⟨g1, g2, g3, g4⟩ := g
  rw [M_frame_Same]
  simp only at h
  simp only [same_eq h, bindS, andB]
  congr 1
  rw [Bool.eq_iff_iff]
  simp only [Bool.and_eq_true, decide_eq_true_eq, T_api_Frame.mk.injEq, List.cons.injEq, and_true]
  constructor
  · rintro ⟨⟨a, b, c⟩, d⟩; exact ⟨a, b, c, d⟩
  · rintro ⟨a, b, c, d⟩; exact ⟨⟨a, b, c⟩, d⟩

theorem text_inj {f g : T_api_Frame} (hf : FitV f.F_S) (hg : FitV g.F_S) (of : frameOk f) (og : frameOk g) (lf : (textP f).length ≤ 65532) (lg : (textP g).length ≤ 65532) (h : sealI (textP f) = sealI (textP g)) : f = g := by
  have h1 := read_C hf of lf
  rw [h, read_C hg og lg] at h1
  simp only [Option.some.injEq, Prod.mk.injEq, and_true] at h1
  obtain ⟨a, b, c, d, e, i, j, k, l, m, n⟩ := h1
  obtain ⟨f1, f2, f3, ⟨f4, f5, f6, f7, f8, f9, f10, f11⟩⟩ := f
  obtain ⟨g1, g2, g3, ⟨g4, g5, g6, g7, g8, g9, g10, g11⟩⟩ := g
  simp only at a b c d e i j k l m n
  subst a b c d e i j k l m n; rfl

structure NotBig (s : T_api_Sent) : Prop where
  l : s.F_L.length ≤ 500
  v : s.F_V.length ≤ 500
theorem big_no {s : T_api_Sent} (h : (decide ((s.F_L.length : Int) > 500) || decide ((s.F_V.length : Int) > 500) || decide ((s.F_Lev.length : Int) > 500) || decide ((s.F_Neg.length : Int) > 500)) = false) : NotBig s := by
  simp only [Bool.or_eq_false_iff, decide_eq_false_iff_not, Int.not_lt, gt_iff_lt] at h
  exact ⟨by omega, by omega⟩

theorem FrameApart_true (f g : T_api_Frame) (hf : FitV f.F_S) (hg : FitV g.F_S) : M_thrumlaw07_FrameApart f g = some true := by
  rw [M_thrumlaw07_FrameApart, live7_eq, bindS, if_neg (by simp), Big_eq, bindS, Big_eq]
  generalize hb1 : (decide ((f.F_S.F_L.length : Int) > 500) || decide ((f.F_S.F_V.length : Int) > 500) || decide ((f.F_S.F_Lev.length : Int) > 500) || decide ((f.F_S.F_Neg.length : Int) > 500)) = big1
  generalize hb2 : (decide ((g.F_S.F_L.length : Int) > 500) || decide ((g.F_S.F_V.length : Int) > 500) || decide ((g.F_S.F_Lev.length : Int) > 500) || decide ((g.F_S.F_Neg.length : Int) > 500)) = big2
  cases big1 with
  | true => rfl
  | false =>
    cases big2 with
    | true => rfl
    | false =>
      have n1 := big_no hb1
      have n2 := big_no hb2
      have lf : frameOk f → (textP f).length ≤ 65532 := fun h => by have := textP_small hf h n1.v n1.l; omega
      have lg : frameOk g → (textP g).length ≤ 65532 := fun h => by have := textP_small hg h n2.v n2.l; omega
      have wf := Write_eq hf lf
      have wg := Write_eq hg lg
      simp only [bindS, Bool.false_eq_true, if_false, wf, wg, M_frame_Size, Same_fr hf.fit]
      by_cases of : frameOk f
      · simp only [if_pos of, if_true, sealI_len, ne_eq, not_true_eq_false, if_false]
        have hlen : (((textP f).length + 4 : Nat) : Int) ≠ 0 := by omega
        by_cases og : frameOk g
        · simp only [if_pos og, if_true, Same_eq _ _ (sealI_u8 _) (sealI_u8 _), bindS]
          have hiff : (sealI (textP f) = sealI (textP g)) ↔ f = g := ⟨text_inj hf hg of og (lf of) (lg og), fun e => by rw [e]⟩
          simp only [hiff, not_true_eq_false, if_false]
          rw [if_neg (by simpa using hlen)]
          simp [bindS]
        · simp only [if_neg og, Int.reduceEq, if_false]
          rw [bindS, if_neg (by simpa using hlen)]
          simp [bindS]
      · simp only [if_neg of, Int.reduceEq, if_false, ne_eq, not_false_eq_true, if_true]
        rfl
end Go.Proofs.Ythhcgcaefjmekaa.Abs
