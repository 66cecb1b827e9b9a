/- Plain facts on frames: what was written is read, what was read is written. Conditions: none. -/
import Derived.Test.YthhcgcaefjmekaaPG9
namespace Go.Proofs.Ythhcgcaefjmekaa.Abs
open Go Go.RowKit Go.IntWalk Crc
set_option linter.unusedVariables false
set_option linter.unnecessarySimpa false
set_option linter.unusedSimpArgs false
set_option maxRecDepth 100000

theorem Same_fr {f g : T_api_Frame} (h : FitS f.F_S) : M_frame_Same f g = some (decide (f = g)) := by
  obtain ⟨f1, f2, f3, f4⟩ := f
  obtain ⟨g1, g2, g3, g4⟩ := g
  rw [M_frame_Same]
  simp only at h
  simp only [same_eq h, bindS, andB]
  congr 1
  rw [Bool.eq_iff_iff]
  simp only [Bool.and_eq_true, decide_eq_true_eq, T_api_Frame.mk.injEq, List.cons.injEq, and_true]
  constructor
  · rintro ⟨⟨a, b, c⟩, d⟩; exact ⟨a, b, c, d⟩
  · rintro ⟨a, b, c, d⟩; exact ⟨⟨a, b, c⟩, d⟩

structure NotBig (s : T_api_Sent) : Prop where
  l : s.F_L.length ≤ 500
  v : s.F_V.length ≤ 500
theorem big_no {s : T_api_Sent} (h : (decide ((s.F_L.length : Int) > 500) || decide ((s.F_V.length : Int) > 500) || decide ((s.F_Lev.length : Int) > 500) || decide ((s.F_Neg.length : Int) > 500)) = false) : NotBig s := by
  simp only [Bool.or_eq_false_iff, decide_eq_false_iff_not, Int.not_lt, gt_iff_lt] at h
  exact ⟨by omega, by omega⟩


theorem FrameBack_true (f : T_api_Frame) (b : List Int) (hf : FitV f.F_S) (hu : U8s b) : M_thrumlaw07_FrameBack f b = some true := by
  rw [M_thrumlaw07_FrameBack, live7_eq, bindS, if_neg (by simp), Big_eq, bindS]
  generalize hb1 : (decide ((f.F_S.F_L.length : Int) > 500) || decide ((f.F_S.F_V.length : Int) > 500) || decide ((f.F_S.F_Lev.length : Int) > 500) || decide ((f.F_S.F_Neg.length : Int) > 500)) = big1
  rw [orB]
  by_cases hbig : (decide (big1 = true) || decide ((b.length : Int) > 3000)) = true
  · rw [if_pos hbig]
  rw [if_neg hbig]
  simp only [Bool.or_eq_true, decide_eq_true_eq, not_or, Bool.not_eq_true] at hbig
  obtain ⟨rfl, hb⟩ := hbig
  have n1 := big_no hb1
  have lf : frameOk f → (textP f).length ≤ 65532 := fun h => by have := textP_small hf h n1.v n1.l; omega
  rw [Write_eq hf lf, bindS]
  -- the second half
  have second : ((M_frame_Read b) >>= fun r9 =>
        if r9.2.2.2.2.2.2.2.2.2.2.2 ≠ 0 then
          ((
            if true = true then
              (M_frame_Same (⟨r9.1, r9.2.1, r9.2.2.1, (⟨r9.2.2.2.1, r9.2.2.2.2.1, r9.2.2.2.2.2.1, r9.2.2.2.2.2.2.1, r9.2.2.2.2.2.2.2.1, r9.2.2.2.2.2.2.2.2.1, r9.2.2.2.2.2.2.2.2.2.1, r9.2.2.2.2.2.2.2.2.2.2.1⟩ : T_api_Sent)⟩ : T_api_Frame) (⟨0, 0, 0, (⟨0, 0, [], [], 0, 0, [], []⟩ : T_api_Sent)⟩ : T_api_Frame)) >>= fun r10 =>
              some r10
            else
              some false) : Option Bool) >>= fun j11 =>
          some j11
        else
          (M_frame_Write (⟨r9.1, r9.2.1, r9.2.2.1, (⟨r9.2.2.2.1, r9.2.2.2.2.1, r9.2.2.2.2.2.1, r9.2.2.2.2.2.2.1, r9.2.2.2.2.2.2.2.1, r9.2.2.2.2.2.2.2.2.1, r9.2.2.2.2.2.2.2.2.2.1, r9.2.2.2.2.2.2.2.2.2.2.1⟩ : T_api_Sent)⟩ : T_api_Frame)) >>= fun r12 =>
          ((
            if true = true then
              some (r12.2 == 0)
            else
              some false) : Option Bool) >>= fun j13 =>
          ((
            if j13 = true then
              (M_thrumref03_Same r12.1 b) >>= fun r14 =>
              some r14
            else
              some false) : Option Bool) >>= fun j15 =>
          ((
            if j15 = true then
              (M_frame_Check (⟨r9.1, r9.2.1, r9.2.2.1, (⟨r9.2.2.2.1, r9.2.2.2.2.1, r9.2.2.2.2.2.1, r9.2.2.2.2.2.2.1, r9.2.2.2.2.2.2.2.1, r9.2.2.2.2.2.2.2.2.1, r9.2.2.2.2.2.2.2.2.2.1, r9.2.2.2.2.2.2.2.2.2.2.1⟩ : T_api_Sent)⟩ : T_api_Frame)) >>= fun r16 =>
              some (r16 == 0)
            else
              some false) : Option Bool) >>= fun j17 =>
          some j17) = some true := by
    rcases read_D (by omega) hu with ⟨e, he, hr⟩ | ⟨g, hr, hg, hok, ht⟩
    · rw [hr, bindS]
      simp only [if_true]
      rw [if_pos he]
      have := Same_fr (f := ⟨0, 0, 0, zeroS⟩) (g := ⟨0, 0, 0, zeroS⟩) zero_fit
      unfold zeroS at this
      rw [this, bindS, bindS]; simp
    · rw [hr, bindS]
      simp only [if_true]
      rw [if_neg (by simp)]
      have hl : (textP g).length ≤ 65532 := by
        have := sealI_len (textP g)
        rw [ht] at this; omega
      have hw := Write_eq hg (fun _ => hl)
      rw [if_pos hok, ht] at hw
      have hc := fCheck_eq (f := g) hg.fit
      rw [if_pos hok] at hc
      erw [hw]
      rw [bindS, bindS]
      simp only [beq_self_eq_true, if_true]
      rw [Same_eq _ _ hu hu, bindS, bindS]
      simp only [decide_true, if_true]
      erw [hc]
      rfl
  by_cases hok : frameOk f
  · rw [if_pos hok]
    simp only [if_true]
    rw [read_C hf hok (lf hok), bindS]
    simp only
    rw [if_neg (by simp)]
    have hs := Same_fr (f := f) (g := f) hf.fit
    erw [hs]
    rw [bindS, bindS]
    simp only [decide_true, Bool.not_true, Bool.false_eq_true, if_false]
    exact second
  · rw [if_neg hok]
    simp only
    rw [if_neg (by simp), bindS]
    exact second
end Go.Proofs.Ythhcgcaefjmekaa.Abs
