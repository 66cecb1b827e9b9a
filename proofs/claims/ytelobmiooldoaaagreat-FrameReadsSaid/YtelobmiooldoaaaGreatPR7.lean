/- Plain facts: what any bytes are, as a frame. Conditions: none. -/
import Derived.Test.YtelobmiooldoaaaGreatPR6
namespace Go.Proofs.YtelobmiooldoaaaGreat.Abs
open Go Go.RowKit Go.IntWalk Crc
set_option linter.unusedVariables false
set_option linter.unnecessarySimpa false
set_option linter.unusedSimpArgs false
set_option linter.unusedSectionVars false
set_option maxRecDepth 100000

theorem read_six {b c : List Int} (hb : b.length ≤ 70000) (hu : U8s b) (ho : openI b = (c, 0)) {e : Int} (he : e ≠ 0) (h : M_frame_Read b = some (0, 0, 0, 0, 0, [], [], 0, 0, [], [], e)) : e = 6 := by
  rw [M_frame_Read, openI_eq hu hb, ho, bindS] at h
  simp only at h
  rw [if_neg (by simp)] at h
  obtain ⟨r2, _, h⟩ := bind_some h
  obtain ⟨r3, _, h⟩ := bind_some h
  obtain ⟨r4, _, h⟩ := bind_some h
  obtain ⟨r5, _, h⟩ := bind_some h
  obtain ⟨r6, _, h⟩ := bind_some h
  obtain ⟨j7, _, h⟩ := bind_some h
  obtain ⟨j9, _, h⟩ := bind_some h
  split at h
  · simp only [Option.some.injEq, Prod.mk.injEq] at h; omega
  · split at h
    · simp only [Option.some.injEq, Prod.mk.injEq] at h; omega
    · obtain ⟨r10, _, h⟩ := bind_some h
      split at h
      · simp only [Option.some.injEq, Prod.mk.injEq] at h; omega
      · simp only [Option.some.injEq, Prod.mk.injEq] at h; omega
theorem read_errP {b : List Int} (hb : b.length ≤ 70000) (hu : U8s b) {e : Int} (he : e ≠ 0) (h : M_frame_Read b = some (0, 0, 0, 0, 0, [], [], 0, 0, [], [], e)) : e = errP b := by
  by_cases ho : (openI b).2 = 0
  · unfold errP
    rw [if_neg (by simp [ho])]
    exact read_six hb hu (c := (openI b).1) (by rw [← ho]) he h
  · unfold errP
    rw [if_pos ho]
    rw [M_frame_Read, openI_eq hu hb, bindS, if_pos ho] at h
    simp only [Option.some.injEq, Prod.mk.injEq] at h; omega

theorem reads_same {b : List Int} (hb : b.length ≤ 65536) (hu : U8s b) : ∃ (f : T_api_Frame) (e : Int), M_frame_Read b = some (f.F_Kind, f.F_From, f.F_Step, f.F_S.F_Scheme, f.F_S.F_Dim, f.F_S.F_L, f.F_S.F_V, f.F_S.F_Scale, f.F_S.F_Wide, f.F_S.F_Lev, f.F_S.F_Neg, e) ∧
    M_thrumref07_Read b = some (f.F_Kind, f.F_From, f.F_Step, f.F_S.F_Scheme, f.F_S.F_Dim, f.F_S.F_L, f.F_S.F_V, f.F_S.F_Scale, f.F_S.F_Wide, f.F_S.F_Lev, f.F_S.F_Neg, e) ∧ FitS f.F_S := by
  rcases read_D (by omega) hu with ⟨e, he, h1⟩ | ⟨f, h1, h2, h3, h4⟩
  · rcases refRead_D (by omega) hu with g1 | ⟨g, g1, g2, g3, g4⟩
    · rw [← read_errP (by omega) hu he h1] at g1
      exact ⟨⟨0, 0, 0, zeroS⟩, e, h1, g1, zero_fit⟩
    · exfalso
      have hl := sealI_len (textP g)
      rw [g4] at hl
      have := read_C g2 g3 (by omega)
      rw [g4, h1] at this
      simp only [Option.some.injEq, Prod.mk.injEq] at this
      omega
  · have hl := sealI_len (textP f)
    rw [h4] at hl
    have := refRead_C h2 h3 (by omega)
    rw [h4] at this
    exact ⟨f, 0, h1, this, h2.fit⟩

theorem FrameReads_true (b : List Int) (hu : U8s b) : M_thrumlaw07_FrameReads b = some true := by
  rw [M_thrumlaw07_FrameReads, live7_eq, bindS, if_neg (by simp)]
  by_cases h3 : (b.length : Int) > 3000
  · rw [if_pos h3]
  obtain ⟨f, e, r1, r2, hf⟩ := reads_same (b := b) (by omega) hu
  have hs := sealI_eq hu (by omega)
  obtain ⟨g, e', q1, q2, hg⟩ := reads_same (b := sealI b) (by rw [sealI_len]; omega) (sealI_u8 b)
  have sm : ∀ (f : T_api_Frame), FitS f.F_S → M_thrumref07_Same (⟨f.F_Kind, f.F_From, f.F_Step, (⟨f.F_S.F_Scheme, f.F_S.F_Dim, f.F_S.F_L, f.F_S.F_V, f.F_S.F_Scale, f.F_S.F_Wide, f.F_S.F_Lev, f.F_S.F_Neg⟩ : T_api_Sent)⟩ : T_api_Frame) (⟨f.F_Kind, f.F_From, f.F_Step, (⟨f.F_S.F_Scheme, f.F_S.F_Dim, f.F_S.F_L, f.F_S.F_V, f.F_S.F_Scale, f.F_S.F_Wide, f.F_S.F_Lev, f.F_S.F_Neg⟩ : T_api_Sent)⟩ : T_api_Frame) = some true := by
    intro f hf
    have := refFSame_eq (f := f) (g := f) hf
    rw [decide_eq_true rfl] at this
    exact this
  rw [if_neg h3, r1, bindS, r2, bindS, hs, bindS]
  simp only
  rw [if_neg (by simp), sm f hf, bindS, bindS, if_neg (by simp), bindS, if_neg (by simp), q1, bindS, q2, bindS]
  simp only [if_true, sm g hg, bindS]
  simp
end Go.Proofs.YtelobmiooldoaaaGreat.Abs
