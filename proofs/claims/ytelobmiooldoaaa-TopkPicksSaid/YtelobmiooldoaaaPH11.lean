/- Plain facts: what the program picks, orders and presses is what the document does. Conditions: none. -/
import Derived.Test.YtelobmiooldoaaaPH10
import Derived.Test.YtelobmiooldoaaaPHe
namespace Go.Proofs.Ytelobmiooldoaaa.Abs
open Go Go.RowKit Go.IntWalk
set_option linter.unusedVariables false
set_option linter.unusedSimpArgs false
set_option linter.unusedSectionVars false
set_option maxRecDepth 100000

theorem ok_bools {B : Nat} {x : D} (h : (Ty.lst B .bool).ok x) : ∃ l : List Bool, x = .lst (l.map D.bool) ∧ l.length * B ≤ 140737488351232 ∧ ∀ n ∈ l, True :=
  ok_list (fun y hy => by obtain ⟨b, rfl⟩ := ok_bool hy; exact ⟨b, rfl, trivial⟩) h

/-- The form of what is pressed. -/
theorem Press_form {k0 : Int} {v : List Int} {r : Int × Int × List Int × List Int × Int × Int × Int} (h : M_topk_Press k0 v = some r) : r.2.2.2.2.1 = 0 ∧ r.2.2.2.2.2.1 = 0 := by
  rw [M_topk_Press] at h
  by_cases h0 : (v.length : Int) = 0
  · rw [if_pos h0] at h; cases h; exact ⟨rfl, rfl⟩
  rw [if_neg h0] at h
  cases hp : M_topk_Pick k0 v with
  | none => rw [hp] at h; cases h
  | some p =>
    rw [hp, bindS] at h
    by_cases he : p.2 ≠ 0
    · rw [if_pos he] at h; cases h; exact ⟨rfl, rfl⟩
    rw [if_neg he] at h
    cases hg : M_index_Gather p.1 v with
    | none => rw [hg] at h; cases h
    | some g =>
      rw [hg, bindS] at h
      by_cases he : g.2 ≠ 0
      · rw [if_pos he] at h; cases h; exact ⟨rfl, rfl⟩
      rw [if_neg he] at h; cases h; exact ⟨rfl, rfl⟩
theorem Press_len {k0 : Int} {v : List Int} {r : Int × Int × List Int × List Int × Int × Int × Int} (hi : I64s v) (hv : v.length ≤ 600 ∨ 4096 < v.length ∧ v.length ≤ 5000) (h : M_topk_Press k0 v = some r) : r.2.2.1.length ≤ 5000 ∧ r.2.2.2.1.length ≤ 5000 := by
  rw [M_topk_Press] at h
  by_cases h0 : (v.length : Int) = 0
  · rw [if_pos h0] at h; cases h; simp
  rw [if_neg h0] at h
  obtain ⟨p, h1, h2, h3, h4, h5⟩ := refPick_eq k0 v hi (by omega)
  rw [h1, bindS] at h
  by_cases he : p.2 ≠ 0
  · rw [if_pos he] at h; cases h; simp
  rw [if_neg he, Gather_eq p.1 v (by omega) h5 h4, bindS] at h
  simp only at h
  rw [if_neg (by simp)] at h; cases h
  simp only [List.length_map]
  omega

/-- What is pressed, as a vector. -/
def sentOf (r : Int × Int × List Int × List Int × Int × Int × Int) : T_api_Sent := ⟨r.1, r.2.1, r.2.2.1, r.2.2.2.1, r.2.2.2.2.1, r.2.2.2.2.2.1, [], []⟩
theorem Is_eq {k0 : Int} {v : List Int} {s : T_api_Sent} {r : Int × Int × List Int × List Int × Int × Int × Int} (h : M_topk_Press k0 v = some r) (h4 : r.2.2.1.length ≤ 5000 ∧ r.2.2.2.1.length ≤ 5000) (hn : s.F_Lev.length ≤ 5000 ∧ s.F_Neg.length ≤ 5000) :
    M_topk_Is k0 v s = some (decide (r.2.2.2.2.2.2 = 0 ∧ sentOf r = s)) := by
  obtain ⟨z1, z2⟩ := Press_form h
  obtain ⟨a, b, c, d, e, f, g⟩ := r
  simp only at z1 z2 h4
  subst z1; subst z2
  rw [M_topk_Is, h, bindS]
  simp only [slInt_eq _ _ (show c.length ≤ 4611686018427387904 by omega), slInt64_eq _ _ (show d.length ≤ 4611686018427387904 by omega), bindS, orB, andB]
  rw [i64_in _ (by omega)]
  obtain ⟨s1, s2, s3, s4, s5, s6, s7, s8⟩ := s
  simp only [sentOf, T_api_Sent.mk.injEq]
  by_cases hc : (decide (decide (g ≠ 0) || !decide (c = s3)) || !decide (d = s4)) = true
  · rw [if_pos (by simpa using hc)]
    congr 1
    symm
    rw [decide_eq_false_iff_not]
    rintro ⟨q0, q1, q2, q3, q4, q5⟩
    subst q0; subst q3; subst q4
    simp at hc
  · rw [if_neg (by simpa using hc)]
    congr 1
    simp at hc
    obtain ⟨⟨rfl, rfl⟩, rfl⟩ := hc
    rw [Bool.eq_iff_iff]
    simp only [Bool.and_eq_true, decide_eq_true_eq, beq_iff_eq, true_and]
    constructor
    · rintro ⟨⟨⟨⟨q1, q2⟩, q3⟩, q4⟩, q5⟩
      exact ⟨q1.symm, q2.symm, q3.symm, q4.symm, (List.length_eq_zero_iff.1 (by omega)).symm, (List.length_eq_zero_iff.1 (by omega)).symm⟩
    · rintro ⟨q1, q2, q3, q4, q5, q6⟩
      subst q5; subst q6
      exact ⟨⟨⟨⟨q1.symm, q2.symm⟩, q3.symm⟩, q4.symm⟩, by simp⟩
theorem refIs_eq {k0 : Int} {v : List Int} {s : T_api_Sent} {r : Int × Int × List Int × List Int × Int × Int × Int} (h : M_thrumref09_Press k0 v = some r) (h4 : r.2.2.1.length ≤ 5000 ∧ r.2.2.2.1.length ≤ 5000) :
    M_thrumref09_Is k0 v s = some (decide (r.2.2.2.2.2.2 = 0 ∧ sentOf r = s)) := by
  have hs := SameSent_eq (a := sentOf r) (b := s) ⟨by unfold sentOf; simp only; omega, by unfold sentOf; simp only; omega, by simp [sentOf], by simp [sentOf]⟩
  rw [M_thrumref09_Is, h, bindS]
  rw [show (⟨r.1, r.2.1, r.2.2.1, r.2.2.2.1, r.2.2.2.2.1, r.2.2.2.2.2.1, [], []⟩ : T_api_Sent) = sentOf r from rfl, hs]
  simp only [bindS, andB]
  congr 1
  rw [Bool.eq_iff_iff]; simp

theorem Picks_l0 (a0 : Int) (a1 : List Int) (r1 : Bool) (r10 r11 : Int × Int × List Int × List Int × Int × Int × Int) (hb : r10.2.2.2.1.length ≤ 4611686018427387904) : ∀ (j k : Nat) (x : List Int), r10.2.2.2.1.length = k + j → x.length = r10.2.2.2.1.length → M_thrumlaw09_TopkPicks_l0 a0 a1 r1 r10 r11 (k : Int) x = some ()
  | 0, k, x, h, hx => by rw [M_thrumlaw09_TopkPicks_l0, if_neg (by omega)]
  | j + 1, k, x, h, hx => by
    rw [M_thrumlaw09_TopkPicks_l0, if_pos (by omega), if_pos (by omega), if_pos (by omega), bindS, i64_s (by omega), Picks_l0 a0 a1 r1 r10 r11 hb j (k + 1) _ (by omega) (by rw [List.length_set]; exact hx)]
theorem Picks_l1 (a0 : Int) (a1 : List Int) (r1 : Bool) (r10 r11 : Int × Int × List Int × List Int × Int × Int × Int) (hb : a1.length ≤ 4611686018427387904) : ∀ (j k : Nat), a1.length = k + j → M_thrumlaw09_TopkPicks_l1 a0 a1 r1 r10 r11 (k : Int) = some (.inr ())
  | 0, k, h => by rw [M_thrumlaw09_TopkPicks_l1, if_neg (by omega)]
  | j + 1, k, h => by
    rw [M_thrumlaw09_TopkPicks_l1, if_pos (by omega), if_pos (by omega), if_pos (by omega), if_neg (by simp), i64_s (by omega), Picks_l1 a0 a1 r1 r10 r11 hb j (k + 1) (by omega)]

theorem TopkPicks_true (k0 : Int) (v : List Int) (s : T_api_Sent) (l : List Int) (hi : I64s v) : M_thrumlaw09_TopkPicks k0 v s l = some true := by
  obtain ⟨b, hb1, hb2⟩ := few9_eq v
  rw [M_thrumlaw09_TopkPicks, live9_eq, bindS, if_neg (by simp), hb1, bindS]
  cases b with
  | false => rw [if_pos rfl]; simp only [bindS, if_true]
  | true =>
  rw [if_neg (by simp), Big_eq, bindS, bindS, orB]
  by_cases hc : (decide ((decide ((s.F_L.length : Int) > 500) || decide ((s.F_V.length : Int) > 500) || decide ((s.F_Lev.length : Int) > 500) || decide ((s.F_Neg.length : Int) > 500)) = true) || decide ((l.length : Int) > 500)) = true
  · rw [if_pos hc]
  rw [if_neg hc]
  have hc' := (Bool.not_eq_true _).mp hc
  rw [Bool.or_eq_false_iff, Bool.decide_eq_true] at hc'
  obtain ⟨hbig, hl⟩ := hc'
  have hbg := big_no hbig
  have hl5 : l.length ≤ 500 := by simp at hl; omega
  have hv := hb2 rfl
  obtain ⟨p, p1, p2, p3, p4, p5⟩ := refPick_eq k0 v hi (by omega)
  obtain ⟨r, q1, q2⟩ := refPress_eq k0 v hi (by omega)
  have hlen := Press_len hi (by omega) q1
  have hO : ∃ o, M_topk_Order v = some o ∧ M_thrumref09_Order v = some o ∧ o.1.length ≤ 5000 := by
    by_cases h4 : v.length ≤ 4096
    · refine ⟨_, Order_eq v h4, refOrder_eq v hi h4, ?_⟩
      have := orderL_len v
      simp only [List.length_map]; omega
    · exact ⟨([], 3), by rw [M_topk_Order, if_pos (by omega)], by rw [M_thrumref09_Order, if_pos (by omega)], by simp⟩
  obtain ⟨o, o1, o2, o3⟩ := hO
  have hsame := SameSent_eq (a := sentOf r) (b := sentOf r) ⟨by unfold sentOf; simp only; omega, by unfold sentOf; simp only; omega, by simp [sentOf], by simp [sentOf]⟩
  have hsame' : M_thrumref07_SameSent (⟨r.1, r.2.1, r.2.2.1, r.2.2.2.1, r.2.2.2.2.1, r.2.2.2.2.2.1, [], []⟩ : T_api_Sent) (⟨r.1, r.2.1, r.2.2.1, r.2.2.2.1, r.2.2.2.2.1, r.2.2.2.2.2.1, [], []⟩ : T_api_Sent) = some true := by
    have := hsame; simpa [sentOf] using this
  have g0 := Picks_l0 k0 v true r r (by omega) r.2.2.2.1.length 0 r.2.2.2.1 (by omega) rfl
  have g1 := Picks_l1 k0 v true r r (by omega) v.length 0 (by omega)
  rw [show ((0 : Nat) : Int) = 0 from rfl] at g0 g1
  have hyI : M_topk_Is k0 v (⟨r.1, r.2.1, r.2.2.1, r.2.2.2.1, r.2.2.2.2.1, r.2.2.2.2.2.1, [], []⟩ : T_api_Sent) = some (decide (r.2.2.2.2.2.2 = 0 ∧ sentOf r = sentOf r)) := Is_eq (s := sentOf r) q1 hlen (by simp [sentOf])
  rw [if_pos (room8 (by omega)), p1, bindS, p2, bindS, o1, bindS, o2, bindS, q1, bindS, q2, bindS, Least_eq l v (by omega), bindS, refLeast_eq l v hi (by omega), bindS,
    ref6Equal_eq _ _ (by omega), bindS, decide_eq_true rfl, if_neg (by simp), if_neg (by simp), ref6Equal_eq _ _ (by omega), bindS, decide_eq_true rfl, if_neg (by simp), if_neg (by simp),
    hsame', bindS, if_neg (by simp), if_neg (by simp), if_neg (by simp), if_neg (by simp), Is_eq q1 hlen (by have := hbg.e; have := hbg.n; omega), bindS, refIs_eq q2 hlen, bindS, if_neg (by simp), g0, bindS, g1, bindS]
  simp only [if_true]
  by_cases he : r.2.2.2.2.2.2 ≠ 0
  · rw [if_pos he]
  · rw [if_neg he, hyI, bindS]
    have he' : r.2.2.2.2.2.2 = 0 := by omega
    simp [he']
end Go.Proofs.Ytelobmiooldoaaa.Abs
