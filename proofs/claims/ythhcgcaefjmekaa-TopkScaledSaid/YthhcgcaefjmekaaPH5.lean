/- Plain facts: no number that is left out is of a greater size than one that is picked. Conditions: none. -/
import Derived.Test.YthhcgcaefjmekaaPH4
namespace Go.Proofs.Ythhcgcaefjmekaa.Abs
open Go Go.RowKit Go.IntWalk
set_option linter.unusedVariables false
set_option linter.unusedSimpArgs false
set_option linter.unusedSectionVars false
set_option maxRecDepth 100000

theorem pick_kept (k : Nat) (v : List Int) (hk : k ≤ v.length) (hv : v.length ≤ 4096) : ∃ S R, Kept (onesP v) S R k := by
  have hl : (onesP v).length = v.length := oneF_len 0 v
  have k0 : Kept ((onesP v).take 0) [] [] k := ⟨by simp, by simp, by simp⟩
  obtain ⟨S, R, g1, g2⟩ := Pick_l0 k (by omega) (onesP v) (by omega) (onesP v) 0 [] [] rfl k0 (fun c c0 c1 => by simp at c1)
  exact ⟨S, R, g2⟩
def oneAt (v : List Int) (i : Nat) : T_topk_one := ⟨(i : Int), sizeP (v.getD i 0)⟩
theorem oneAt_mem {v : List Int} {i : Nat} (hi : i < v.length) : oneAt v i ∈ onesP v := (oneF_mem v 0 _).2 ⟨i, hi, by rw [Nat.zero_add]; rfl⟩
/-- What is picked is ahead of what is not. -/
theorem pick_best {k : Nat} {v : List Int} (hk : k ≤ v.length) (hv : v.length ≤ 4096) {i m : Nat} (hi : (i : Int) ∈ pickP k v) (hm : m < v.length) (hmn : (m : Int) ∉ pickP k v) : i < v.length ∧ bh (oneAt v m) (oneAt v i) := by
  obtain ⟨S, R, h⟩ := pick_kept k v hk hv
  obtain ⟨i', hi', e, hr⟩ := (pick_mem k v i).1 hi
  have : i' = i := by omega
  subst this
  have h1 : oneAt v i' ∈ S := (kept_iff hk h _ (oneAt_mem hi')).2 hr
  have h2 : oneAt v m ∉ S := fun hS => hmn ((pick_mem k v m).2 ⟨m, hm, rfl, (kept_iff hk h _ (oneAt_mem hm)).1 hS⟩)
  have h3 : oneAt v m ∈ R := by
    rcases List.mem_append.1 (h.perm.mem_iff.1 (oneAt_mem hm)) with h' | h'
    · exact absurd h' h2
    · exact h'
  refine ⟨hi', ?_⟩
  by_cases hb : bh (oneAt v m) (oneAt v i')
  · exact hb
  · have := bh_tot hb (h.best _ h1 _ h3)
    rw [this] at h2
    exact absurd h1 h2

theorem refSize_eq {n : Int} (h : -9223372036854775808 ≤ n ∧ n ≤ 9223372036854775807) : M_thrumref09_Size n = some (sizeP n) := by
  rw [M_thrumref09_Size, sizeP_abs h]
  split
  · congr 1
    have w1 : IntKind.i64.wrap (n + 1) = n + 1 := i64_in _ (by omega)
    have w2 : IntKind.i64.wrap (0 - (n + 1)) = 0 - (n + 1) := i64_in _ (by omega)
    have w3 : IntKind.u64.wrap (0 - (n + 1)) = 0 - (n + 1) := u64_in _ (by omega)
    rw [w1, w2, w3, u64_in _ (by omega)]; omega
  · congr 1
    rw [u64_in _ (by omega)]; omega
theorem at_I64 {v : List Int} (hi : I64s v) {n : Int} : -9223372036854775808 ≤ at' v n ∧ at' v n ≤ 9223372036854775807 := by
  unfold at'
  rcases Nat.lt_or_ge n.toNat v.length with h | h
  · rw [List.getD_eq_getElem?_getD, List.getElem?_eq_getElem h]; exact hi _ (by simp)
  · rw [List.getD_eq_getElem?_getD, List.getElem?_eq_none h]; decide
theorem Ahead_eq {v : List Int} (hi : I64s v) {i k : Nat} (h1 : i < v.length) (h2 : k < v.length) : M_thrumref09_Ahead v (i : Int) (k : Int) = some (decide (bh (oneAt v k) (oneAt v i))) := by
  rw [M_thrumref09_Ahead, if_pos (by omega), refSize_eq (at_I64 hi), bindS, if_pos (by omega), refSize_eq (at_I64 hi), bindS, at'_nat, at'_nat]
  rw [show (default : Int) = 0 from rfl]
  have hb : bh (oneAt v k) (oneAt v i) ↔ (sizeP (v.getD k 0) < sizeP (v.getD i 0) ∨ (sizeP (v.getD k 0) = sizeP (v.getD i 0) ∧ (i : Int) < (k : Int))) := Iff.rfl
  by_cases g1 : sizeP (v.getD i 0) > sizeP (v.getD k 0)
  · rw [if_pos g1, decide_eq_true (hb.2 (by omega))]
  · rw [if_neg g1]
    by_cases g2 : sizeP (v.getD i 0) = sizeP (v.getD k 0)
    · rw [if_pos g2]
      congr 1
      rw [decide_eq_decide, hb]
      omega
    · rw [if_neg g2, decide_eq_false (fun h => by rw [hb] at h; omega)]

section
variable (k0 : Int) (v : List Int) (l out : List Int) (hl : l.length ≤ 50000) (ho : out.length ≤ 50000) (hv : v.length ≤ 4096)
include hl ho hv
theorem Gr_l0 (hin : ∀ n ∈ l, 0 ≤ n ∧ n < (v.length : Int)) : ∀ (t : List Int) (k : Nat), l.drop k = t → M_thrumlaw09_TopkGreatest_l0 k0 v true (l, 0) (k : Int) = some (.inr ())
  | [], k, h => by rw [M_thrumlaw09_TopkGreatest_l0, if_neg (drop_end h)]
  | x :: t, k, h => by
    obtain ⟨h1, h2, h3⟩ := drop_at h
    have hx : x ∈ l := by
      have : x ∈ l.drop k := by rw [h]; simp
      exact List.mem_of_mem_drop this
    have := hin x hx
    rw [M_thrumlaw09_TopkGreatest_l0]
    simp only
    rw [if_pos h1, if_pos ⟨by omega, h1⟩, h2, orB, if_neg (by simp; omega), i64_s (by omega), Gr_l0 hin t (k + 1) h3]

theorem Gr_l2 (x0 : Nat) (i : Nat) (hx0 : at' l (x0 : Int) = (i : Int)) (hi : I64s v) (hil : i < v.length) (hA : ∀ n ∈ out, 0 ≤ n ∧ n < (v.length : Int) ∧ bh (oneAt v n.toNat) (oneAt v i)) (e : Int) :
    ∀ (t : List Int) (k : Nat), out.drop k = t → M_thrumlaw09_TopkGreatest_l2 k0 v true (l, 0) (out, e) (x0 : Int) (k : Int) = some (.inr ())
  | [], k, h => by rw [M_thrumlaw09_TopkGreatest_l2, if_neg (drop_end h)]
  | x :: t, k, h => by
    obtain ⟨h1, h2, h3⟩ := drop_at h
    have hx : x ∈ out := by
      have : x ∈ out.drop k := by rw [h]; simp
      exact List.mem_of_mem_drop this
    obtain ⟨a1, a2, a3⟩ := hA x hx
    obtain ⟨m, rfl⟩ : ∃ m : Nat, x = m := ⟨x.toNat, by omega⟩
    rw [Int.toNat_natCast] at a3
    rw [M_thrumlaw09_TopkGreatest_l2]
    simp only
    rw [if_pos h1, if_pos ⟨by omega, h1⟩, h2, hx0, orB]
    rw [show (decide ((m : Int) < 0) || decide ((m : Int) ≥ (v.length : Int))) = false by simp; omega]
    simp only [Bool.false_eq_true, if_false]
    rw [Ahead_eq hi hil (by omega), bindS, bindS, decide_eq_true a3]
    simp only [Bool.not_true, Bool.false_eq_true, if_false]
    rw [i64_s (by omega), Gr_l2 x0 i hx0 hi hil hA e t (k + 1) h3]

theorem Gr_l1 (hi : I64s v) (hA : ∀ i ∈ l, 0 ≤ i ∧ i < (v.length : Int) ∧ ∀ n ∈ out, 0 ≤ n ∧ n < (v.length : Int) ∧ bh (oneAt v n.toNat) (oneAt v i.toNat)) (e : Int) :
    ∀ (t : List Int) (k : Nat), l.drop k = t → M_thrumlaw09_TopkGreatest_l1 k0 v true (l, 0) (out, e) (k : Int) = some (.inr ())
  | [], k, h => by rw [M_thrumlaw09_TopkGreatest_l1, if_neg (drop_end h)]
  | x :: t, k, h => by
    obtain ⟨h1, h2, h3⟩ := drop_at h
    have hx : x ∈ l := by
      have : x ∈ l.drop k := by rw [h]; simp
      exact List.mem_of_mem_drop this
    obtain ⟨a1, a2, a3⟩ := hA x hx
    obtain ⟨m, rfl⟩ : ∃ m : Nat, x = m := ⟨x.toNat, by omega⟩
    rw [Int.toNat_natCast] at a3
    have g := Gr_l2 k0 v l out hl ho hv k m h2 hi (by omega) a3 e out 0 rfl
    rw [show ((0 : Nat) : Int) = 0 from rfl] at g
    rw [M_thrumlaw09_TopkGreatest_l1]
    simp only
    rw [if_pos h1, if_pos ⟨by omega, h1⟩, g, bindS]
    simp only
    rw [i64_s (by omega), Gr_l1 hi hA e t (k + 1) h3]

theorem Gr_l3 (hi : I64s v) (least : Int) (is : Bool) (hA : ∀ n ∈ out, 0 ≤ n ∧ n < (v.length : Int) ∧ (is = true → sizeP (at' v n) ≤ least)) (e : Int) :
    ∀ (t : List Int) (k : Nat), out.drop k = t → M_thrumlaw09_TopkGreatest_l3 k0 v true (out, e) (least, is) (k : Int) = some (.inr ())
  | [], k, h => by rw [M_thrumlaw09_TopkGreatest_l3, if_neg (drop_end h)]
  | x :: t, k, h => by
    obtain ⟨h1, h2, h3⟩ := drop_at h
    have hx : x ∈ out := by
      have : x ∈ out.drop k := by rw [h]; simp
      exact List.mem_of_mem_drop this
    obtain ⟨a1, a2, a3⟩ := hA x hx
    rw [M_thrumlaw09_TopkGreatest_l3]
    simp only
    rw [if_pos h1, if_pos ⟨by omega, h1⟩, h2]
    cases is with
    | false =>
      rw [if_neg (by simp), bindS, if_neg (by simp), i64_s (by omega), Gr_l3 hi least false hA e t (k + 1) h3]
    | true =>
      have := a3 rfl
      rw [if_pos rfl, if_pos ⟨a1, a2⟩, refSize_eq (at_I64 hi), bindS, bindS, if_neg (by simp; omega), i64_s (by omega), Gr_l3 hi least true hA e t (k + 1) h3]
end

theorem TopkGreatest_true (k0 : Int) (v : List Int) (hi : I64s v) : M_thrumlaw09_TopkGreatest k0 v = some true := by
  obtain ⟨b, hb1, hb2⟩ := few9_eq v
  rw [M_thrumlaw09_TopkGreatest, live9_eq, bindS, if_neg (by simp), hb1, bindS]
  cases b with
  | false => rw [if_pos rfl]
  | true =>
  rw [if_neg (by simp)]
  by_cases hv : 4096 < v.length
  · rw [Pick_long k0 v hv, bindS]
    simp only
    rw [if_pos (by simp), if_true, if_pos (by omega)]
  by_cases hk : k0 < 0 ∨ (v.length : Int) < k0
  · rw [Pick_bad k0 v (by omega) hk, bindS]
    simp only
    rw [if_pos (by simp), if_true, if_neg (by omega)]
    rcases hk with hk | hk
    · rw [if_pos hk]
    · by_cases h0 : k0 < 0
      · rw [if_pos h0]
      · rw [if_neg h0]; simp; omega
  obtain ⟨k, rfl⟩ : ∃ k : Nat, k0 = k := ⟨k0.toNat, by omega⟩
  obtain ⟨pk, lk⟩ := Pick_ok k v (by omega) (by omega)
  have hmem := pick_mem k v
  have hbest := fun (i m : Nat) (h1 : (i : Int) ∈ pickP k v) (h2 : m < v.length) (h3 : (m : Int) ∉ pickP k v) => pick_best (k := k) (v := v) (by omega) (by omega) h1 h2 h3
  have hrise := pickP_rising k v
  rw [pk, bindS]
  generalize pickP k v = l at *
  have hin : ∀ n ∈ l, 0 ≤ n ∧ n < (v.length : Int) := fun n hn => by
    obtain ⟨i, h1, rfl, _⟩ := (hmem n).1 hn; omega
  simp only
  rw [if_neg (by simp), if_neg (by simp [lk])]
  have g0 := Gr_l0 (k : Int) v l [] (by omega) (by simp) (by omega) hin l 0 rfl
  rw [show ((0 : Nat) : Int) = 0 from rfl] at g0
  rw [g0, bindS]
  simp only
  by_cases h0 : (v.length : Int) = 0
  · rw [if_pos h0]
  rw [if_neg h0]
  have hc : checkP (v.length : Int) l = 0 := placed_iff.2 ⟨by simp [meas]; omega, hrise, hin⟩
  have hL := Left_eq (v.length : Int) l (by omega) hc
  rw [hL, bindS]
  have hout : ∀ n, n ∈ leftF (v.length : Int).toNat 0 l ↔ (0 ≤ n ∧ n < (v.length : Int) ∧ n ∉ l) := fun n => by
    rw [leftF_mem _ 0 l hrise (fun n hn => (hin n hn).1), show (0 : Int) + (((v.length : Int).toNat : Nat) : Int) = (v.length : Int) by omega]
  have hlen := leftF_len (v.length : Int).toNat 0 l hrise (fun n hn => ⟨(hin n hn).1, by have := (hin n hn).2; omega⟩)
  generalize leftF (v.length : Int).toNat 0 l = out at *
  simp only
  rw [if_neg (by simp)]
  have hA : ∀ i ∈ l, 0 ≤ i ∧ i < (v.length : Int) ∧ ∀ n ∈ out, 0 ≤ n ∧ n < (v.length : Int) ∧ bh (oneAt v n.toNat) (oneAt v i.toNat) := by
    intro i hil
    obtain ⟨h1, h2⟩ := hin i hil
    refine ⟨h1, h2, fun n hn => ?_⟩
    obtain ⟨h3, h4, h5⟩ := (hout n).1 hn
    refine ⟨h3, h4, (hbest i.toNat n.toNat (by rw [Int.toNat_of_nonneg h1]; exact hil) (by omega) (by rw [Int.toNat_of_nonneg h3]; exact h5)).2⟩
  have g1 := Gr_l1 (k : Int) v l out (by omega) (by omega) (by omega) hi hA 0 l 0 rfl
  rw [show ((0 : Nat) : Int) = 0 from rfl] at g1
  rw [g1, bindS]
  simp only
  rw [Least_eq l v (by omega), bindS]
  obtain ⟨s1, s2, s3⟩ := leastG_spec v l false 0 hin
  have hA3 : ∀ n ∈ out, 0 ≤ n ∧ n < (v.length : Int) ∧ ((leastG v l false 0).1 = true → sizeP (at' v n) ≤ (leastG v l false 0).2) := by
    intro n hn
    obtain ⟨h3, h4, h5⟩ := (hout n).1 hn
    refine ⟨h3, h4, fun his => ?_⟩
    rw [s1] at his
    obtain ⟨i, hil, ei⟩ := s3 rfl (by intro e; subst e; simp at his)
    rw [ei]
    obtain ⟨a1, a2, a3⟩ := hA i hil
    have := (a3 n hn).2.2
    unfold bh oneAt at this
    simp only at this
    have q1 : at' v n = v.getD n.toNat 0 := rfl
    have q2 : at' v i = v.getD i.toNat 0 := rfl
    rw [q1, q2]; omega
  have g3 := Gr_l3 (k : Int) v l out (by omega) (by omega) (by omega) hi _ _ hA3 0 out 0 rfl
  rw [show ((0 : Nat) : Int) = 0 from rfl] at g3
  rw [g3, bindS]
  simp only
  rw [if_true, bindS, s1]
  cases l with
  | nil => simp at lk; subst lk; simp
  | cons x t => simp at lk; simp; omega
end Go.Proofs.Ythhcgcaefjmekaa.Abs
