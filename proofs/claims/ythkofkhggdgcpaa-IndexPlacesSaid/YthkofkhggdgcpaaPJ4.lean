/- Plain facts on the document's places. Conditions: none. -/
import Derived.Test.YthkofkhggdgcpaaPJ3
namespace Go.Proofs.Ythkofkhggdgcpaa.Abs
open Go Go.RowKit Go.IntWalk
set_option linter.unusedVariables false
set_option linter.unusedSimpArgs false
set_option maxRecDepth 100000

theorem refSpread_l0 (l a : List Int) (hl : l.length ≤ 4611686018427387904) (he : l.length = a.length) (D : Int) (hv : ∀ n ∈ l, 0 ≤ n ∧ n < D) : ∀ (t u : List Int) (k : Nat) (out : List Int), l.drop k = t → a.drop k = u → (out.length : Int) = D → M_thrumref06_Spread_l0 l a (k : Int) out = some (spreadG out t u)
  | [], u, k, out, h, h', ho => by
    rw [M_thrumref06_Spread_l0, if_neg (drop_end h)]; cases u <;> simp [spreadG]
  | x :: t, [], k, out, h, h', ho => by
    have := List.drop_eq_nil_iff.1 h'
    have := (drop_at h).1
    omega
  | x :: t, y :: u, k, out, h, h', ho => by
    have h1 := drop_at h
    have h2 := drop_at h'
    have hx := hv x (List.mem_of_mem_drop (by rw [h]; simp))
    rw [M_thrumref06_Spread_l0, if_pos h1.1, if_pos (by omega), if_pos (by omega), h1.2.1, if_pos (by omega), bindS, h2.2.1, i64_s (by omega), refSpread_l0 l a hl he D hv t u (k + 1) _ h1.2.2 h2.2.2 (by simpa using ho)]
    rfl

theorem refSpread_eq (dim : Int) (l a : List Int) (hl : l.length ≤ 4611686018427387904) (h : checkP dim l = 0) (he : l.length = a.length) : M_thrumref06_Spread dim l a = some (spreadG (List.replicate dim.toNat 0) l a, 0) := by
  have h' := h
  rw [placed_iff] at h
  have hm := h.1
  simp only [meas, Bool.and_eq_true, decide_eq_true_eq] at hm
  have h1 := refSpread_l0 l a hl he dim h.2.2 l a 0 (List.replicate dim.toNat 0) rfl rfl (by simp; omega)
  rw [show ((0 : Nat) : Int) = 0 from rfl] at h1
  rw [M_thrumref06_Spread, refCheck_eq dim l hl, bindS, h', if_neg (by simp), if_neg (by omega), if_pos (by omega), bindS, h1, bindS]


theorem Spread_all (dim : Int) (l v : List Int) (hl : l.length ≤ 4611686018427387904) : ∃ r, M_index_Spread dim l v = some r ∧ M_thrumref06_Spread dim l v = some r ∧ r.1.length ≤ 4096 := by
  by_cases hc : checkP dim l = 0
  · obtain ⟨hm, _, _⟩ := placed_iff.1 hc
    have hd : 0 < dim ∧ dim ≤ 4096 := by simpa [meas] using hm
    by_cases he : l.length = v.length
    · exact ⟨_, Spread_eq dim l v hl hc he, refSpread_eq dim l v hl hc he, by simp only [spreadG_len, List.length_replicate]; omega⟩
    · refine ⟨([], 4), ?_, ?_, by simp⟩
      · rw [M_index_Spread, Check_eq dim l hl, bindS, if_neg (by simp [hc]), if_pos (by omega)]
      · rw [M_thrumref06_Spread, refCheck_eq dim l hl, bindS, if_neg (by simp [hc]), if_pos (by omega)]
  · refine ⟨([], checkP dim l), ?_, ?_, by simp⟩
    · rw [M_index_Spread, Check_eq dim l hl, bindS, if_pos hc]
    · rw [M_thrumref06_Spread, refCheck_eq dim l hl, bindS, if_pos hc]

theorem refGather_l0 (l v : List Int) (hl : l.length ≤ 1099511627776) : ∀ (t : List Int) (k : Nat) (acc : List Int), l.drop k = t → acc.length ≤ k →
    M_thrumref06_Gather_l0 l v (k : Int) acc = some (if ∀ n ∈ t, 0 ≤ n ∧ n < (v.length : Int) then .inr (acc ++ t.map (at' v)) else .inl ([], 1))
  | [], k, acc, h, ha => by
    rw [M_thrumref06_Gather_l0, if_neg (drop_end h)]; simp
  | x :: t, k, acc, h, ha => by
    obtain ⟨h1, h2, h3⟩ := drop_at h
    rw [M_thrumref06_Gather_l0, if_pos h1, if_pos ⟨by omega, h1⟩, h2, orB]
    by_cases hx : 0 ≤ x ∧ x < (v.length : Int)
    · rw [if_neg (by simp; omega), if_pos hx, if_pos (room8 (by simp; omega)), bindS, i64_s (by omega), refGather_l0 l v hl t (k + 1) _ h3 (by simp; omega)]
      congr 1
      by_cases ht : ∀ n ∈ t, 0 ≤ n ∧ n < (v.length : Int)
      · rw [if_pos ht, if_pos (by intro n hn; rcases List.mem_cons.1 hn with rfl | hn
                                  · exact hx
                                  · exact ht n hn)]
        simp
      · rw [if_neg ht, if_neg (fun h => ht fun n hn => h n (List.mem_cons_of_mem _ hn))]
    · rw [if_pos (by simp; omega), if_neg (fun h => hx (h x (by simp)))]

theorem Gather_all (l v : List Int) (hl : l.length ≤ 1099511627776) : ∃ r, M_index_Gather l v = some r ∧ M_thrumref06_Gather l v = some r ∧ r.1.length ≤ l.length := by
  cases hr : rising l with
  | false =>
    refine ⟨([], 1), ?_, ?_, by simp⟩
    · rw [M_index_Gather, rises_eq l (by omega), bindS, hr, if_pos rfl, bindS, if_pos rfl]
    · rw [M_thrumref06_Gather, refRises_eq l (by omega), bindS, hr, if_pos rfl]
  | true =>
    have h0 := refGather_l0 l v hl l 0 [] rfl (by simp)
    rw [show ((0 : Nat) : Int) = 0 from rfl] at h0
    by_cases hv : ∀ n ∈ l, 0 ≤ n ∧ n < (v.length : Int)
    · refine ⟨(l.map (at' v), 0), Gather_eq l v hl hr hv, ?_, by simp⟩
      rw [M_thrumref06_Gather, refRises_eq l (by omega), bindS, hr, if_neg (by simp), h0, if_pos hv]
      rfl
    · refine ⟨([], 1), ?_, ?_, by simp⟩
      · have hd : decide (¬ ∀ n ∈ l, 0 ≤ n ∧ n < (v.length : Int)) = true := decide_eq_true hv
        rw [M_index_Gather, rises_eq l (by omega), bindS, hr, Contains_eq l v (by omega), bindS, orB, hd, if_pos (by simp)]
      · rw [M_thrumref06_Gather, refRises_eq l (by omega), bindS, hr, if_neg (by simp), h0, if_neg hv]
        rfl

theorem in_l0 (l : List Int) (n : Int) (hl : l.length ≤ 4611686018427387904) : ∀ (t : List Int) (k : Nat), l.drop k = t → M_thrumref06_in_l0 l n (k : Int) = some (if n ∈ t then .inl true else .inr ())
  | [], k, h => by rw [M_thrumref06_in_l0, if_neg (drop_end h)]; simp
  | x :: t, k, h => by
    obtain ⟨h1, h2, h3⟩ := drop_at h
    rw [M_thrumref06_in_l0, if_pos h1, if_pos ⟨by omega, h1⟩, h2]
    by_cases hx : x = n
    · rw [if_pos hx, if_pos (by simp [hx])]
    · rw [if_neg hx, i64_s (by omega), in_l0 l n hl t (k + 1) h3]
      congr 1
      by_cases ht : n ∈ t
      · rw [if_pos ht, if_pos (List.mem_cons_of_mem _ ht)]
      · rw [if_neg ht, if_neg (fun h => by rcases List.mem_cons.1 h with h | h
                                           · exact hx h.symm
                                           · exact ht h)]
theorem in_eq (l : List Int) (n : Int) (hl : l.length ≤ 4611686018427387904) : M_thrumref06_in l n = some (decide (n ∈ l)) := by
  have h0 := in_l0 l n hl l 0 rfl
  rw [show ((0 : Nat) : Int) = 0 from rfl] at h0
  rw [M_thrumref06_in, h0, bindS]
  by_cases h : n ∈ l <;> simp [h]

def leftR : Nat → Int → List Int → List Int
  | 0, _, _ => []
  | m + 1, x, l => if x ∈ l then leftR m (x + 1) l else x :: leftR m (x + 1) l
theorem leftR_mem : ∀ (m : Nat) (x : Int) (l : List Int) (n : Int), n ∈ leftR m x l ↔ (x ≤ n ∧ n < x + m ∧ n ∉ l)
  | 0, x, l, n => by simp [leftR]; omega
  | m + 1, x, l, n => by
    rw [leftR]
    by_cases h : x ∈ l
    · rw [if_pos h, leftR_mem m]
      constructor
      · rintro ⟨h1, h2, h3⟩; exact ⟨by omega, by omega, h3⟩
      · rintro ⟨h1, h2, h3⟩
        have : n ≠ x := fun e => h3 (e ▸ h)
        exact ⟨by omega, by omega, h3⟩
    · rw [if_neg h, List.mem_cons, leftR_mem m]
      constructor
      · rintro (rfl | ⟨h1, h2, h3⟩)
        · exact ⟨by omega, by omega, h⟩
        · exact ⟨by omega, by omega, h3⟩
      · rintro ⟨h1, h2, h3⟩
        by_cases e : n = x
        · exact .inl e
        · exact .inr ⟨by omega, by omega, h3⟩
theorem leftR_rising : ∀ (m : Nat) (x : Int) (l : List Int), rising (leftR m x l) = true
  | 0, x, l => rfl
  | m + 1, x, l => by
    rw [leftR]
    split
    · exact leftR_rising m (x + 1) l
    · exact rising_mk (leftR_rising m (x + 1) l) fun y hy => by have := (leftR_mem m (x + 1) l y).1 hy; omega
theorem refLeft_l0 (dim : Int) (hd : dim ≤ 4096) (l : List Int) (hl : l.length ≤ 4611686018427387904) : ∀ (m : Nat) (x : Int) (acc : List Int), x + m = dim → 0 ≤ x → (acc.length : Int) ≤ x → M_thrumref06_Left_l0 dim l x acc = some (acc ++ leftR m x l)
  | 0, x, acc, h, h0, ha => by
    rw [M_thrumref06_Left_l0, if_neg (by omega)]; simp [leftR]
  | m + 1, x, acc, h, h0, ha => by
    rw [M_thrumref06_Left_l0, if_pos (by omega), in_eq l x hl, bindS, leftR]
    by_cases hx : x ∈ l
    · rw [if_neg (by simp [hx]), i64_in _ (by omega), refLeft_l0 dim hd l hl m (x + 1) acc (by omega) (by omega) (by omega), if_pos hx]
    · rw [if_pos (by simp [hx]), if_pos (room8 (by simp; omega)), i64_in _ (by omega), refLeft_l0 dim hd l hl m (x + 1) _ (by omega) (by omega) (by simp; omega), if_neg hx]
      simp
theorem Left_all (dim : Int) (l : List Int) (hl : l.length ≤ 4611686018427387904) : ∃ r, M_index_Left dim l = some r ∧ M_thrumref06_Left dim l = some r ∧ r.1.length ≤ 4611686018427387904 := by
  by_cases hc : checkP dim l = 0
  · obtain ⟨hm, hr, hin⟩ := placed_iff.1 hc
    have hd : 0 < dim ∧ dim ≤ 4096 := by simpa [meas] using hm
    have hlen := leftF_len dim.toNat 0 l hr (fun n hn => ⟨(hin n hn).1, by have := (hin n hn).2; omega⟩)
    refine ⟨_, Left_eq dim l hl hc, ?_, by simp only; omega⟩
    rw [M_thrumref06_Left, refCheck_eq dim l hl, bindS, if_neg (by simp [hc]), refLeft_l0 dim hd.2 l hl dim.toNat 0 [] (by omega) (by omega) (by simp), bindS]
    rw [List.nil_append, rising_ext (leftR_rising dim.toNat 0 l) (leftF_rising dim.toNat 0 l hr (fun n hn => (hin n hn).1)) fun n => by rw [leftR_mem, leftF_mem dim.toNat 0 l hr (fun n hn => (hin n hn).1)]]
  · refine ⟨([], checkP dim l), Left_bad dim l hl hc, ?_, by simp⟩
    rw [M_thrumref06_Left, refCheck_eq dim l hl, bindS, if_pos hc]
end Go.Proofs.Ythkofkhggdgcpaa.Abs
