/- Plain facts on what is picked, and what is ahead. Conditions: none. -/
import Derived.Test.YtelobmiooldoaaaPH3
namespace Go.Proofs.Ytelobmiooldoaaa.Abs
open Go Go.RowKit Go.IntWalk
set_option linter.unusedVariables false
set_option linter.unusedSimpArgs false
set_option linter.unusedSectionVars false
set_option maxRecDepth 100000
set_option linter.unusedSimpArgs false
set_option linter.unusedSectionVars false
set_option maxRecDepth 100000

def I64s (v : List Int) : Prop := ∀ n ∈ v, -9223372036854775808 ≤ n ∧ n ≤ 9223372036854775807

/-- The least size. -/
def leastG (v : List Int) : List Int → Bool → Int → Bool × Int
  | [], b, x => (b, x)
  | n :: t, b, x => if n < 0 ∨ n ≥ (v.length : Int) then leastG v t b x else if b = false ∨ sizeP (at' v n) < x then leastG v t true (sizeP (at' v n)) else leastG v t b x
theorem Least_l0 (l v : List Int) (hl : l.length ≤ 4611686018427387904) : ∀ (t : List Int) (k : Nat) (b : Bool) (x : Int), l.drop k = t → M_topk_Least_l0 l v (k : Int) b x = some (leastG v t b x)
  | [], k, b, x, h => by rw [M_topk_Least_l0, if_neg (drop_end h)]; rfl
  | n :: t, k, b, x, h => by
    obtain ⟨h1, h2, h3⟩ := drop_at h
    rw [M_topk_Least_l0, if_pos h1, if_pos ⟨by omega, h1⟩, h2, orB, i64_s (by omega), leastG]
    by_cases hn : n < 0 ∨ n ≥ (v.length : Int)
    · rw [if_pos (by simp; omega), if_pos hn, Least_l0 l v hl t (k + 1) b x h3]
    · rw [if_neg (by simp; omega), if_neg hn, if_pos (by omega), size_eq, bindS]
      cases b with
      | false => rw [if_pos rfl, bindS, if_pos rfl, if_pos (.inl rfl), Least_l0 l v hl t (k + 1) true _ h3]
      | true =>
        rw [if_neg (by simp), bindS]
        by_cases hs : sizeP (at' v n) < x
        · rw [if_pos (by simpa using hs), if_pos (.inr hs), Least_l0 l v hl t (k + 1) true _ h3]
        · rw [if_neg (by simpa using hs), if_neg (by simp; omega), Least_l0 l v hl t (k + 1) true _ h3]
theorem Least_eq (l v : List Int) (hl : l.length ≤ 4611686018427387904) : M_topk_Least l v = some ((leastG v l false 0).2, (leastG v l false 0).1) := by
  have h := Least_l0 l v hl l 0 false 0 rfl
  rw [show ((0 : Nat) : Int) = 0 from rfl] at h
  rw [M_topk_Least, h, bindS]
theorem leastG_spec (v : List Int) : ∀ (t : List Int) (b : Bool) (x : Int), (∀ n ∈ t, 0 ≤ n ∧ n < (v.length : Int)) → ((leastG v t b x).1 = (b || !t.isEmpty)) ∧ ((leastG v t b x).2 = x ∨ ∃ n ∈ t, (leastG v t b x).2 = sizeP (at' v n)) ∧ (b = false → t ≠ [] → ∃ n ∈ t, (leastG v t b x).2 = sizeP (at' v n))
  | [], b, x, h => by simp [leastG]
  | n :: t, b, x, h => by
    have hn := h n (by simp)
    have ht : ∀ m ∈ t, 0 ≤ m ∧ m < (v.length : Int) := fun m hm => h m (List.mem_cons_of_mem _ hm)
    rw [leastG, if_neg (by omega)]
    split
    · obtain ⟨g1, g2, g3⟩ := leastG_spec v t true (sizeP (at' v n)) ht
      have g4 : ∃ m ∈ n :: t, (leastG v t true (sizeP (at' v n))).2 = sizeP (at' v m) := by
        rcases g2 with g2 | ⟨m, hm, g2⟩
        · exact ⟨n, by simp, g2⟩
        · exact ⟨m, List.mem_cons_of_mem _ hm, g2⟩
      exact ⟨by rw [g1]; simp, .inr g4, fun _ _ => g4⟩
    · rename_i hc
      have hb : b = true := by cases b <;> simp at hc ⊢
      subst hb
      obtain ⟨g1, g2, g3⟩ := leastG_spec v t true x ht
      refine ⟨by rw [g1]; simp, ?_, fun hb => by cases hb⟩
      rcases g2 with g2 | ⟨m, hm, g2⟩
      · exact .inl g2
      · exact .inr ⟨m, List.mem_cons_of_mem _ hm, g2⟩

theorem live_pick : pickP 2 [3, -5, 5, 1] = [1, 2] := by kernel_rfl
theorem live_least : leastG [3, -5, 5, 1] [1, 2] false 0 = (true, 5) := by kernel_rfl
theorem live9_eq : M_thrumlaw09_live = some true := by
  obtain ⟨h, _⟩ := Pick_ok 2 [3, -5, 5, 1] (by simp) (by simp)
  rw [show ((2 : Nat) : Int) = 2 from rfl, live_pick] at h
  rw [M_thrumlaw09_live, h, bindS, Least_eq _ _ (by simp), bindS, live_least]
  simp only [if_true]
  rw [Equal_eq _ _ (by simp)]
  simp [bindS]
theorem few9_eq (v : List Int) : ∃ b, M_thrumlaw09_few v = some b ∧ (b = true → v.length ≤ 200 ∨ (4096 < v.length ∧ v.length ≤ 5000)) := by
  rw [M_thrumlaw09_few]
  by_cases h1 : (v.length : Int) ≤ 200
  · exact ⟨true, by rw [if_pos h1], fun _ => .inl (by omega)⟩
  · rw [if_neg h1]
    by_cases h2 : (v.length : Int) > 4096
    · refine ⟨_, by rw [if_pos h2], fun h => .inr ⟨by omega, ?_⟩⟩
      have : (v.length : Int) ≤ 5000 := by simpa using h
      omega
    · exact ⟨false, by rw [if_neg h2], fun h => by cases h⟩
set_option linter.unusedSimpArgs false
set_option linter.unusedSectionVars false
set_option maxRecDepth 100000

theorem pick_kept (k : Nat) (v : List Int) (hk : k ≤ v.length) (hv : v.length ≤ 4096) : ∃ S R, Kept (onesP v) S R k := by
  have hl : (onesP v).length = v.length := oneF_len 0 v
  have k0 : Kept ((onesP v).take 0) [] [] k := ⟨by simp, by simp, by simp⟩
  obtain ⟨S, R, g1, g2⟩ := Pick_l0 k (by omega) (onesP v) (by omega) (onesP v) 0 [] [] rfl k0 (fun c c0 c1 => by simp at c1)
  exact ⟨S, R, g2⟩
def oneAt (v : List Int) (i : Nat) : T_topk_one := ⟨(i : Int), sizeP (v.getD i 0)⟩
theorem oneAt_mem {v : List Int} {i : Nat} (hi : i < v.length) : oneAt v i ∈ onesP v := (oneF_mem v 0 _).2 ⟨i, hi, by rw [Nat.zero_add]; rfl⟩
/-- What is picked is ahead of what is not. -/
theorem pick_best {k : Nat} {v : List Int} (hk : k ≤ v.length) (hv : v.length ≤ 4096) {i m : Nat} (hi : (i : Int) ∈ pickP k v) (hm : m < v.length) (hmn : (m : Int) ∉ pickP k v) : i < v.length ∧ bh (oneAt v m) (oneAt v i) := by
  obtain ⟨S, R, h⟩ := pick_kept k v hk hv
  obtain ⟨i', hi', e, hr⟩ := (pick_mem k v i).1 hi
  have : i' = i := by omega
  subst this
  have h1 : oneAt v i' ∈ S := (kept_iff hk h _ (oneAt_mem hi')).2 hr
  have h2 : oneAt v m ∉ S := fun hS => hmn ((pick_mem k v m).2 ⟨m, hm, rfl, (kept_iff hk h _ (oneAt_mem hm)).1 hS⟩)
  have h3 : oneAt v m ∈ R := by
    rcases List.mem_append.1 (h.perm.mem_iff.1 (oneAt_mem hm)) with h' | h'
    · exact absurd h' h2
    · exact h'
  refine ⟨hi', ?_⟩
  by_cases hb : bh (oneAt v m) (oneAt v i')
  · exact hb
  · have := bh_tot hb (h.best _ h1 _ h3)
    rw [this] at h2
    exact absurd h1 h2

theorem refSize_eq {n : Int} (h : -9223372036854775808 ≤ n ∧ n ≤ 9223372036854775807) : M_thrumref09_Size n = some (sizeP n) := by
  rw [M_thrumref09_Size, sizeP_abs h]
  split
  · congr 1
    have w1 : IntKind.i64.wrap (n + 1) = n + 1 := i64_in _ (by omega)
    have w2 : IntKind.i64.wrap (0 - (n + 1)) = 0 - (n + 1) := i64_in _ (by omega)
    have w3 : IntKind.u64.wrap (0 - (n + 1)) = 0 - (n + 1) := u64_in _ (by omega)
    rw [w1, w2, w3, u64_in _ (by omega)]; omega
  · congr 1
    rw [u64_in _ (by omega)]; omega
theorem at_I64 {v : List Int} (hi : I64s v) {n : Int} : -9223372036854775808 ≤ at' v n ∧ at' v n ≤ 9223372036854775807 := by
  unfold at'
  rcases Nat.lt_or_ge n.toNat v.length with h | h
  · rw [List.getD_eq_getElem?_getD, List.getElem?_eq_getElem h]; exact hi _ (by simp)
  · rw [List.getD_eq_getElem?_getD, List.getElem?_eq_none h]; decide
theorem Ahead_eq {v : List Int} (hi : I64s v) {i k : Nat} (h1 : i < v.length) (h2 : k < v.length) : M_thrumref09_Ahead v (i : Int) (k : Int) = some (decide (bh (oneAt v k) (oneAt v i))) := by
  rw [M_thrumref09_Ahead, if_pos (by omega), refSize_eq (at_I64 hi), bindS, if_pos (by omega), refSize_eq (at_I64 hi), bindS, at'_nat, at'_nat]
  rw [show (default : Int) = 0 from rfl]
  have hb : bh (oneAt v k) (oneAt v i) ↔ (sizeP (v.getD k 0) < sizeP (v.getD i 0) ∨ (sizeP (v.getD k 0) = sizeP (v.getD i 0) ∧ (i : Int) < (k : Int))) := Iff.rfl
  by_cases g1 : sizeP (v.getD i 0) > sizeP (v.getD k 0)
  · rw [if_pos g1, decide_eq_true (hb.2 (by omega))]
  · rw [if_neg g1]
    by_cases g2 : sizeP (v.getD i 0) = sizeP (v.getD k 0)
    · rw [if_pos g2]
      congr 1
      rw [decide_eq_decide, hb]
      omega
    · rw [if_neg g2, decide_eq_false (fun h => by rw [hb] at h; omega)]
end Go.Proofs.Ytelobmiooldoaaa.Abs
