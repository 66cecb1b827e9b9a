/- IndexSpreads, plainly: it answers true. Conditions: none but that numbers are of their kinds. -/
import Derived.Test.YtaghpancpfpnhaaP6f
namespace Go.Proofs.Ytaghpancpfpnhaa.Abs
open Go Go.RowKit Go.IntWalk
set_option linter.unusedVariables false

theorem Gc_eq (n : Int) (v : List Int) : M_index_Gather_1_c n v = some (decide (n < 0) || decide (n ≥ v.length)) := by rw [M_index_Gather_1_c, orB]

theorem IndexFunc_l0 (l v : List Int) (hl : l.length ≤ 4611686018427387904) : ∀ (t : List Int) (k : Nat), l.drop k = t → ∃ e, M_slices_IndexFunc_int_int_index_Gather_1_l0 l v (k : Int) = some e ∧ ((∀ n ∈ t, 0 ≤ n ∧ n < v.length) → e = .inr ()) ∧ (¬ (∀ n ∈ t, 0 ≤ n ∧ n < v.length) → ∃ i : Int, 0 ≤ i ∧ e = .inl i)
  | [], k, h => by
    rw [M_slices_IndexFunc_int_int_index_Gather_1_l0, if_neg (drop_end h)]
    exact ⟨_, rfl, fun _ => rfl, fun h => absurd (by simp) h⟩
  | x :: t, k, h => by
    have h1 := drop_at h
    obtain ⟨e, g1, g2, g3⟩ := IndexFunc_l0 l v hl t (k + 1) h1.2.2
    rw [M_slices_IndexFunc_int_int_index_Gather_1_l0, if_pos h1.1, if_pos (by omega), h1.2.1, Gc_eq, bindS, i64_s (by omega), g1]
    by_cases hx : 0 ≤ x ∧ x < v.length
    · rw [if_neg (by simp; omega)]
      refine ⟨e, rfl, fun h => g2 fun n hn => h n (by simp [hn]), fun h => g3 fun h' => h fun n hn => ?_⟩
      rcases List.mem_cons.1 hn with rfl | hn
      · exact hx
      · exact h' n hn
    · rw [if_pos (by simp; omega)]
      exact ⟨_, rfl, fun h => absurd (h x (by simp)) hx, fun _ => ⟨k, by omega, rfl⟩⟩

theorem Contains_eq (l v : List Int) (hl : l.length ≤ 4611686018427387904) : M_slices_ContainsFunc_int_int_index_Gather_1 l v = some (decide (¬ ∀ n ∈ l, 0 ≤ n ∧ n < (v.length : Int))) := by
  rw [M_slices_ContainsFunc_int_int_index_Gather_1, M_slices_IndexFunc_int_int_index_Gather_1]
  obtain ⟨e, g1, g2, g3⟩ := IndexFunc_l0 l v hl l 0 rfl
  rw [show ((0 : Nat) : Int) = 0 from rfl] at g1
  rw [g1]
  by_cases h : ∀ n ∈ l, 0 ≤ n ∧ n < (v.length : Int)
  · rw [g2 h, decide_eq_false (by simpa using h)]; rfl
  · obtain ⟨i, h0, rfl⟩ := g3 h
    rw [decide_eq_true h]
    simp [bindS, h0]

theorem Gather_l0 (l v : List Int) (hl : l.length ≤ 1099511627776) (hv : ∀ n ∈ l, 0 ≤ n ∧ n < (v.length : Int)) : ∀ (t : List Int) (k : Nat) (acc : List Int), l.drop k = t → acc.length ≤ k → M_index_Gather_l0 l v (k : Int) acc = some (acc ++ t.map (at' v))
  | [], k, acc, h, ha => by
    rw [M_index_Gather_l0, if_neg (drop_end h)]; simp
  | x :: t, k, acc, h, ha => by
    have h1 := drop_at h
    have hx := hv x (List.mem_of_mem_drop (by rw [h]; simp))
    rw [M_index_Gather_l0, if_pos h1.1, if_pos (by omega), h1.2.1, if_pos hx, if_pos (room8 (by simp; omega)), bindS, i64_s (by omega), Gather_l0 l v hl hv t (k + 1) _ h1.2.2 (by simp; omega)]
    simp

theorem Gather_eq (l v : List Int) (hl : l.length ≤ 1099511627776) (hr : rising l = true) (hv : ∀ n ∈ l, 0 ≤ n ∧ n < (v.length : Int)) : M_index_Gather l v = some (l.map (at' v), 0) := by
  have h1 := Gather_l0 l v hl hv l 0 [] rfl (by simp)
  rw [show ((0 : Nat) : Int) = 0 from rfl] at h1
  have hd : decide (¬ ∀ n ∈ l, 0 ≤ n ∧ n < (v.length : Int)) = false := decide_eq_false (fun h => h hv)
  rw [M_index_Gather, rises_eq l (by omega), bindS, hr, Contains_eq l v (by omega), bindS, orB, hd, if_neg (by simp), if_pos (by omega), bindS]
  simp only [Int.toNat_zero, List.replicate_zero]
  rw [h1]; simp

/-- So many places from one on, without some. -/
def leftF : Nat → Int → List Int → List Int
  | 0, _, _ => []
  | m + 1, x, [] => x :: leftF m (x + 1) []
  | m + 1, x, y :: t => if y = x then leftF m (x + 1) t else x :: leftF m (x + 1) (y :: t)

theorem Left_l0 (dim : Int) (hd : dim ≤ 4096) : ∀ (m : Nat) (x : Int) (acc rest : List Int), x + m = dim → 0 ≤ x → (acc.length : Int) ≤ x → M_index_Left_l0 dim x acc rest = some (acc ++ leftF m x rest)
  | 0, x, acc, rest, h, h0, ha => by
    rw [M_index_Left_l0, if_neg (by omega)]; simp [leftF]
  | m + 1, x, acc, [], h, h0, ha => by
    rw [M_index_Left_l0, if_pos (by omega), if_neg (by simp), bindS, if_neg (by simp), if_pos (room8 (by simp; omega)), i64_in _ (by omega), Left_l0 dim hd m (x + 1) _ [] (by omega) (by omega) (by simp; omega)]
    simp [leftF]
  | m + 1, x, acc, y :: t, h, h0, ha => by
    rw [M_index_Left_l0, if_pos (by omega), if_pos (by simp <;> omega), if_pos (by simp <;> omega), bindS, drop_at0]
    by_cases hy : y = x
    · have hc : cut' (y :: t) (some 1) none = t := by rw [cut_none _ _ (by simp; omega)]; rfl
      rw [if_pos (by simp [hy]), if_pos (by simp only [cutOk, Option.getD_some, Option.getD_none, List.length_cons]; omega), hc, i64_in _ (by omega), Left_l0 dim hd m (x + 1) acc t (by omega) (by omega) (by omega), leftF, if_pos hy]
    · rw [if_neg (by simp [hy]), if_pos (room8 (by simp; omega)), i64_in _ (by omega), Left_l0 dim hd m (x + 1) _ (y :: t) (by omega) (by omega) (by simp; omega), leftF, if_neg hy]
      simp

theorem leftF_mem : ∀ (m : Nat) (x : Int) (rest : List Int), rising rest = true → (∀ n ∈ rest, x ≤ n) → ∀ n, n ∈ leftF m x rest ↔ (x ≤ n ∧ n < x + m ∧ n ∉ rest)
  | 0, x, rest, hr, hx, n => by simp [leftF]; omega
  | m + 1, x, [], hr, hx, n => by
    have := leftF_mem m (x + 1) [] rfl (by simp) n
    simp only [leftF, List.mem_cons, this, List.not_mem_nil, not_false_eq_true, and_true]
    omega
  | m + 1, x, y :: t, hr, hx, n => by
    have hy := hx y (by simp)
    rw [leftF]
    by_cases h : y = x
    · subst h
      have := leftF_mem m (y + 1) t (rising_tail hr) (fun z hz => by have := rising_cons hr z hz; omega) n
      rw [if_pos rfl, this, List.mem_cons]
      constructor
      · rintro ⟨h1, h2, h3⟩; exact ⟨by omega, by omega, fun h => h.elim (by omega) h3⟩
      · rintro ⟨h1, h2, h3⟩; exact ⟨by have : n ≠ y := fun e => h3 (.inl e); omega, by omega, fun h => h3 (.inr h)⟩
    · have := leftF_mem m (x + 1) (y :: t) hr (fun z hz => by
        rcases List.mem_cons.1 hz with rfl | hz
        · omega
        · have := rising_cons hr z hz; omega) n
      rw [if_neg h, List.mem_cons, this]
      constructor
      · rintro (rfl | ⟨h1, h2, h3⟩)
        · refine ⟨by omega, by omega, fun hm => ?_⟩
          rcases List.mem_cons.1 hm with h' | hm
          · exact h h'.symm
          · have := rising_cons hr _ hm; omega
        · exact ⟨by omega, by omega, h3⟩
      · rintro ⟨h1, h2, h3⟩
        rcases Int.lt_or_eq_of_le h1 with h4 | h4
        · exact .inr ⟨by omega, by omega, h3⟩
        · exact .inl h4.symm

theorem leftF_rising : ∀ (m : Nat) (x : Int) (rest : List Int), rising rest = true → (∀ n ∈ rest, x ≤ n) → rising (leftF m x rest) = true
  | 0, x, rest, hr, hx => rfl
  | m + 1, x, [], hr, hx => rising_mk (leftF_rising m (x + 1) [] rfl (by simp)) fun y hy => by
    have := (leftF_mem m (x + 1) [] rfl (by simp) y).1 hy; omega
  | m + 1, x, y :: t, hr, hx => by
    have hy := hx y (by simp)
    rw [leftF]
    by_cases h : y = x
    · subst h
      rw [if_pos rfl]
      exact leftF_rising m _ t (rising_tail hr) (fun z hz => by have := rising_cons hr z hz; omega)
    · have h2 : ∀ z ∈ y :: t, x + 1 ≤ z := fun z hz => by
        rcases List.mem_cons.1 hz with rfl | hz
        · omega
        · have := rising_cons hr z hz; omega
      rw [if_neg h]
      exact rising_mk (leftF_rising m _ _ hr h2) fun z hz => by have := (leftF_mem m (x + 1) (y :: t) hr h2 z).1 hz; omega

theorem leftF_len : ∀ (m : Nat) (x : Int) (rest : List Int), rising rest = true → (∀ n ∈ rest, x ≤ n ∧ n < x + m) → (leftF m x rest).length + rest.length = m
  | 0, x, [], hr, hx => rfl
  | 0, x, y :: t, hr, hx => by have := hx y (by simp); omega
  | m + 1, x, [], hr, hx => by
    have := leftF_len m (x + 1) [] rfl (by simp)
    simp only [leftF, List.length_cons, List.length_nil] at this ⊢; omega
  | m + 1, x, y :: t, hr, hx => by
    have hy := hx y (by simp)
    rw [leftF]
    by_cases h : y = x
    · subst h
      have := leftF_len m (y + 1) t (rising_tail hr) (fun z hz => by have := rising_cons hr z hz; have := hx z (by simp [hz]); omega)
      rw [if_pos rfl, List.length_cons]; omega
    · have := leftF_len m (x + 1) (y :: t) hr (fun z hz => by
        have h3 := hx z hz
        rcases List.mem_cons.1 hz with rfl | hz
        · omega
        · have := rising_cons hr z hz; omega)
      rw [if_neg h, List.length_cons]; omega

theorem Left_eq (dim : Int) (l : List Int) (hl : l.length ≤ 4611686018427387904) (h : checkP dim l = 0) : M_index_Left dim l = some (leftF dim.toNat 0 l, 0) := by
  have h' := h
  rw [placed_iff] at h
  have hm := h.1
  simp only [meas, Bool.and_eq_true, decide_eq_true_eq] at hm
  rw [M_index_Left, Check_eq dim l hl, bindS, h', if_neg (by simp), Left_l0 dim hm.2 dim.toNat 0 [] l (by omega) (by omega) (by simp)]
  simp

/-- Numbers set at places. -/
def spreadG : List Int → List Int → List Int → List Int
  | out, n :: t, x :: u => spreadG (out.set n.toNat x) t u
  | out, _, _ => out

theorem spreadG_len : ∀ (l a out : List Int), (spreadG out l a).length = out.length
  | [], a, out => by cases a <;> simp [spreadG]
  | n :: t, [], out => by simp [spreadG]
  | n :: t, x :: u, out => by rw [spreadG, spreadG_len t u]; simp

theorem Spread_l0 (l a : List Int) (hl : l.length ≤ 4611686018427387904) (he : l.length = a.length) (D : Int) (hv : ∀ n ∈ l, 0 ≤ n ∧ n < D) : ∀ (t u : List Int) (k : Nat) (out : List Int), l.drop k = t → a.drop k = u → (out.length : Int) = D → M_index_Spread_l0 l a (k : Int) out = some (spreadG out t u)
  | [], u, k, out, h, h', ho => by
    rw [M_index_Spread_l0, if_neg (drop_end h)]; cases u <;> simp [spreadG]
  | x :: t, [], k, out, h, h', ho => by
    have := List.drop_eq_nil_iff.1 h'
    have := (drop_at h).1
    omega
  | x :: t, y :: u, k, out, h, h', ho => by
    have h1 := drop_at h
    have h2 := drop_at h'
    have hx := hv x (List.mem_of_mem_drop (by rw [h]; simp))
    rw [M_index_Spread_l0, if_pos h1.1, if_pos (by omega), if_pos (by omega), h1.2.1, if_pos (by omega), bindS, h2.2.1, i64_s (by omega), Spread_l0 l a hl he D hv t u (k + 1) _ h1.2.2 h2.2.2 (by simpa using ho)]
    rfl

theorem Spread_eq (dim : Int) (l a : List Int) (hl : l.length ≤ 4611686018427387904) (h : checkP dim l = 0) (he : l.length = a.length) : M_index_Spread dim l a = some (spreadG (List.replicate dim.toNat 0) l a, 0) := by
  have h' := h
  rw [placed_iff] at h
  have hm := h.1
  simp only [meas, Bool.and_eq_true, decide_eq_true_eq] at hm
  have h1 := Spread_l0 l a hl he dim h.2.2 l a 0 (List.replicate dim.toNat 0) rfl rfl (by simp; omega)
  rw [show ((0 : Nat) : Int) = 0 from rfl] at h1
  rw [M_index_Spread, Check_eq dim l hl, bindS, h', if_neg (by simp), if_neg (by omega), if_pos (by omega), bindS, h1, bindS]

theorem at'_set {l : List Int} {i n x : Int} (hi : 0 ≤ i) (hi' : i < l.length) (hn : 0 ≤ n) : at' (l.set i.toNat x) n = if n = i then x else at' l n := by
  unfold at'
  by_cases h : n = i
  · subst h; rw [if_pos rfl]
    have : n.toNat < l.length := by omega
    simp [this]
  · rw [if_neg h]
    have : i.toNat ≠ n.toNat := by omega
    simp [List.getElem?_set_ne this]

theorem spread_map (f : Int → Int) : ∀ (l out : List Int), (∀ n ∈ l, 0 ≤ n ∧ n < (out.length : Int)) → ∀ n, 0 ≤ n → at' (spreadG out l (l.map f)) n = if n ∈ l then f n else at' out n
  | [], out, hl, n, hn => by simp [spreadG]
  | m :: t, out, hl, n, hn => by
    have hm := hl m (by simp)
    rw [List.map_cons, spreadG, spread_map f t _ (fun z hz => by simpa using hl z (by simp [hz])) n hn, at'_set hm.1 hm.2 hn]
    by_cases h1 : n ∈ t
    · simp [h1]
    · rw [if_neg h1]
      by_cases h2 : n = m
      · subst h2; simp
      · rw [if_neg h2, if_neg (by simp [h1, h2])]

theorem spread_out : ∀ (l a out : List Int), (∀ n ∈ l, 0 ≤ n ∧ n < (out.length : Int)) → ∀ n, 0 ≤ n → n ∉ l → at' (spreadG out l a) n = at' out n
  | [], a, out, hl, n, hn, h => by cases a <;> simp [spreadG]
  | m :: t, [], out, hl, n, hn, h => by simp [spreadG]
  | m :: t, x :: u, out, hl, n, hn, h => by
    have hm := hl m (by simp)
    rw [spreadG, spread_out t u _ (fun z hz => by simpa using hl z (by simp [hz])) n hn (fun h' => h (by simp [h'])), at'_set hm.1 hm.2 hn, if_neg (fun e => h (by simp [e]))]

theorem spread_back : ∀ (l a out : List Int), rising l = true → (∀ n ∈ l, 0 ≤ n ∧ n < (out.length : Int)) → l.length = a.length → l.map (at' (spreadG out l a)) = a
  | [], [], out, hr, hl, he => rfl
  | [], x :: u, out, hr, hl, he => by simp at he
  | m :: t, [], out, hr, hl, he => by simp at he
  | m :: t, x :: u, out, hr, hl, he => by
    have hm := hl m (by simp)
    have hl' : ∀ z ∈ t, 0 ≤ z ∧ z < ((out.set m.toNat x).length : Int) := fun z hz => by simpa using hl z (by simp [hz])
    rw [List.map_cons, spreadG, spread_back t u _ (rising_tail hr) hl' (by simpa using he)]
    congr 1
    rw [spread_out t u _ hl' m hm.1 (fun h => by have := rising_cons hr m h; omega), at'_set hm.1 hm.2 hm.1, if_pos rfl]

theorem at'_rep {n k : Nat} {i : Int} : at' (List.replicate n (0 : Int)) i = 0 := by
  unfold at'
  by_cases h : i.toNat < n
  · simp [h]
  · simp only [List.getD_eq_getElem?_getD]; rw [List.getElem?_eq_none (by simp; omega)]; rfl

theorem Spreads_l0 (a0 v a2 : List Int) (r1 : Bool) (r8 r9 : List Int × Int) (hv : v.length ≤ 4096) (h8 : r8.1.length = v.length) (h9 : r9.1.length = v.length) (hi : ∀ n ∈ v, -9223372036854775808 ≤ n ∧ n ≤ 9223372036854775807)
    (hs : ∀ n : Int, 0 ≤ n → n < v.length → (at' r8.1 n = at' v n ∧ at' r9.1 n = 0) ∨ (at' r8.1 n = 0 ∧ at' r9.1 n = at' v n)) : ∀ (t : List Int) (k : Nat), v.drop k = t → M_thrumlaw06_IndexSpreads_l0 a0 v a2 r1 r8 r9 (k : Int) = some (.inr ())
  | [], k, h => by
    rw [M_thrumlaw06_IndexSpreads_l0, if_neg (drop_end h)]
  | x :: t, k, h => by
    have h1 := drop_at h
    have hx := hi x (List.mem_of_mem_drop (by rw [h]; simp))
    have ih := Spreads_l0 a0 v a2 r1 r8 r9 hv h8 h9 hi hs t (k + 1) h1.2.2
    have hk := hs k (by omega) h1.1
    rw [h1.2.1] at hk
    rw [M_thrumlaw06_IndexSpreads_l0, if_pos h1.1, if_pos (by omega), if_pos (by omega), if_pos (by omega), h1.2.1, i64_s (by omega), ih]
    rcases hk with ⟨e1, e2⟩ | ⟨e1, e2⟩
    · rw [e1, e2, i64_in _ (by omega), if_neg (by omega)]
      rw [if_pos (by omega)]
      split
      · rw [if_pos (by omega), if_neg (by simp)]
      · rfl
    · rw [e1, e2, i64_in _ (by omega), if_neg (by omega), if_pos (by omega), if_neg (by simp)]

theorem Same2_l0 (a b : List Int) (hl : a.length = b.length) (hb : a.length ≤ 4611686018427387904) : ∀ (t u : List Int) (k : Nat), a.drop k = t → b.drop k = u → M_thrumref02_Same_l0 a b (k : Int) = some (if t = u then .inr () else .inl false)
  | [], u, k, h1, h2 => by
    have := List.drop_eq_nil_iff.1 h1
    have h3 : u = [] := by rw [← h2]; exact List.drop_eq_nil_of_le (by omega)
    rw [M_thrumref02_Same_l0, if_neg (drop_end h1), h3]; rfl
  | x :: t, [], k, h1, h2 => by
    have := List.drop_eq_nil_iff.1 h2
    have := (drop_at h1).1
    omega
  | x :: t, y :: u, k, h1, h2 => by
    have g1 := drop_at h1
    have g2 := drop_at h2
    rw [M_thrumref02_Same_l0, if_pos g1.1, if_pos (by omega), if_pos (by omega), g1.2.1, g2.2.1, i64_s (by omega), Same2_l0 a b hl hb t u (k + 1) g1.2.2 g2.2.2]
    by_cases hxy : x = y
    · subst hxy; simp
    · simp [hxy]

theorem Same2_eq (a b : List Int) (hb : a.length ≤ 4611686018427387904) : M_thrumref02_Same a b = some (decide (a = b)) := by
  rw [M_thrumref02_Same]
  by_cases hl : a.length = b.length
  · have := Same2_l0 a b hl hb a b 0 rfl rfl
    rw [show ((0 : Nat) : Int) = 0 from rfl] at this
    rw [if_neg (by omega), this]
    by_cases h : a = b
    · simp [h]
    · simp [h]
  · rw [if_pos (by omega), decide_eq_false (fun h => hl (by rw [h]))]

theorem IndexSpreads_true (l v w : List Int) (hl : l.length ≤ 140737488355328) (hv : v.length ≤ 140737488355328) (hw : w.length ≤ 140737488355328) (hi : ∀ n ∈ v, -9223372036854775808 ≤ n ∧ n ≤ 9223372036854775807) : M_thrumlaw06_IndexSpreads l v w = some true := by
  rw [M_thrumlaw06_IndexSpreads, live6_eq, bindS, if_neg (by simp), few1_eq l (by omega), bindS, Check_eq _ l (by omega), bindS, orB]
  by_cases h : decide (decide (l.length ≤ 600) = false) || checkP (v.length : Int) l != 0
  · rw [if_pos h]
  · have h' : l.length ≤ 600 ∧ checkP (v.length : Int) l = 0 := by
      simp at h; omega
    obtain ⟨hl6, hc⟩ := h'
    have hp := hc
    rw [placed_iff] at hp
    obtain ⟨hm, hr, hin⟩ := hp
    have hm' := hm
    simp only [meas, Bool.and_eq_true, decide_eq_true_eq] at hm'
    have hL := leftF_mem v.length 0 l hr (fun n hn => (hin n hn).1)
    have hLr := leftF_rising v.length 0 l hr (fun n hn => (hin n hn).1)
    have hLl := leftF_len v.length 0 l hr (fun n hn => by have := hin n hn; omega)
    have hLin : ∀ n ∈ leftF v.length 0 l, 0 ≤ n ∧ n < (v.length : Int) := fun n hn => by have := (hL n).1 hn; omega
    have hLc : checkP (v.length : Int) (leftF v.length 0 l) = 0 := placed_iff.2 ⟨hm, hLr, hLin⟩
    rw [if_neg h, Gather_eq l v (by omega) hr hin, bindS, Left_eq _ l (by omega) hc, bindS, Int.toNat_natCast]
    simp only
    generalize leftF v.length 0 l = L at *
    rw [Gather_eq L v (by omega) hLr hLin, bindS, Spread_eq _ l (l.map (at' v)) (by omega) hc (by simp), bindS, Spread_eq _ L (L.map (at' v)) (by omega) hLc (by simp), bindS, Int.toNat_natCast]
    simp only [orB]
    have e1 : IntKind.i64.wrap ((l.length : Int) + (L.length : Int)) = v.length := by rw [i64_in _ (by omega)]; omega
    rw [if_neg (by simp [e1, spreadG_len])]
    have hs0 : ∀ n : Int, 0 ≤ n → n < v.length → (at' (spreadG (List.replicate v.length 0) l (l.map (at' v))) n = at' v n ∧ at' (spreadG (List.replicate v.length 0) L (L.map (at' v))) n = 0) ∨
        (at' (spreadG (List.replicate v.length 0) l (l.map (at' v))) n = 0 ∧ at' (spreadG (List.replicate v.length 0) L (L.map (at' v))) n = at' v n) := by
      intro n h0 h1
      have g1 := spread_map (at' v) l (List.replicate v.length 0) (fun m hm => by simpa using hin m hm) n h0
      have g2 := spread_map (at' v) L (List.replicate v.length 0) (fun m hm => by simpa using hLin m hm) n h0
      rw [at'_rep (k := 0)] at g1 g2
      by_cases hn : n ∈ l
      · left
        rw [g1, g2, if_pos hn, if_neg (fun h => ((hL n).1 h).2.2 hn)]
        exact ⟨rfl, rfl⟩
      · right
        rw [g1, g2, if_neg hn, if_pos ((hL n).2 ⟨h0, by omega, hn⟩)]
        exact ⟨rfl, rfl⟩
    have hsl := Spreads_l0 l v w true (spreadG (List.replicate v.length 0) l (l.map (at' v)), 0) (spreadG (List.replicate v.length 0) L (L.map (at' v)), 0) (by omega) (by simp [spreadG_len]) (by simp [spreadG_len]) hi hs0 v 0 rfl
    rw [show ((0 : Nat) : Int) = 0 from rfl] at hsl
    rw [hsl]
    · rw [bindS]
      simp only
      by_cases hwl : (w.length : Int) < l.length
      · rw [if_pos hwl]
      · have hlen : (w.take l.length).length = l.length := by simp; omega
        have hco : cutOk none (some (l.length : Int)) w.length := by simp only [cutOk, Option.getD_some, Option.getD_none]; omega
        have hs : ∀ n ∈ l, 0 ≤ n ∧ n < ((spreadG (List.replicate v.length 0) l (w.take l.length)).length : Int) := fun n hn => by simpa [spreadG_len] using hin n hn
        rw [if_neg hwl, if_pos hco, cut_to, Int.toNat_natCast, bindS, Spread_eq _ l (w.take l.length) (by omega) hc (by omega), bindS, Int.toNat_natCast]
        simp only
        rw [Gather_eq l _ (by omega) hr hs, bindS, spread_back l _ _ hr (fun n hn => by simpa using hin n hn) (by omega)]
        have hsm := Same2_eq (w.take l.length) (w.take l.length) (by omega)
        simp [bindS, hco, hsm]
end Go.Proofs.Ytaghpancpfpnhaa.Abs
