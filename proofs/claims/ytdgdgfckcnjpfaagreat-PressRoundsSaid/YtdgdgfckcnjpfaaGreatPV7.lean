/- Plain facts: round by round, all that was sent and what is left are all that there was. Conditions: none. -/
import Derived.Test.YtdgdgfckcnjpfaaGreatPV6
namespace Go.Proofs.YtdgdgfckcnjpfaaGreat.Abs
open Go Go.RowKit Go.IntWalk
set_option linter.unusedVariables false
set_option linter.unusedSimpArgs false
set_option linter.unnecessarySimpa false
set_option maxRecDepth 100000

def wa (x y : Int) : Int := IntKind.i64.wrap (x + y)
theorem wa_step (s x v l : Int) : wa (wa s x) ((v + l) - x) = wa (wa s l) v := by unfold wa; simp only [IntKind.wrap_i64]; omega
theorem zip_step : ∀ (s x v l : List Int), s.length = x.length → s.length = v.length → s.length = l.length →
    List.zipWith wa (List.zipWith wa s x) (List.zipWith (· - ·) (List.zipWith (· + ·) v l) x) = List.zipWith wa (List.zipWith wa s l) v
  | [], x, v, l, h1, h2, h3 => by simp
  | a :: s, [], v, l, h1, h2, h3 => by simp at h1
  | a :: s, b :: x, [], l, h1, h2, h3 => by simp at h2
  | a :: s, b :: x, c :: v, [], h1, h2, h3 => by simp at h3
  | a :: s, b :: x, c :: v, d :: l, h1, h2, h3 => by
    simp only [List.zipWith_cons_cons, List.cons.injEq]
    exact ⟨wa_step a b c d, zip_step s x v l (by simpa using h1) (by simpa using h2) (by simpa using h3)⟩
theorem at_pre {pre r : List Int} {y : Int} {k : Nat} (h : pre.length = k) : at' (pre ++ y :: r) (k : Int) = y := by
  subst h; simp [at']
theorem r3_l0 (a0 : List T_api_How) (a1 : List (List Int)) (a2 : Int) (r1 : Bool) (x0 : Int) (r14 : Int × Int × (List Int) × (List Int) × Int × Int × (List Int) × (List Bool) × (List Int) × Int) (v x : List Int) (e : Int) (hv : at' a1 x0 = v) (hl : v.length ≤ 1000000) (hx : x.length = v.length) :
    ∀ (tv tx ra rs : List Int) (k : Nat) (pa ps : List Int), v.drop k = tv → x.drop k = tx → pa.length = k → ps.length = k → ra.length = tv.length → rs.length = tv.length →
      M_thrumlaw12_PressRounds_l3 a0 a1 a2 r1 x0 r14 (x, e) (k : Int) (pa ++ ra) (ps ++ rs) = some (pa ++ List.zipWith wa ra tv, ps ++ List.zipWith wa rs tx) := by
  intro tv
  induction tv with
  | nil =>
    intro tx ra rs k pa ps h1 h2 h3 h4 h5 h6
    have e1 : ra = [] := List.length_eq_zero_iff.1 (by simpa using h5)
    have e2 : rs = [] := List.length_eq_zero_iff.1 (by simpa using h6)
    rw [M_thrumlaw12_PressRounds_l3, hv, if_neg (drop_end h1), e1, e2]; simp
  | cons c tv ih =>
    intro tx ra rs k pa ps h1 h2 h3 h4 h5 h6
    have g1 := drop_at h1
    cases tx with
    | nil => have := List.drop_eq_nil_iff.1 h2; omega
    | cons b tx =>
    have g2 := drop_at h2
    cases ra with
    | nil => simp at h5
    | cons y ra =>
    cases rs with
    | nil => simp at h6
    | cons z rs =>
    rw [M_thrumlaw12_PressRounds_l3, hv, if_pos g1.1, if_pos (by simp; omega)]
    simp only
    rw [if_pos (by omega), if_pos (by simp; omega), at_pre h4, g2.2.1, set_at h4, bindS, if_pos (by simp; omega), if_pos (by omega), if_pos (by simp; omega), at_pre h3, g1.2.1, set_at h3, bindS, i64_s (by omega)]
    have := ih tx ra rs (k + 1) (pa ++ [wa y c]) (ps ++ [wa z b]) g1.2.2 g2.2.2 (by simp [h3]) (by simp [h4]) (by simpa using h5) (by simpa using h6)
    simp only [List.append_assoc, List.singleton_append] at this
    rw [show IntKind.i64.wrap (z + b) = wa z b from rfl, show IntKind.i64.wrap (y + c) = wa y c from rfl, this]; simp
/-- What is sent in a round, and what is left. -/
theorem round_ok {h : T_api_How} {g left : List Int} {seed : Int} {n : List Int} (hg : I64s g) (hl : I64s left) (he : (roundP h g left seed n).2.2 = 0) :
    Fits (roundP h g left seed n).1 ∧ (loosenP (roundP h g left seed n).1).2 = 0 ∧ g.length = left.length ∧ g.length ≤ 4096 ∧ (loosenP (roundP h g left seed n).1).1.length = g.length ∧ (roundP h g left seed n).2.1 = List.zipWith (· - ·) (List.zipWith (· + ·) g left) (loosenP (roundP h g left seed n).1).1 ∧ I64s (roundP h g left seed n).2.1 := by
  have hJ : I64s (vecP (· + ·) g left).1 := vecP_I64s
  rw [roundP] at *
  by_cases h1 : (vecP (· + ·) g left).2 ≠ 0
  · rw [if_pos h1] at he; exact absurd he h1
  rw [if_neg h1] at *
  by_cases h2 : (pressP h (vecP (· + ·) g left).1 seed n).2 ≠ 0
  · rw [if_pos h2] at he; exact absurd he h2
  rw [if_neg h2] at *
  by_cases h3 : (leftP (vecP (· + ·) g left).1 (pressP h (vecP (· + ·) g left).1 seed n).1).2 ≠ 0
  · rw [if_pos h3] at he; exact absurd he h3
  rw [if_neg h3] at *
  obtain ⟨a1, a2, a3, a4⟩ := vecP_ok (op := (· + ·)) (a := g) (b := left) (by simpa using h1)
  simp only
  have hF := press_fits (h := h) (seed := seed) (n := n) hJ
  rw [leftP] at *
  by_cases h4 : (loosenP (pressP h (vecP (· + ·) g left).1 seed n).1).2 ≠ 0
  · rw [if_pos h4] at h3; exact absurd h4 (by simpa using h3)
  rw [if_neg h4] at *
  obtain ⟨b1, b2, b3, b4⟩ := vecP_ok (op := (· - ·)) (a := (vecP (· + ·) g left).1) (b := (loosenP (pressP h (vecP (· + ·) g left).1 seed n).1).1) (by simpa using h3)
  have hlen : (vecP (· + ·) g left).1.length = g.length := by rw [a3, List.length_zipWith]; omega
  refine ⟨hF, by simpa using h4, a1, a2, by omega, ?_, ?_⟩
  · rw [b3]; congr 1
  · rw [b3]; exact b4
theorem r2_l0 (a0 : List T_api_How) (a1 : List (List Int)) (a2 : Int) (L : Nat) (h1 : ∀ v ∈ a1, v.length = L ∧ I64s v) (hl : a1.length ≤ 1000000) (h0 : a0.length ≤ 10000000000000) (hL : L ≤ 1000000) : ∀ (t : List (List Int)) (k : Nat) (all sent left : List Int), a1.drop k = t → all.length = L → sent.length = L → left.length = L → I64s left → List.zipWith wa sent left = all →
    ∃ e, M_thrumlaw12_PressRounds_l2 a0 a1 a2 true (k : Int) all sent left = some e ∧ (e = .inl true ∨ ∃ A S R, e = .inr (A, S, R) ∧ A.length = L ∧ S.length = L ∧ R.length = L ∧ List.zipWith wa S R = A)
  | [], k, all, sent, left, g, b1, b2, b3, b4, b5 => ⟨_, by rw [M_thrumlaw12_PressRounds_l2, if_neg (drop_end g)], .inr ⟨all, sent, left, rfl, b1, b2, b3, b5⟩⟩
  | v :: t, k, all, sent, left, g, b1, b2, b3, b4, b5 => by
    have g1 := drop_at g
    have hv : v ∈ a1 := by
      have : v ∈ a1.drop k := by rw [g]; simp
      exact List.mem_of_mem_drop this
    obtain ⟨hvL, hvJ⟩ := h1 v hv
    obtain ⟨q, hq⟩ : ∃ q : T_api_How, ((if (k : Int) < (a0.length : Int) then if 0 ≤ (k : Int) ∧ (k : Int) < (a0.length : Int) then some ((at' a0 (k : Int)).F_Scheme, (at' a0 (k : Int)).F_K, (at' a0 (k : Int)).F_Wide) else none else some (0, 0, 0)) : Option (Int × Int × Int)) = some (q.F_Scheme, q.F_K, q.F_Wide) := by
      by_cases c : (k : Int) < (a0.length : Int)
      · exact ⟨at' a0 (k : Int), by rw [if_pos c, if_pos (by omega)]⟩
      · exact ⟨⟨0, 0, 0⟩, by rw [if_neg c]⟩
    rw [M_thrumlaw12_PressRounds_l2, if_pos g1.1, if_pos (by omega), hq, bindS, g1.2.1]
    simp only
    rw [Round_eq hvJ b4 (by simp), bindS, show (roundT (roundP q v left a2 [3, (k : Int)])).2.2.2.2.2.2.2.2.2 = (roundP q v left a2 [3, (k : Int)]).2.2 from rfl]
    by_cases he : (roundP q v left a2 [3, (k : Int)]).2.2 ≠ 0
    · rw [if_pos he]; exact ⟨_, rfl, .inl rfl⟩
    obtain ⟨c1, c2, c3, c4, c5, c6, c7⟩ := round_ok (h := q) (seed := a2) (n := [3, (k : Int)]) hvJ b4 (by simpa using he)
    have hT : (⟨(roundT (roundP q v left a2 [3, (k : Int)])).1, (roundT (roundP q v left a2 [3, (k : Int)])).2.1, (roundT (roundP q v left a2 [3, (k : Int)])).2.2.1, (roundT (roundP q v left a2 [3, (k : Int)])).2.2.2.1, (roundT (roundP q v left a2 [3, (k : Int)])).2.2.2.2.1, (roundT (roundP q v left a2 [3, (k : Int)])).2.2.2.2.2.1, (roundT (roundP q v left a2 [3, (k : Int)])).2.2.2.2.2.2.1, (roundT (roundP q v left a2 [3, (k : Int)])).2.2.2.2.2.2.2.1⟩ : T_api_Sent) = (roundP q v left a2 [3, (k : Int)]).1 := rfl
    have hR : (roundT (roundP q v left a2 [3, (k : Int)])).2.2.2.2.2.2.2.2.1 = (roundP q v left a2 [3, (k : Int)]).2.1 := rfl
    rw [if_neg he, hT, Loosen_eq c1, bindS, orB, orB, hR]
    have hlr : (roundP q v left a2 [3, (k : Int)]).2.1.length = v.length := by rw [c6]; simp only [List.length_zipWith]; omega
    rw [show (decide ((decide ((loosenP (roundP q v left a2 [3, (k : Int)]).1).2 ≠ 0) || (((loosenP (roundP q v left a2 [3, (k : Int)]).1).1.length : Int) != (v.length : Int))) = true) || (((roundP q v left a2 [3, (k : Int)]).2.1.length : Int) != (v.length : Int))) = false by simp [c2, c5, hlr], if_neg Bool.false_ne_true]
    have h3 := r3_l0 a0 a1 a2 true (k : Int) (roundT (roundP q v left a2 [3, (k : Int)])) v (loosenP (roundP q v left a2 [3, (k : Int)]).1).1 (loosenP (roundP q v left a2 [3, (k : Int)]).1).2 g1.2.1 (by omega) c5 v (loosenP (roundP q v left a2 [3, (k : Int)]).1).1 all sent 0 [] [] rfl rfl rfl rfl (by omega) (by omega)
    rw [show ((0 : Nat) : Int) = 0 from rfl] at h3
    simp only [List.nil_append] at h3
    rw [h3, bindS, i64_s (by omega)]
    simp only
    exact r2_l0 a0 a1 a2 L h1 hl h0 hL t (k + 1) _ _ _ g1.2.2 (by simp only [List.length_zipWith]; omega) (by simp only [List.length_zipWith]; omega) (by omega) c7 (by rw [c6, zip_step _ _ _ _ (by omega) (by omega) (by omega), b5])
theorem r4_l0 (A S R : List Int) (hl : A.length ≤ 1000000) (h1 : S.length = A.length) (h2 : R.length = A.length) : ∀ (t u w : List Int) (k : Nat), A.drop k = t → S.drop k = u → R.drop k = w → List.zipWith wa u w = t → M_thrumlaw12_PressRounds_l4 true (A, S, R) (k : Int) = some (.inr ())
  | [], u, w, k, g1, g2, g3, g4 => by rw [M_thrumlaw12_PressRounds_l4, if_neg (drop_end g1)]
  | x :: t, [], w, k, g1, g2, g3, g4 => by simp at g4
  | x :: t, y :: u, [], k, g1, g2, g3, g4 => by simp at g4
  | x :: t, y :: u, z :: w, k, g1, g2, g3, g4 => by
    have d1 := drop_at g1
    have d2 := drop_at g2
    have d3 := drop_at g3
    simp only [List.zipWith_cons_cons, List.cons.injEq] at g4
    rw [M_thrumlaw12_PressRounds_l4]
    simp only
    rw [if_pos d1.1, if_pos (by omega), if_pos (by omega), if_pos (by omega), d1.2.1, d2.2.1, d3.2.1, if_neg (by rw [show IntKind.i64.wrap (y + z) = wa y z from rfl, g4.1]; simp), i64_s (by omega)]
    exact r4_l0 A S R hl h1 h2 t u w (k + 1) d1.2.2 d2.2.2 d3.2.2 g4.2
theorem r1_l0 (a0 : List T_api_How) (a1 : List (List Int)) (a2 : Int) (x0 : Int) (v : List Int) (hv : at' a1 x0 = v) (hl : v.length ≤ 1000000) : ∀ (t : List Int) (k : Nat), v.drop k = t → ∃ e, M_thrumlaw12_PressRounds_l1 a0 a1 a2 true x0 (k : Int) = some e ∧ (e = .inl true ∨ e = .inr ())
  | [], k, h1 => ⟨_, by rw [M_thrumlaw12_PressRounds_l1, hv, if_neg (drop_end h1)], .inr rfl⟩
  | x :: t, k, h1 => by
    have g1 := drop_at h1
    rw [M_thrumlaw12_PressRounds_l1, hv, if_pos g1.1, if_pos (by omega), g1.2.1, orB]
    by_cases hc : (decide (x > 1099511627776) || decide (x < -1099511627776)) = true
    · rw [if_pos hc]; exact ⟨_, rfl, .inl rfl⟩
    · rw [if_neg hc, i64_s (by omega)]
      exact r1_l0 a0 a1 a2 x0 v hv hl t (k + 1) g1.2.2
theorem r0_l0 (a0 : List T_api_How) (a1 : List (List Int)) (a2 : Int) (hl : a1.length ≤ 1000000) (h0 : 0 < a1.length) (hv : ∀ v ∈ a1, v.length ≤ 1000000) : ∀ (t : List (List Int)) (k : Nat), a1.drop k = t → ∃ e, M_thrumlaw12_PressRounds_l0 a0 a1 a2 true (k : Int) = some e ∧ (e = .inl true ∨ e = .inr () ∧ ∀ v ∈ t, v.length = (at' a1 0).length)
  | [], k, h1 => ⟨_, by rw [M_thrumlaw12_PressRounds_l0, if_neg (drop_end h1)], .inr ⟨rfl, by simp⟩⟩
  | x :: t, k, h1 => by
    have g1 := drop_at h1
    have hx : x ∈ a1 := by
      have : x ∈ a1.drop k := by rw [h1]; simp
      exact List.mem_of_mem_drop this
    rw [M_thrumlaw12_PressRounds_l0, if_pos g1.1, if_pos (by omega), if_pos (by omega), g1.2.1]
    by_cases hc : (x.length : Int) ≠ ((at' a1 0).length : Int)
    · rw [if_pos hc]; exact ⟨_, rfl, .inl rfl⟩
    rw [if_neg hc]
    obtain ⟨e, h2, h3⟩ := r1_l0 a0 a1 a2 (k : Int) x g1.2.1 (hv x hx) x 0 rfl
    rw [show ((0 : Nat) : Int) = 0 from rfl] at h2
    rw [h2, bindS]
    rcases h3 with rfl | rfl
    · exact ⟨_, rfl, .inl rfl⟩
    · obtain ⟨e, h4, h5⟩ := r0_l0 a0 a1 a2 hl h0 hv t (k + 1) g1.2.2
      simp only
      rw [i64_s (by omega)]
      refine ⟨e, h4, ?_⟩
      rcases h5 with h5 | ⟨h5, h6⟩
      · exact .inl h5
      · refine .inr ⟨h5, fun v hv => ?_⟩
        rcases List.mem_cons.1 hv with rfl | hv
        · omega
        · exact h6 v hv

theorem PressRounds_true (l : List T_api_How) (g : List (List Int)) (seed : Int) (hl : l.length ≤ 10000000000000) (hgl : g.length ≤ 10000000000000) (hg : ∀ v ∈ g, I64s v) : M_thrumlaw12_PressRounds l g seed = some true := by
  obtain ⟨b, hb1, hb2⟩ := few12_eq [] g hgl
  rw [M_thrumlaw12_PressRounds, live12_eq, bindS, if_neg (by simp), hb1, bindS, orB]
  by_cases hc : (decide (b = false) || ((g.length : Int) == 0)) = true
  · rw [if_pos hc]
  rw [if_neg hc]
  have hbt : b = true := by cases b <;> simp at hc ⊢
  obtain ⟨_, hf2, hf3⟩ := hb2 hbt
  have hpos : 0 < g.length := by
    rcases Nat.eq_zero_or_pos g.length with h | h
    · simp [h] at hc
    · exact h
  obtain ⟨e, h2, h3⟩ := r0_l0 l g seed (by omega) hpos (fun v hv => by have := hf3 v hv; omega) g 0 rfl
  rw [show ((0 : Nat) : Int) = 0 from rfl] at h2
  rw [h2, bindS]
  rcases h3 with rfl | ⟨rfl, h4⟩
  · rfl
  simp only
  have h0 : at' g 0 ∈ g := by
    cases g with
    | nil => simp at hpos
    | cons x t => rw [drop_at0]; simp
  have hL := hf3 _ h0
  rw [if_pos (by omega), if_pos (by omega), bindS, if_pos (by omega), if_pos (by omega), bindS, if_pos (by omega), if_pos (by omega), bindS, Int.toNat_natCast]
  have hz : List.zipWith wa (List.replicate (at' g 0).length 0) (List.replicate (at' g 0).length 0) = List.replicate (at' g 0).length 0 := by
    rw [List.zipWith_replicate]; simp [wa]; exact .inr (i64_in _ (by omega))
  obtain ⟨e, h5, h6⟩ := r2_l0 l g seed (at' g 0).length (fun v hv => ⟨h4 v hv, hg v hv⟩) (by omega) hl (by omega) g 0 (List.replicate (at' g 0).length 0) (List.replicate (at' g 0).length 0) (List.replicate (at' g 0).length 0) rfl (by simp) (by simp) (by simp) (fun n hn => by rw [(List.mem_replicate.1 hn).2]; omega) hz
  rw [show ((0 : Nat) : Int) = 0 from rfl] at h5
  rw [h5, bindS]
  rcases h6 with rfl | ⟨A, S, R, rfl, k1, k2, k3, k4⟩
  · rfl
  · have := r4_l0 A S R (by omega) (by omega) (by omega) A S R 0 rfl rfl rfl k4
    rw [show ((0 : Nat) : Int) = 0 from rfl] at this
    simp only
    rw [this]
    rfl
end Go.Proofs.YtdgdgfckcnjpfaaGreat.Abs
