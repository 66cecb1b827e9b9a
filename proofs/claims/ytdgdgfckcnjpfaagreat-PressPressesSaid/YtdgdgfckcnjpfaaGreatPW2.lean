/- Plain facts: the document presses and loosens likewise. Conditions: none. -/
import Derived.Test.YtdgdgfckcnjpfaaGreatPW1
import Derived.Test.YtdgdgfckcnjpfaaGreatPH10
import Derived.Test.YtdgdgfckcnjpfaaGreatPV6
namespace Go.Proofs.YtdgdgfckcnjpfaaGreat.Abs
open Go Go.RowKit Go.IntWalk
set_option linter.unusedVariables false
set_option linter.unusedSimpArgs false
set_option linter.unnecessarySimpa false
set_option maxRecDepth 100000

theorem r12Check_eq (h : T_api_How) (d : Int) : M_thrumref12_Check h d = some (if wayOk h d then 0 else 1) := by
  obtain ⟨s, k, w⟩ := h
  have hb : ∀ b : Bool, (if b = false then some 1 else some 0 : Option Int) = some (if b then 0 else 1) := fun b => by cases b <;> rfl
  rw [M_thrumref12_Check]
  simp only [orB, andB, bindS, hb]
  unfold wayOk
  by_cases c0 : s = 0
  · subst c0
    by_cases h1 : 1 ≤ d ∧ d ≤ 4096 <;> by_cases h2 : k = 0 <;> by_cases h3 : w = 0 <;> simp [h1, h2, h3] <;> omega
  by_cases c1 : s = 1
  · subst c1
    by_cases h1 : 1 ≤ d ∧ d ≤ 4096 <;> by_cases h2 : 0 ≤ k ∧ k ≤ d <;> by_cases h3 : w = 0 <;> simp [h1, h2, h3] <;> omega
  by_cases c2 : s = 2
  · subst c2
    by_cases h1 : 1 ≤ d ∧ d ≤ 4096 <;> by_cases h2 : k = 0 <;> by_cases h3 : 0 < w ∧ w ≤ 8 <;> simp [h1, h2, h3] <;> omega
  by_cases c3 : s = 3
  · subst c3
    by_cases h1 : 1 ≤ d ∧ d ≤ 4096 <;> by_cases h2 : k = 0 <;> by_cases h3 : w = 0 <;> simp [h1, h2, h3] <;> omega
  · simp [c0, c1, c2, c3]
theorem r12Press_eq {h : T_api_How} {v : List Int} {seed : Int} {n : List Int} (hi : I64s v) (hn : n.length ≤ 100000) (hv : v.length ≤ 600 ∨ 4096 < v.length ∧ v.length ≤ 5000) : M_thrumref12_Press h v seed n = some (sentT (pressP h v seed n)) := by
  rw [M_thrumref12_Press, pressP]
  by_cases h4 : 4096 < v.length
  · rw [if_pos (by omega), if_pos h4]; rfl
  rw [if_neg (by omega), if_neg h4, r12Check_eq, bindS]
  by_cases hw : wayOk h (v.length : Int)
  · have hw' : ¬ ¬ wayOk h (v.length : Int) := fun x => x hw
    rw [if_neg hw', if_pos hw, if_neg (by simp)]
    obtain ⟨hd, hw⟩ := hw
    by_cases c1 : h.F_Scheme = 1
    · have n0 : ¬ h.F_Scheme = 0 := by omega
      have hk : 0 ≤ h.F_K ∧ h.F_K ≤ (v.length : Int) := by omega
      have hT := topk_Press_eq h.F_K.toNat v (by omega) (by omega) (by omega)
      rw [Int.toNat_of_nonneg hk.1] at hT
      obtain ⟨r, e1, e2⟩ := refPress_eq h.F_K v hi hv
      rw [hT] at e1
      injection e1 with e1
      rw [if_pos c1, if_neg n0, if_pos c1, e2, ← e1]; rfl
    rw [if_neg c1]
    by_cases c2 : h.F_Scheme = 2
    · have n0 : ¬ h.F_Scheme = 0 := by omega
      have hnn : ¬ (¬ (1 ≤ h.F_Wide ∧ h.F_Wide ≤ 8) ∨ v.length = 0) := by omega
      rw [if_pos c2, if_neg n0, if_neg c1, if_pos c2, r10Press_eq hi hn, bindS, qpressP, if_neg hnn]
      by_cases he : (mostV v).2 ≠ 0
      · rw [if_pos he, if_pos he]; rfl
      · rw [if_neg he, if_neg he]; rfl
    rw [if_neg c2]
    by_cases c3 : h.F_Scheme = 3
    · have n0 : ¬ h.F_Scheme = 0 := by omega
      rw [if_pos c3, if_neg n0, if_neg c1, if_neg c2, r11Press_eq hi (by omega), bindS, spressP]
      by_cases he : (meanV v).2 ≠ 0
      · rw [if_pos he, if_pos he]; rfl
      · rw [if_neg he, if_neg he]; rfl
    · have c0 : h.F_Scheme = 0 := by omega
      rw [if_neg c3, if_pos c0, if_pos (room8 (by omega))]; rfl
  · rw [if_neg hw, if_pos (by simp), if_pos hw]; rfl

theorem r10Loosen_l0 (s : T_api_Sent) (hf : Fits s) (hm : MayS s) (h2 : s.F_Scheme = 2) : ∀ (t : List Int) (u : List Bool) (k : Nat) (acc : List Int), s.F_Lev.drop k = t → s.F_Neg.drop k = u → acc.length ≤ k →
    M_thrumref10_Loosen_l0 s (k : Int) acc = some (acc ++ List.zipWith (valQ s.F_Scale s.F_Wide) t u) := by
  have hM : 0 < s.F_Wide ∧ s.F_Wide ≤ 8 ∧ s.F_Lev.length = s.F_Neg.length ∧ 0 ≤ s.F_Scale ∧ s.F_Lev.length ≤ 4096 ∧ ∀ n ∈ s.F_Lev, n.toNat < 2 ^ s.F_Wide.toNat := by
    rcases hm with ⟨d0, d1, h, v, z⟩ | ⟨d0, d1, h, c, v, z⟩ | ⟨d0, d1, h, w0, w1, l, x, c, n, z⟩ | ⟨d0, d1, h, c, n, z⟩
    · omega
    · omega
    · exact ⟨w0, w1, by omega, c, by omega, x⟩
    · omega
  obtain ⟨w0, w1, hl, c0, l4, hx⟩ := hM
  intro t
  induction t with
  | nil => intro u k acc h1 h3 h4; rw [M_thrumref10_Loosen_l0, if_neg (drop_end h1)]; simp
  | cons x t ih =>
    intro u k acc h1 h3 h4
    have g1 := drop_at h1
    have hx' : x ∈ s.F_Lev := by
      have : x ∈ s.F_Lev.drop k := by rw [h1]; simp
      exact List.mem_of_mem_drop this
    cases u with
    | nil =>
      have := List.drop_eq_nil_iff.1 h3
      omega
    | cons b u =>
      have g2 := drop_at h3
      have hu := hf.S.u x hx'
      have hle := (stepsP_lt (w := s.F_Wide) (by omega) hu.1).1 (hx x hx')
      have hv := val_le (w := s.F_Wide) (m := s.F_Scale) (l := x) (by omega) c0 hle
      have hsc := hf.Sc
      have e : valueP x s.F_Scale s.F_Wide = (((s.F_Scale.toNat * x.toNat / stepsP s.F_Wide : Nat) : Int), 0) := by rw [valueP, if_pos ⟨by omega, c0, hle⟩]
      rw [M_thrumref10_Loosen_l0, if_pos g1.1, if_pos (by omega), g1.2.1, rValue_eq hu hsc, bindS, if_pos (by omega), g2.2.1, i64_s (by omega)]
      cases b with
      | true =>
        have e2 : IntKind.i64.wrap (0 - (valueP x s.F_Scale s.F_Wide).1) = valQ s.F_Scale s.F_Wide x true := by
          rw [valQ, if_pos rfl]
          refine J64_wrap ?_
          rw [e]
          generalize s.F_Scale.toNat * x.toNat / stepsP s.F_Wide = z at hv ⊢
          unfold J64 at *; simp only; omega
        rw [if_pos rfl, if_pos (room8 (by simp; omega)), bindS, e2, ih u (k + 1) _ g1.2.2 g2.2.2 (by simp; omega)]; simp
      | false =>
        have e2 : (valueP x s.F_Scale s.F_Wide).1 = valQ s.F_Scale s.F_Wide x false := by rw [valQ, if_neg (by simp)]
        rw [if_neg (by simp), if_pos (room8 (by simp; omega)), e2, ih u (k + 1) _ g1.2.2 g2.2.2 (by simp; omega)]; simp
theorem r11Loosen_l0 (s : T_api_Sent) (hl : s.F_Neg.length ≤ 1000000) (hm : 0 ≤ s.F_Scale) (hj : J64 s.F_Scale) : ∀ (t : List Bool) (k : Nat) (acc : List Int), s.F_Neg.drop k = t → acc.length ≤ k →
    M_thrumref11_Loosen_l0 s (k : Int) acc = some (acc ++ t.map (negIf s.F_Scale))
  | [], k, acc, h1, h2 => by rw [M_thrumref11_Loosen_l0, if_neg (drop_end h1)]; simp
  | x :: t, k, acc, h1, h2 => by
    have g1 := drop_at h1
    rw [M_thrumref11_Loosen_l0, if_pos g1.1, if_pos (by omega), g1.2.1, i64_s (by omega)]
    cases x with
    | true =>
      have e : IntKind.i64.wrap (0 - s.F_Scale) = negIf s.F_Scale true := by rw [J64_wrap (by unfold J64 at *; omega)]; rfl
      rw [if_pos rfl, if_pos (room8 (by simp; omega)), bindS, e, r11Loosen_l0 s hl hm hj t (k + 1) _ g1.2.2 (by simp; omega)]; simp
    | false =>
      rw [if_neg (by simp), if_pos (room8 (by simp; omega)), r11Loosen_l0 s hl hm hj t (k + 1) _ g1.2.2 (by simp; omega)]; simp [negIf]
theorem r12Spread_l0 (s : T_api_Sent) (hl : s.F_L.length ≤ 4611686018427387904) (he : s.F_L.length = s.F_V.length) (D : Int) (hv : ∀ n ∈ s.F_L, 0 ≤ n ∧ n < D) : ∀ (t u : List Int) (k : Nat) (out : List Int), s.F_L.drop k = t → s.F_V.drop k = u → (out.length : Int) = D → M_thrumref12_Loosen_l0 s (k : Int) out = some (spreadG out t u)
  | [], u, k, out, h1, h2, h3 => by
    have : u = [] := by
      have := List.drop_eq_nil_iff.1 h1
      rw [← h2]; exact List.drop_eq_nil_of_le (by omega)
    rw [M_thrumref12_Loosen_l0, if_neg (drop_end h1), this]; rfl
  | x :: t, [], k, out, h1, h2, h3 => by
    have := List.drop_eq_nil_iff.1 h2
    have := (drop_at h1).1
    omega
  | x :: t, y :: u, k, out, h1, h2, h3 => by
    have g1 := drop_at h1
    have g2 := drop_at h2
    have hx : x ∈ s.F_L := by
      have : x ∈ s.F_L.drop k := by rw [h1]; simp
      exact List.mem_of_mem_drop this
    have := hv x hx
    rw [M_thrumref12_Loosen_l0, if_pos g1.1, if_pos (by omega), if_pos (by omega), g1.2.1, if_pos (by omega), g2.2.1, bindS, i64_s (by omega), r12Spread_l0 s hl he D hv t u (k + 1) _ g1.2.2 g2.2.2 (by simpa using h3)]
    rfl
theorem r12Loosen_eq {s : T_api_Sent} (hf : Fits s) : M_thrumref12_Loosen s = some (loosenP s) := by
  rw [M_thrumref12_Loosen, refMay_eq hf.S, bindS, loosenP]
  cases hmp : mayP s with
  | false => rw [if_pos rfl]; rfl
  | true =>
  have hm := may_iff.1 hmp
  rw [if_neg (by simp), loosenS, if_pos rfl]
  rcases hm with ⟨d0, d1, h, v, z⟩ | ⟨d0, d1, h, c, v, z⟩ | ⟨d0, d1, h, w0, w1, l, x, c, n, z⟩ | ⟨d0, d1, h, c, n, z⟩
  · have n1 : ¬ s.F_Scheme = 1 := by omega
    have n2 : ¬ s.F_Scheme = 2 := by omega
    have n3 : ¬ s.F_Scheme = 3 := by omega
    rw [if_neg n1, if_neg n2, if_neg n3, if_pos h, if_pos (room8 (by omega))]
  · have n0 : ¬ s.F_Scheme = 0 := by omega
    obtain ⟨p1, p2, p3⟩ := placed_iff.1 c
    have hS := r12Spread_l0 s hf.S.L v s.F_Dim p3 s.F_L s.F_V 0 (List.replicate s.F_Dim.toNat 0) rfl rfl (by simp; omega)
    rw [show ((0 : Nat) : Int) = 0 from rfl] at hS
    rw [if_pos h, if_neg n0, if_pos h, if_pos (by omega), bindS, hS]; rfl
  · have n0 : ¬ s.F_Scheme = 0 := by omega
    have n1 : ¬ s.F_Scheme = 1 := by omega
    have hL := r10Loosen_l0 s hf (.level d0 d1 h w0 w1 l x c n z) h s.F_Lev s.F_Neg 0 [] rfl rfl (by simp)
    rw [show ((0 : Nat) : Int) = 0 from rfl] at hL
    simp only [List.nil_append] at hL
    rw [if_neg n1, if_pos h, if_neg n0, if_neg n1, if_pos h, M_thrumref10_Loosen, refMay_eq hf.S, bindS, hmp, orB]
    rw [show (decide (true = false) || (s.F_Scheme != 2)) = false by simp [h], if_neg Bool.false_ne_true, hL]
    rfl
  · have n0 : ¬ s.F_Scheme = 0 := by omega
    have n1 : ¬ s.F_Scheme = 1 := by omega
    have n2 : ¬ s.F_Scheme = 2 := by omega
    have hL := r11Loosen_l0 s (by omega) c hf.Sc s.F_Neg 0 [] rfl (by simp)
    rw [show ((0 : Nat) : Int) = 0 from rfl] at hL
    simp only [List.nil_append] at hL
    rw [if_neg n1, if_neg n2, if_pos h, if_neg n0, if_neg n1, if_neg n2, M_thrumref11_Loosen, refMay_eq hf.S, bindS, hmp, orB]
    rw [show (decide (true = false) || (s.F_Scheme != 3)) = false by simp [h], if_neg Bool.false_ne_true, hL]
    rfl
theorem r12Left_eq {v : List Int} {s : T_api_Sent} (hi : I64s v) (hf : Fits s) : M_thrumref12_Left v s = some (leftP v s) := by
  rw [M_thrumref12_Left, r12Loosen_eq hf, bindS, leftP]
  by_cases h : (loosenP s).2 ≠ 0
  · rw [if_pos h, if_pos h]
  · rw [if_neg h, if_neg h, r2Sub_eq hi (loosen_J hf)]; rfl
theorem vecP_len {op : Int → Int → Int} {a b : List Int} : (vecP op a b).1.length ≤ a.length := by
  unfold vecP zipOv
  repeat' split
  all_goals simp only [List.length_nil, List.length_zipWith]
  all_goals omega
theorem r12Round_eq {h : T_api_How} {g left : List Int} {seed : Int} {n : List Int} (hg : I64s g) (hl : I64s left) (hn : n.length ≤ 100000) (hv : g.length ≤ 600 ∨ 4096 < g.length ∧ g.length ≤ 5000) : M_thrumref12_Round h g left seed n = some (roundT (roundP h g left seed n)) := by
  have hJ : I64s (vecP (· + ·) g left).1 := vecP_I64s
  rw [M_thrumref12_Round, r2Add_eq hg hl, bindS, roundP]
  by_cases h1 : (vecP (· + ·) g left).2 ≠ 0
  · rw [if_pos h1, if_pos h1]; rfl
  have hle := vecP_len (op := (· + ·)) (a := g) (b := left)
  have ho := vecP_ok (op := (· + ·)) (a := g) (b := left) (by simpa using h1)
  rw [if_neg h1, if_neg h1, r12Press_eq hJ hn (by omega), bindS, show (sentT (pressP h (vecP (· + ·) g left).1 seed n)).2.2.2.2.2.2.2.2 = (pressP h (vecP (· + ·) g left).1 seed n).2 from rfl]
  by_cases h2 : (pressP h (vecP (· + ·) g left).1 seed n).2 ≠ 0
  · rw [if_pos h2, if_pos h2]; rfl
  have hL := r12Left_eq (v := (vecP (· + ·) g left).1) (s := (pressP h (vecP (· + ·) g left).1 seed n).1) hJ (press_fits hJ)
  rw [if_neg h2, if_neg h2, show (⟨(sentT (pressP h (vecP (· + ·) g left).1 seed n)).1, (sentT (pressP h (vecP (· + ·) g left).1 seed n)).2.1, (sentT (pressP h (vecP (· + ·) g left).1 seed n)).2.2.1, (sentT (pressP h (vecP (· + ·) g left).1 seed n)).2.2.2.1, (sentT (pressP h (vecP (· + ·) g left).1 seed n)).2.2.2.2.1, (sentT (pressP h (vecP (· + ·) g left).1 seed n)).2.2.2.2.2.1, (sentT (pressP h (vecP (· + ·) g left).1 seed n)).2.2.2.2.2.2.1, (sentT (pressP h (vecP (· + ·) g left).1 seed n)).2.2.2.2.2.2.2.1⟩ : T_api_Sent) = (pressP h (vecP (· + ·) g left).1 seed n).1 from rfl, hL, bindS]
  by_cases h3 : (leftP (vecP (· + ·) g left).1 (pressP h (vecP (· + ·) g left).1 seed n).1).2 ≠ 0
  · rw [if_pos h3, if_pos h3]; rfl
  · rw [if_neg h3, if_neg h3]; rfl
end Go.Proofs.YtdgdgfckcnjpfaaGreat.Abs
