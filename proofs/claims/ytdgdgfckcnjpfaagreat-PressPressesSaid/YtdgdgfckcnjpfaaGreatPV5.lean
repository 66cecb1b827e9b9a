/- Plain facts: vectors pressed, and loosened. Conditions: none. -/
import Derived.Test.YtdgdgfckcnjpfaaGreatPV4
namespace Go.Proofs.YtdgdgfckcnjpfaaGreat.Abs
open Go Go.RowKit Go.IntWalk
set_option linter.unusedVariables false
set_option linter.unusedSimpArgs false
set_option linter.unnecessarySimpa false
set_option maxRecDepth 100000

/-- May a way be? -/
def wayOk (h : T_api_How) (dim : Int) : Prop := (1 ≤ dim ∧ dim ≤ 4096) ∧ ((h.F_Scheme = 0 ∧ h.F_K = 0 ∧ h.F_Wide = 0) ∨ (h.F_Scheme = 1 ∧ 0 ≤ h.F_K ∧ h.F_K ≤ dim ∧ h.F_Wide = 0) ∨ (h.F_Scheme = 2 ∧ h.F_K = 0 ∧ 0 < h.F_Wide ∧ h.F_Wide ≤ 8) ∨ (h.F_Scheme = 3 ∧ h.F_K = 0 ∧ h.F_Wide = 0))
instance (h : T_api_How) (dim : Int) : Decidable (wayOk h dim) := by unfold wayOk; infer_instance
theorem pCheck_eq (h : T_api_How) (d : Int) : M_press_Check h d = some (if wayOk h d then 0 else 1) := by
  obtain ⟨s, k, w⟩ := h
  have hb : ∀ b : Bool, (if b = true then some 1 else some 0 : Option Int) = some (if b then 1 else 0) := fun b => by cases b <;> rfl
  rw [M_press_Check, M_press_ways, bindS]
  by_cases c0 : s = 0
  · subst c0
    simp only [hasK, if_pos, M_press_bare, orB, andB, bindS, hb]
    unfold wayOk
    by_cases h1 : 1 ≤ d ∧ d ≤ 4096 <;> by_cases h2 : k = 0 <;> by_cases h3 : w = 0 <;> simp [h1, h2, h3] <;> omega
  by_cases c1 : s = 1
  · subst c1
    simp only [hasK, if_pos, M_press_ways_3, orB, andB, bindS, hb]
    unfold wayOk
    by_cases h1 : 1 ≤ d ∧ d ≤ 4096 <;> by_cases h2 : 0 ≤ k ∧ k ≤ d <;> by_cases h3 : w = 0 <;> simp [h1, h2, h3] <;> omega
  by_cases c2 : s = 2
  · subst c2
    simp only [hasK, if_pos, M_press_ways_7, orB, andB, bindS, hb]
    unfold wayOk
    by_cases h1 : 1 ≤ d ∧ d ≤ 4096 <;> by_cases h2 : k = 0 <;> by_cases h3 : 0 < w ∧ w ≤ 8 <;> simp [h1, h2, h3] <;> omega
  by_cases c3 : s = 3
  · subst c3
    simp only [hasK, if_pos, M_press_bare, orB, andB, bindS, hb]
    unfold wayOk
    by_cases h1 : 1 ≤ d ∧ d ≤ 4096 <;> by_cases h2 : k = 0 <;> by_cases h3 : w = 0 <;> simp [h1, h2, h3] <;> omega
  · simp only [c0, c1, c2, c3, hasK, if_neg, if_false, not_false_eq_true, if_true, orB, bindS]
    have hnw : ¬ wayOk (⟨s, k, w⟩ : T_api_How) d := by unfold wayOk; simp [c0, c1, c2, c3]
    rw [if_neg hnw]
    simp

/-- As it is given back. -/
def sentT (p : T_api_Sent × Int) : Int × Int × (List Int) × (List Int) × Int × Int × (List Int) × (List Bool) × Int := (p.1.F_Scheme, p.1.F_Dim, p.1.F_L, p.1.F_V, p.1.F_Scale, p.1.F_Wide, p.1.F_Lev, p.1.F_Neg, p.2)
/-- A vector pressed. -/
def pressP (h : T_api_How) (v : List Int) (seed : Int) (n : List Int) : T_api_Sent × Int :=
  if 4096 < v.length then (zeroS, 3) else if ¬ wayOk h (v.length : Int) then (zeroS, 1)
  else if h.F_Scheme = 0 then (⟨0, (v.length : Int), [], v, 0, 0, [], []⟩, 0)
  else if h.F_Scheme = 1 then (⟨1, (v.length : Int), pickP h.F_K.toNat v, (pickP h.F_K.toNat v).map (at' v), 0, 0, [], []⟩, 0)
  else if h.F_Scheme = 2 then (if (mostV v).2 ≠ 0 then (zeroS, (mostV v).2) else (⟨2, (v.length : Int), [], [], mostP v, h.F_Wide, levsG seed n (mostP v) h.F_Wide 0 v, v.map fun x => decide (x < 0)⟩, 0))
  else (if (meanV v).2 ≠ 0 then (zeroS, (meanV v).2) else (⟨3, (v.length : Int), [], [], (meanV v).1, 0, [], v.map fun x => decide (x < 0)⟩, 0))
theorem topk_Press_eq (k : Nat) (v : List Int) (hk : k ≤ v.length) (h0 : 0 < v.length) (hv : v.length ≤ 4096) : M_topk_Press (k : Int) v = some (1, (v.length : Int), pickP k v, (pickP k v).map (at' v), 0, 0, 0) := by
  obtain ⟨pk, lk⟩ := Pick_ok k v hk hv
  have hin : ∀ n ∈ pickP k v, 0 ≤ n ∧ n < (v.length : Int) := fun n hn => by obtain ⟨i, h1, rfl, _⟩ := (pick_mem k v n).1 hn; omega
  rw [M_topk_Press, if_neg (by omega), pk, bindS]
  simp only
  rw [if_neg (by simp), Gather_eq _ v (by omega) (pickP_rising k v) hin, bindS]
  simp only
  rw [if_neg (by simp)]
theorem Press_eq {h : T_api_How} {v : List Int} {seed : Int} {n : List Int} (hi : I64s v) (hn : n.length ≤ 100000) : M_press_Press h v seed n = some (sentT (pressP h v seed n)) := by
  rw [M_press_Press, Check_vec, bindS, pressP]
  by_cases h4 : 4096 < v.length
  · rw [if_pos h4, if_pos h4, if_neg (by simp), bindS, if_pos (by simp)]; rfl
  rw [if_neg h4, if_neg h4, if_pos rfl, pCheck_eq, bindS, bindS]
  by_cases hw : wayOk h (v.length : Int)
  · have hw' : ¬ ¬ wayOk h (v.length : Int) := fun x => x hw
    rw [if_neg hw', if_pos hw, if_neg (by simp), M_press_ways, bindS]
    obtain ⟨hd, hw⟩ := hw
    by_cases c0 : h.F_Scheme = 0
    · rw [if_pos c0, if_pos c0, M_press_dense, clone_i64 v (by omega)]; rfl
    rw [if_neg c0, if_neg c0]
    by_cases c1 : h.F_Scheme = 1
    · have hk : 0 ≤ h.F_K ∧ h.F_K ≤ (v.length : Int) := by omega
      have hT := topk_Press_eq h.F_K.toNat v (by omega) (by omega) (by omega)
      rw [Int.toNat_of_nonneg hk.1] at hT
      rw [if_pos c1, if_pos c1, M_press_ways_4, hT]; rfl
    rw [if_neg c1, if_neg c1]
    by_cases c2 : h.F_Scheme = 2
    · have hww : 1 ≤ h.F_Wide ∧ h.F_Wide ≤ 8 := by omega
      rw [if_pos c2, if_pos c2, M_press_ways_8, qPress_eq hi hn, bindS, bindS, qpressP, if_neg (by omega)]
      by_cases he : (mostV v).2 ≠ 0
      · rw [if_pos he, if_pos he]; rfl
      · rw [if_neg he, if_neg he]; rfl
    rw [if_neg c2, if_neg c2]
    have c3 : h.F_Scheme = 3 := by omega
    rw [if_pos c3, M_press_ways_10, sPress_eq hi (by omega), bindS, bindS, spressP]
    by_cases he : (meanV v).2 ≠ 0
    · rw [if_pos he, if_pos he]; rfl
    · rw [if_neg he, if_neg he]; rfl
  · rw [if_neg hw, if_pos (by simp), if_pos hw]; rfl

/-- What may be sent, as numbers go. -/
structure Fits (s : T_api_Sent) : Prop where
  S : FitS s
  V : I64s s.F_V
  Sc : J64 s.F_Scale
theorem zeroS_fits : Fits zeroS := ⟨⟨by simp [zeroS], by simp [zeroS], by simp [zeroS], by simp [zeroS], by simp [zeroS]⟩, fun n hn => by simp [zeroS] at hn, by simp [zeroS, J64]⟩
theorem press_fits {h : T_api_How} {v : List Int} {seed : Int} {n : List Int} (hi : I64s v) : Fits (pressP h v seed n).1 := by
  rw [pressP]
  by_cases h4 : 4096 < v.length
  · rw [if_pos h4]; exact zeroS_fits
  rw [if_neg h4]
  by_cases hw : wayOk h (v.length : Int)
  · have hw' : ¬ ¬ wayOk h (v.length : Int) := fun x => x hw
    rw [if_neg hw']
    obtain ⟨hd, hw⟩ := hw
    by_cases c0 : h.F_Scheme = 0
    · rw [if_pos c0]; exact ⟨⟨by simp, by simp only; omega, by simp, by simp, by simp⟩, hi, by simp [J64]⟩
    rw [if_neg c0]
    by_cases c1 : h.F_Scheme = 1
    · obtain ⟨pk, lk⟩ := Pick_ok h.F_K.toNat v (by omega) (by omega)
      rw [if_pos c1]
      refine ⟨⟨by simp only; omega, by simp only [List.length_map]; omega, by simp, by simp, by simp⟩, fun x hx => ?_, by simp [J64]⟩
      obtain ⟨y, hy, rfl⟩ := List.mem_map.1 hx
      exact at_I64 hi
    rw [if_neg c1]
    by_cases c2 : h.F_Scheme = 2
    · have hww : 1 ≤ h.F_Wide ∧ h.F_Wide ≤ 8 := by omega
      rw [if_pos c2]
      by_cases he : (mostV v).2 ≠ 0
      · rw [if_pos he]; exact zeroS_fits
      rw [if_neg he]
      obtain ⟨a1, a2, a3⟩ := mostV_ok (v := v) (by simpa using he)
      refine ⟨⟨by simp, by simp, by simp only [levsG_len]; omega, by simp only [List.length_map]; omega, fun x hx => ?_⟩, fun x hx => by simp at hx, mostP_J a3⟩
      have := levsG_in hww v 0 (fun x hx => mostP_le hx) x hx
      have := stepsP_in hww
      omega
    rw [if_neg c2]
    by_cases he : (meanV v).2 ≠ 0
    · rw [if_pos he]; exact zeroS_fits
    rw [if_neg he]
    have := meanV_in v
    exact ⟨⟨by simp, by simp, by simp, by simp only [List.length_map]; omega, by simp⟩, fun x hx => by simp at hx, by unfold J64; simp only; omega⟩
  · rw [if_pos hw]; exact zeroS_fits
theorem stepsP_lt {w : Int} (h : 1 ≤ w ∧ w ≤ 8) {x : Int} (hx : 0 ≤ x) : x.toNat < 2 ^ w.toNat ↔ x ≤ (stepsP w : Int) := by
  unfold stepsP
  have := Nat.two_pow_pos w.toNat
  omega
/-- A number of a level. -/
def valQ (m w : Int) (l : Int) (b : Bool) : Int := if b then 0 - (valueP l m w).1 else (valueP l m w).1
def negIf (m : Int) (b : Bool) : Int := if b then 0 - m else m
def loosenS (s : T_api_Sent) : List Int :=
  if s.F_Scheme = 0 then s.F_V else if s.F_Scheme = 1 then spreadG (List.replicate s.F_Dim.toNat 0) s.F_L s.F_V
  else if s.F_Scheme = 2 then List.zipWith (valQ s.F_Scale s.F_Wide) s.F_Lev s.F_Neg else s.F_Neg.map (negIf s.F_Scale)
/-- A vector loosened. -/
def loosenP (s : T_api_Sent) : List Int × Int := if mayP s then (loosenS s, 0) else ([], 1)
theorem valQ_J {m w l : Int} {b : Bool} (hw : 1 ≤ w ∧ w ≤ 8) (hm : 0 ≤ m) (hj : J64 m) : J64 (valQ m w l b) := by
  have h : 0 ≤ (valueP l m w).1 ∧ (valueP l m w).1 ≤ m := by
    unfold valueP
    split
    · rename_i hc; exact ⟨Int.natCast_nonneg _, val_le hw hm hc.2.2⟩
    · simp [hm]
  unfold valQ J64 at *
  split <;> omega
theorem qLoosen_l0 (s : T_api_Sent) (hf : Fits s) (hm : MayS s) (h2 : s.F_Scheme = 2) : ∀ (t : List Int) (u : List Bool) (k : Nat) (pre : List Int), s.F_Lev.drop k = t → s.F_Neg.drop k = u → pre.length = k →
    M_quant_Loosen_l0 s (k : Int) (pre ++ List.replicate t.length 0) = some (.inr (pre ++ List.zipWith (valQ s.F_Scale s.F_Wide) t u)) := by
  have hM : 0 < s.F_Wide ∧ s.F_Wide ≤ 8 ∧ s.F_Lev.length = s.F_Neg.length ∧ 0 ≤ s.F_Scale ∧ s.F_Lev.length ≤ 4096 ∧ ∀ n ∈ s.F_Lev, n.toNat < 2 ^ s.F_Wide.toNat := by
    rcases hm with ⟨d0, d1, h, v, z⟩ | ⟨d0, d1, h, c, v, z⟩ | ⟨d0, d1, h, w0, w1, l, x, c, n, z⟩ | ⟨d0, d1, h, c, n, z⟩
    · omega
    · omega
    · exact ⟨w0, w1, by omega, c, by omega, x⟩
    · omega
  obtain ⟨w0, w1, hl, c0, l4, hx⟩ := hM
  intro t
  induction t with
  | nil => intro u k pre h1 h3 h4; rw [M_quant_Loosen_l0, if_neg (drop_end h1)]; simp
  | cons x t ih =>
    intro u k pre h1 h3 h4
    have g1 := drop_at h1
    have hx' : x ∈ s.F_Lev := by
      have : x ∈ s.F_Lev.drop k := by rw [h1]; simp
      exact List.mem_of_mem_drop this
    cases u with
    | nil =>
      have := List.drop_eq_nil_iff.1 h3
      omega
    | cons b u =>
      have g2 := drop_at h3
      have hu := hf.S.u x hx'
      have hle := (stepsP_lt (w := s.F_Wide) (by omega) hu.1).1 (hx x hx')
      have hv := val_le (w := s.F_Wide) (m := s.F_Scale) (l := x) (by omega) c0 hle
      have hsc := hf.Sc
      have e : valueP x s.F_Scale s.F_Wide = (((s.F_Scale.toNat * x.toNat / stepsP s.F_Wide : Nat) : Int), 0) := by rw [valueP, if_pos ⟨by omega, c0, hle⟩]
      rw [M_quant_Loosen_l0, if_pos g1.1, if_pos (by omega), g1.2.1, Value_eq hu hsc, bindS, if_neg (by rw [e]; simp), if_pos (by simp; omega), List.length_cons, List.replicate_succ, set_at h4, bindS, if_pos (by omega), g2.2.1, i64_s (by omega)]
      have ih' := ih u (k + 1) (pre ++ [valQ s.F_Scale s.F_Wide x b]) g1.2.2 g2.2.2 (by simp [h4])
      simp only [List.append_assoc, List.singleton_append] at ih'
      cases b with
      | true =>
        rw [if_pos rfl, if_pos (by simp; omega), set_at h4, bindS]
        have e2 : IntKind.i64.wrap (0 - (valueP x s.F_Scale s.F_Wide).1) = valQ s.F_Scale s.F_Wide x true := by
          rw [valQ, if_pos rfl]
          refine J64_wrap ?_
          rw [e]
          generalize s.F_Scale.toNat * x.toNat / stepsP s.F_Wide = z at hv ⊢
          unfold J64 at *; simp only; omega
        rw [e2, ih']; simp
      | false =>
        rw [if_neg (by simp)]
        have e2 : (valueP x s.F_Scale s.F_Wide).1 = valQ s.F_Scale s.F_Wide x false := by rw [valQ, if_neg (by simp)]
        rw [e2, ih']; simp
theorem sLoosen_l0 (l : List Bool) (a1 a2 : Int) (a3 a4 : List Int) (m : Int) (a6 : Int) (a7 : List Int) (a8 : List Bool) (hl : l.length ≤ 1000000) (hm : 0 ≤ m) (hj : J64 m) : ∀ (t : List Bool) (k : Nat) (acc : List Int), l.drop k = t → acc.length ≤ k →
    M_sign_each_bool_int64_sign_Loosen_1_l0 l a1 a2 a3 a4 m a6 a7 a8 (k : Int) acc = some (acc ++ t.map (negIf m))
  | [], k, acc, h1, h2 => by rw [M_sign_each_bool_int64_sign_Loosen_1_l0, if_neg (drop_end h1)]; simp
  | x :: t, k, acc, h1, h2 => by
    have g1 := drop_at h1
    have e : M_sign_Loosen_1_c x a1 a2 a3 a4 m a6 a7 a8 = some (negIf m x) := by
      rw [M_sign_Loosen_1_c]
      cases x with
      | true => rw [if_pos rfl, J64_wrap (by unfold J64 at *; omega)]; rfl
      | false => rw [if_neg (by simp)]; rfl
    rw [M_sign_each_bool_int64_sign_Loosen_1_l0, if_pos g1.1, if_pos (by omega), g1.2.1, e, bindS, if_pos (room8 (by simp; omega)), i64_s (by omega), sLoosen_l0 l a1 a2 a3 a4 m a6 a7 a8 hl hm hj t (k + 1) _ g1.2.2 (by simp; omega)]
    simp
theorem Loosen_eq {s : T_api_Sent} (hf : Fits s) : M_press_Loosen s = some (loosenP s) := by
  rw [M_press_Loosen, may_eq hf.S, bindS, loosenP]
  cases hmp : mayP s with
  | false => rw [if_pos rfl]; rfl
  | true =>
  have hm := may_iff.1 hmp
  rw [if_neg (by simp), M_press_ways, bindS, loosenS, if_pos rfl]
  rcases hm with ⟨d0, d1, h, v, z⟩ | ⟨d0, d1, h, c, v, z⟩ | ⟨d0, d1, h, w0, w1, l, x, c, n, z⟩ | ⟨d0, d1, h, c, n, z⟩
  · rw [if_pos h, if_pos h, M_press_ways_1, clone_i64 _ (by omega)]; rfl
  · have n0 : ¬ s.F_Scheme = 0 := by omega
    rw [if_neg n0, if_neg n0, if_pos h, if_pos h, M_press_ways_5, Spread_eq _ _ _ hf.S.L c v]; rfl
  · have hL := qLoosen_l0 s hf (.level d0 d1 h w0 w1 l x c n z) h s.F_Lev s.F_Neg 0 [] rfl rfl rfl
    rw [show ((0 : Nat) : Int) = 0 from rfl] at hL
    simp only [List.nil_append] at hL
    have hd : s.F_Dim.toNat = s.F_Lev.length := by omega
    have n0 : ¬ s.F_Scheme = 0 := by omega
    have n1 : ¬ s.F_Scheme = 1 := by omega
    rw [if_neg n0, if_neg n0, if_neg n1, if_neg n1, if_pos h, if_pos h, M_quant_Loosen, may_eq hf.S, bindS, hmp, orB]
    rw [show (decide (true = false) || (s.F_Scheme != 2)) = false by simp [h], if_neg Bool.false_ne_true, if_pos (by omega), bindS, hd, hL]
    rfl
  · have hL := sLoosen_l0 s.F_Neg s.F_Scheme s.F_Dim s.F_L s.F_V s.F_Scale s.F_Wide s.F_Lev s.F_Neg (by omega) c hf.Sc s.F_Neg 0 [] rfl (by simp)
    rw [show ((0 : Nat) : Int) = 0 from rfl] at hL
    simp only [List.nil_append] at hL
    have n0 : ¬ s.F_Scheme = 0 := by omega
    have n1 : ¬ s.F_Scheme = 1 := by omega
    have n2 : ¬ s.F_Scheme = 2 := by omega
    rw [if_neg n0, if_neg n0, if_neg n1, if_neg n1, if_neg n2, if_neg n2, if_pos h, M_sign_Loosen, may_eq hf.S, bindS, hmp, orB]
    rw [show (decide (true = false) || (s.F_Scheme != 3)) = false by simp [h], if_neg Bool.false_ne_true, M_sign_each_bool_int64_sign_Loosen_1, if_pos (by omega), bindS, show List.replicate (Int.toNat 0) (0 : Int) = [] from rfl, hL]
    rfl
theorem spreadG_J : ∀ (l a out : List Int), I64s a → I64s out → I64s (spreadG out l a)
  | [], a, out, h1, h2 => by simpa [spreadG] using h2
  | x :: l, [], out, h1, h2 => by simpa [spreadG] using h2
  | x :: l, y :: a, out, h1, h2 => by
    rw [spreadG]
    refine spreadG_J l a _ (fun n hn => h1 n (by simp [hn])) fun n hn => ?_
    rcases List.mem_or_eq_of_mem_set hn with h | h
    · exact h2 n h
    · rw [h]; exact h1 y (by simp)
theorem loosen_J {s : T_api_Sent} (hf : Fits s) : I64s (loosenP s).1 := by
  unfold loosenP
  split
  · rename_i hmp
    have hm := may_iff.1 hmp
    simp only
    rw [loosenS]
    rcases hm with ⟨d0, d1, h, v, z⟩ | ⟨d0, d1, h, c, v, z⟩ | ⟨d0, d1, h, w0, w1, l, x, c, n, z⟩ | ⟨d0, d1, h, c, n, z⟩
    · rw [if_pos h]; exact hf.V
    · rw [if_neg (by omega), if_pos h]
      refine spreadG_J _ _ _ hf.V fun n hn => ?_
      rw [(List.mem_replicate.1 hn).2]; omega
    · rw [if_neg (by omega), if_neg (by omega), if_pos h]
      intro n hn
      obtain ⟨i, h1, h2⟩ := List.mem_iff_getElem.1 hn
      rw [List.getElem_zipWith] at h2
      rw [← h2]; exact valQ_J (by omega) c hf.Sc
    · rw [if_neg (by omega), if_neg (by omega), if_neg (by omega)]
      intro n hn
      obtain ⟨b, hb, rfl⟩ := List.mem_map.1 hn
      have := hf.Sc
      unfold J64 at this
      unfold negIf
      split <;> omega
  · intro n hn; simp at hn
def leftP (v : List Int) (s : T_api_Sent) : List Int × Int := if (loosenP s).2 ≠ 0 then ([], (loosenP s).2) else vecP (· - ·) v (loosenP s).1
theorem Left_eq {v : List Int} {s : T_api_Sent} (hi : I64s v) (hf : Fits s) : M_press_Left v s = some (leftP v s) := by
  rw [M_press_Left, Loosen_eq hf, bindS, leftP]
  by_cases h : (loosenP s).2 ≠ 0
  · rw [if_pos h, if_pos h]
  · rw [if_neg h, if_neg h, vSub_eq hi (loosen_J hf)]; rfl
def roundT (p : T_api_Sent × List Int × Int) : Int × Int × (List Int) × (List Int) × Int × Int × (List Int) × (List Bool) × (List Int) × Int := (p.1.F_Scheme, p.1.F_Dim, p.1.F_L, p.1.F_V, p.1.F_Scale, p.1.F_Wide, p.1.F_Lev, p.1.F_Neg, p.2.1, p.2.2)
/-- A round. -/
def roundP (h : T_api_How) (g left : List Int) (seed : Int) (n : List Int) : T_api_Sent × List Int × Int :=
  if (vecP (· + ·) g left).2 ≠ 0 then (zeroS, [], (vecP (· + ·) g left).2)
  else if (pressP h (vecP (· + ·) g left).1 seed n).2 ≠ 0 then (zeroS, [], (pressP h (vecP (· + ·) g left).1 seed n).2)
  else if (leftP (vecP (· + ·) g left).1 (pressP h (vecP (· + ·) g left).1 seed n).1).2 ≠ 0 then (zeroS, [], (leftP (vecP (· + ·) g left).1 (pressP h (vecP (· + ·) g left).1 seed n).1).2)
  else ((pressP h (vecP (· + ·) g left).1 seed n).1, (leftP (vecP (· + ·) g left).1 (pressP h (vecP (· + ·) g left).1 seed n).1).1, 0)
theorem Round_eq {h : T_api_How} {g left : List Int} {seed : Int} {n : List Int} (hg : I64s g) (hl : I64s left) (hn : n.length ≤ 100000) : M_press_Round h g left seed n = some (roundT (roundP h g left seed n)) := by
  have hJ : I64s (vecP (· + ·) g left).1 := vecP_I64s
  rw [M_press_Round, vAdd_eq hg hl, bindS, roundP]
  by_cases h1 : (vecP (· + ·) g left).2 ≠ 0
  · rw [if_pos h1, if_neg h1, bindS]
    simp only
    rw [if_neg h1, if_pos h1]; rfl
  rw [if_neg h1, if_pos (by simpa using h1), Press_eq hJ hn, bindS, bindS]
  simp only
  by_cases h2 : (pressP h (vecP (· + ·) g left).1 seed n).2 ≠ 0
  · rw [if_pos h2, show (sentT (pressP h (vecP (· + ·) g left).1 seed n)).2.2.2.2.2.2.2.2 = (pressP h (vecP (· + ·) g left).1 seed n).2 from rfl, if_neg h2, if_pos h2]; rfl
  rw [if_neg h2, show (sentT (pressP h (vecP (· + ·) g left).1 seed n)).2.2.2.2.2.2.2.2 = (pressP h (vecP (· + ·) g left).1 seed n).2 from rfl, if_pos (by simpa using h2)]
  have hL := Left_eq (v := (vecP (· + ·) g left).1) (s := (pressP h (vecP (· + ·) g left).1 seed n).1) hJ (press_fits hJ)
  rw [show (⟨(sentT (pressP h (vecP (· + ·) g left).1 seed n)).1, (sentT (pressP h (vecP (· + ·) g left).1 seed n)).2.1, (sentT (pressP h (vecP (· + ·) g left).1 seed n)).2.2.1, (sentT (pressP h (vecP (· + ·) g left).1 seed n)).2.2.2.1, (sentT (pressP h (vecP (· + ·) g left).1 seed n)).2.2.2.2.1, (sentT (pressP h (vecP (· + ·) g left).1 seed n)).2.2.2.2.2.1, (sentT (pressP h (vecP (· + ·) g left).1 seed n)).2.2.2.2.2.2.1, (sentT (pressP h (vecP (· + ·) g left).1 seed n)).2.2.2.2.2.2.2.1⟩ : T_api_Sent) = (pressP h (vecP (· + ·) g left).1 seed n).1 from rfl, hL, bindS]
  by_cases h3 : (leftP (vecP (· + ·) g left).1 (pressP h (vecP (· + ·) g left).1 seed n).1).2 ≠ 0
  · rw [if_pos h3, if_pos h3]; rfl
  · rw [if_neg h3, if_neg h3]; rfl
end Go.Proofs.YtdgdgfckcnjpfaaGreat.Abs
