/- IndexBack, plainly: it answers true. Conditions: none but that numbers are of their kinds. -/
import Derived.Test.YtaghpancpfpnhaaP6e
namespace Go.Proofs.Ytaghpancpfpnhaa.Abs
open Go Go.RowKit Go.IntWalk
set_option linter.unusedVariables false

/-- The codes of places behind one. -/
def codes (last : Int) (t : List Int) : List Int := (gaps last t).flatMap lebP

theorem rising_tail {x : Int} {t : List Int} (h : rising (x :: t) = true) : rising t = true := by
  cases t with
  | nil => rfl
  | cons y t => simp only [rising, Bool.and_eq_true] at h ⊢; exact h.2
theorem rising_cons {x : Int} {t : List Int} (h : rising (x :: t) = true) : ∀ y ∈ t, x < y := by
  induction t generalizing x with
  | nil => simp
  | cons y t ih =>
    intro z hz
    simp only [rising, Bool.and_eq_true, decide_eq_true_eq] at h
    have h2 : rising (y :: t) = true := by simp only [rising, Bool.and_eq_true]; exact h.2
    rcases List.mem_cons.1 hz with rfl | hz
    · exact h.1
    · have := ih h2 z hz; omega
theorem rising_mk {x : Int} {t : List Int} (h : rising t = true) (hx : ∀ y ∈ t, x < y) : rising (x :: t) = true := by
  cases t with
  | nil => rfl
  | cons y t =>
    have h1 := hx y (by simp)
    simp only [rising, Bool.and_eq_true] at h ⊢
    exact ⟨by simpa using h1, h⟩

/-- What was written is read. -/
theorem iget_put (dim : Int) (hd : dim ≤ 4096) (B : List Int) : ∀ (t : List Int) (A : List Int) (last : Int) (acc : List Int), rising t = true → (∀ n ∈ t, last < n ∧ n < dim) → -1 ≤ last → A.length + (codes last t).length ≤ 4611686018427387904 →
    iget dim (A ++ (codes last t ++ B)) t.length A.length last acc = (acc ++ t, ((A.length + (codes last t).length : Nat) : Int), 0)
  | [], A, last, acc, hr, hn, hl, hA => by simp [iget, codes, gaps]
  | x :: t, A, last, acc, hr, hn, hl, hA => by
    have hx := hn x (by simp)
    have e : IntKind.u64.wrap (IntKind.i64.wrap (IntKind.i64.wrap (x - last) - 1)) = x - last - 1 := by
      rw [i64_in (x - last) (by omega), i64_in _ (by omega), u64_in _ (by omega)]
    have ec : codes last (x :: t) = lebP (x - last - 1) ++ codes x t := by simp [codes, gaps, e]
    rw [ec] at hA ⊢
    simp only [List.length_append] at hA
    have hg := getP_put A (codes x t ++ B) (x - last - 1) (by omega) (by omega)
    rw [List.append_assoc, List.length_cons, iget, hg]
    simp only
    rw [if_neg (by simp), if_neg (by omega), show last + 1 + (x - last - 1) = x by omega]
    have ih := iget_put dim hd B t (A ++ lebP (x - last - 1)) x (acc ++ [x]) (rising_tail hr) (fun n hm => ⟨rising_cons hr n hm, (hn n (by simp [hm])).2⟩) (by omega) (by simp only [List.length_append]; omega)
    simp only [List.append_assoc, List.length_append] at ih
    rw [show ((A.length : Int) + ((lebP (x - last - 1)).length : Nat)) = (((A.length + (lebP (x - last - 1)).length : Nat)) : Int) by push_cast; rfl, ih]
    simp only [List.length_append, List.cons_append, List.nil_append]
    refine Prod.ext rfl (Prod.ext ?_ rfl)
    simp only; push_cast; omega

theorem placed_iff {dim : Int} {l : List Int} : checkP dim l = 0 ↔ meas dim = true ∧ rising l = true ∧ ∀ n ∈ l, 0 ≤ n ∧ n < dim := by
  unfold checkP placed
  by_cases h : (meas dim && rising l && l.all fun n => decide (0 ≤ n) && decide (n < dim)) = true
  · rw [if_pos h]
    simp only [Bool.and_eq_true, all_in] at h
    exact ⟨fun _ => ⟨h.1.1, h.1.2, h.2⟩, fun _ => rfl⟩
  · rw [if_neg h]
    simp only [Bool.and_eq_true, all_in] at h
    exact ⟨fun h' => by omega, fun h' => absurd ⟨⟨h'.1, h'.2.1⟩, h'.2.2⟩ h⟩

/-- Places that rise within so many are no more. -/
theorem rising_len {lo hi : Int} : ∀ {l : List Int}, rising l = true → (∀ n ∈ l, lo ≤ n ∧ n < hi) → (l.length : Int) ≤ hi - lo ∨ l = []
  | [], _, _ => .inr rfl
  | x :: t, hr, h => by
    left
    have hx := h x (by simp)
    rcases rising_len (lo := x + 1) (hi := hi) (rising_tail hr) (fun n hn => ⟨by have := rising_cons hr n hn; omega, (h n (by simp [hn])).2⟩) with h1 | rfl
    · simp only [List.length_cons]; push_cast; omega
    · simp only [List.length_cons, List.length_nil]; omega

theorem putB_codes {dim : Int} {l : List Int} (h : checkP dim l = 0) (hl : l.length ≤ 1099511627776) : putB dim l = lebP l.length ++ codes (-1) l := by
  rw [putB, if_pos h, u64_in _ (by omega)]; rfl

theorem get_put (dim : Int) (l A B : List Int) (h : checkP dim l = 0) (hA : A.length ≤ 1099511627776) : igetP dim (A ++ (putB dim l ++ B)) A.length = (l, ((A.length + (putB dim l).length : Nat) : Int), 0) := by
  have h' := h
  rw [placed_iff] at h
  obtain ⟨hm, hr, hp⟩ := h
  have hm' := hm
  simp only [meas, Bool.and_eq_true, decide_eq_true_eq] at hm'
  have hlen : (l.length : Int) ≤ dim := by
    rcases rising_len hr hp with h | rfl
    · omega
    · simp; omega
  have h1 := lebP_le (l.length : Int) (by omega)
  have h2 := flat_lebP_le (gaps (-1) l) (fun n hn => (gaps_u64 _ _ n hn).2)
  rw [gaps_length] at h2
  rw [putB_codes h' (by omega), List.append_assoc, igetP, if_neg (by simp [hm])]
  have hg := getP_put A (codes (-1) l ++ B) l.length (by omega) (by omega)
  rw [hg]
  simp only
  rw [if_neg (by simp), if_neg (by omega), Int.toNat_natCast]
  have := iget_put dim hm'.2 B l (A ++ lebP l.length) (-1) [] hr (fun n hn => ⟨by have := hp n hn; omega, (hp n hn).2⟩) (by omega) (by simp only [List.length_append, codes]; omega)
  simp only [List.append_assoc, List.length_append, List.nil_append] at this
  rw [show ((A.length : Int) + ((lebP (l.length : Int)).length : Nat)) = (((A.length + (lebP (l.length : Int)).length : Nat)) : Int) by push_cast; rfl, this]
  simp only [List.length_append]
  refine Prod.ext rfl (Prod.ext ?_ rfl)
  simp only; push_cast; omega

/-- What is read was written so. -/
theorem iget_back (dim : Int) (hd : dim ≤ 4096) (b : List Int) (hb : b.length ≤ 1099511627776) (hu : U8s b) : ∀ (m : Nat) (at0 last : Int) (acc R : List Int) (p : Int), iget dim b m at0 last acc = (R, p, 0) → 0 ≤ at0 → at0 ≤ b.length → -1 ≤ last → last < dim →
    ∃ t, R = acc ++ t ∧ t.length = m ∧ rising t = true ∧ (∀ n ∈ t, last < n ∧ n < dim) ∧ p = at0 + (codes last t).length ∧ p ≤ b.length ∧ b.drop at0.toNat = codes last t ++ b.drop p.toNat
  | 0, at0, last, acc, R, p, h, h0, h1, h2, h3 => by
    simp only [iget, Prod.mk.injEq, and_true] at h
    obtain ⟨rfl, rfl⟩ := h
    exact ⟨[], by simp, rfl, rfl, by simp, by simp [codes, gaps], h1, by simp [codes, gaps]⟩
  | m + 1, at0, last, acc, R, p, h, h0, h1, h2, h3 => by
    rw [iget] at h
    split at h
    · rename_i he; simp only [Prod.mk.injEq] at h; exact absurd h.2.2 he
    · rename_i he
      split at h
      · simp at h
      · rename_i hf
        have hat := getP_at b at0 (by omega)
        have hg : getP b at0 = ((getP b at0).1, (getP b at0).2.1, 0) := by
          have : (getP b at0).2.2 = 0 := by simpa using he
          rw [← this]
        obtain ⟨k1, k2, k3, k4, k5, k6⟩ := getP_back b at0 _ _ (by omega) hu hg
        generalize (getP b at0).1 = v at *
        generalize (getP b at0).2.1 = q at *
        obtain ⟨t, g1, g2, g3, g4, g5, g6, g7⟩ := iget_back dim hd b hb hu m q (last + 1 + v) _ R p h (by omega) (by omega) (by omega) (by omega)
        have e : IntKind.u64.wrap (IntKind.i64.wrap (IntKind.i64.wrap (last + 1 + v - last) - 1)) = v := by
          rw [i64_in (last + 1 + v - last) (by omega), i64_in _ (by omega), u64_in _ (by omega)]; omega
        have ec : codes last ((last + 1 + v) :: t) = lebP v ++ codes (last + 1 + v) t := by simp [codes, gaps, e]
        refine ⟨(last + 1 + v) :: t, by rw [g1]; simp, by simp [g2], rising_mk g3 (fun y hy => (g4 y hy).1), ?_, ?_, g6, ?_⟩
        · intro n hn
          rcases List.mem_cons.1 hn with rfl | hn
          · omega
          · have := g4 n hn; omega
        · rw [ec, List.length_append, g5, k5]; push_cast; omega
        · rw [ec, k6, g7, List.append_assoc]

theorem put_get (dim : Int) (b : List Int) (at0 : Int) (R : List Int) (p : Int) (hb : b.length ≤ 1099511627776) (hu : U8s b) (h : igetP dim b at0 = (R, p, 0)) : checkP dim R = 0 ∧ 0 ≤ at0 ∧ at0 ≤ p ∧ p ≤ b.length ∧ b.drop at0.toNat = putB dim R ++ b.drop p.toNat := by
  rw [igetP] at h
  split at h
  · simp at h
  · rename_i hm
    split at h
    · rename_i he; simp only [Prod.mk.injEq] at h; exact absurd h.2.2 he
    · rename_i he
      split at h
      · simp at h
      · rename_i hf
        have hm1 : meas dim = true := by simpa using hm
        have hm' := hm1
        simp only [meas, Bool.and_eq_true, decide_eq_true_eq] at hm'
        have hat := getP_at b at0 (by omega)
        have hg : getP b at0 = ((getP b at0).1, (getP b at0).2.1, 0) := by
          have : (getP b at0).2.2 = 0 := by simpa using he
          rw [← this]
        obtain ⟨k1, k2, k3, k4, k5, k6⟩ := getP_back b at0 _ _ (by omega) hu hg
        generalize (getP b at0).1 = v at *
        generalize (getP b at0).2.1 = q at *
        obtain ⟨t, g1, g2, g3, g4, g5, g6, g7⟩ := iget_back dim hm'.2 b hb hu v.toNat q (-1) [] R p h (by omega) (by omega) (by omega) (by omega)
        simp only [List.nil_append] at g1
        subst g1
        have hc : checkP dim R = 0 := placed_iff.2 ⟨hm1, g3, fun n hn => ⟨by have := g4 n hn; omega, (g4 n hn).2⟩⟩
        refine ⟨hc, k1, by omega, g6, ?_⟩
        rw [putB_codes hc (by omega), show ((R.length : Nat) : Int) = v by omega, k6, g7, List.append_assoc]

theorem iget_err (dim : Int) (b : List Int) : ∀ (m : Nat) (at0 last : Int) (acc : List Int), (iget dim b m at0 last acc).2.2 ≠ 0 → (iget dim b m at0 last acc).1 = []
  | 0, _, _, _, h => by simp [iget] at h
  | m + 1, at0, last, acc, h => by
    rw [iget] at h ⊢
    split
    · rfl
    · split
      · rfl
      · rename_i h1 h2
        rw [if_neg h1, if_neg h2] at h
        exact iget_err dim b m _ _ _ h
theorem igetP_err (dim : Int) (b : List Int) (at0 : Int) (h : (igetP dim b at0).2.2 ≠ 0) : (igetP dim b at0).1 = [] := by
  rw [igetP] at h ⊢
  split
  · rfl
  · rename_i h1
    rw [if_neg h1] at h
    split
    · rfl
    · rename_i h2
      rw [if_neg h2] at h
      split
      · rfl
      · rename_i h3
        rw [if_neg h3] at h
        exact iget_err _ _ _ _ _ _ h

theorem U8s_app {a b : List Int} (ha : U8s a) (hb : U8s b) : U8s (a ++ b) := by
  intro x hx
  rcases List.mem_append.1 hx with h | h
  · exact ha x h
  · exact hb x h

theorem cut_to {α : Type} (l : List α) (b : Int) : cut' l none (some b) = l.take b.toNat := by simp [cut']

theorem putB_len (dim : Int) (l : List Int) (hl : l.length ≤ 1099511627776) : (putB dim l).length ≤ 10 * l.length + 10 := by
  unfold putB
  split
  · have h2 := flat_lebP_le (IntKind.u64.wrap l.length :: gaps (-1) l) (by
      intro n hn
      rcases List.mem_cons.1 hn with rfl | hn
      · exact (u64_ge _).2
      · exact (gaps_u64 _ _ n hn).2)
    simp only [List.length_cons, gaps_length] at h2
    omega
  · simp

theorem IndexBack_true (dim : Int) (l a b : List Int) (hl : l.length ≤ 140737488355328) (ha : a.length ≤ 140737488355328) (hb : b.length ≤ 140737488355328) (hua : U8s a) (hub : U8s b) : M_thrumlaw06_IndexBack dim l a b = some true := by
  rw [M_thrumlaw06_IndexBack, live6_eq, bindS, if_neg (by simp), few1_eq l (by omega), bindS, orB, i64_in _ (by omega)]
  by_cases h : decide (decide (l.length ≤ 600) = false) || decide ((a.length : Int) + (b.length : Int) > 2000)
  · rw [if_pos h]
  · have h' : l.length ≤ 600 ∧ a.length + b.length ≤ 2000 := by
      simp at h; omega
    have hp := putB_len dim l (by omega)
    rw [if_neg h, Put_eq dim l (by omega), bindS]
    simp only
    have hfirst : (if checkP dim l = 0 then
          if room 1 (a : List Int).length then
            if room 1 (a ++ putB dim l).length then
              if room 1 ((a ++ putB dim l) ++ b).length then
                (M_index_Get dim ((a ++ putB dim l) ++ b) (a.length : Int)) >>= fun r5 =>
                ((if r5.2.2 ≠ 0 then some true else some (r5.2.1 != (IntKind.i64.wrap ((a.length : Int) + ((putB dim l).length : Int))))) : Option Bool) >>= fun j6 =>
                ((if j6 = true then some true else (M_thrumref06_Equal r5.1 l) >>= fun r7 => some (!r7)) : Option Bool) >>= fun j8 =>
                if j8 = true then some (.inl false) else some (.inr ())
              else none
            else none
          else none
        else some (.inr ()) : Option (Sum Bool Unit)) = some (.inr ()) := by
      by_cases hc : checkP dim l = 0
      · have hg := get_put dim l a b hc (by omega)
        rw [if_pos hc, if_pos (room1 (by omega)), if_pos (room1 (by simp; omega)), if_pos (room1 (by simp; omega)), List.append_assoc, iGet_eq dim _ _ (by simp; omega) (U8s_app hua (U8s_app (putB_u8 dim l) hub)) (by omega), bindS, hg, i64_in _ (by omega)]
        simp only [orB]
        rw [Equal_eq l l (by omega)]
        simp
      · rw [if_neg hc]
    rw [hfirst, bindS]
    simp only
    rw [iGet_eq dim b 0 (by omega) hub (by omega), bindS]
    by_cases he : (igetP dim b 0).2.2 ≠ 0
    · rw [if_pos he, andB, igetP_err _ _ _ he]; simp
    · have he' : (igetP dim b 0).2.2 = 0 := by simpa using he
      have hR : igetP dim b 0 = ((igetP dim b 0).1, (igetP dim b 0).2.1, 0) := by
        generalize igetP dim b 0 = R at he'
        obtain ⟨x, y, z⟩ := R
        simp only at he'; subst he'; rfl
      obtain ⟨g1, g2, g3, g4, g5⟩ := put_get dim b 0 _ _ (by omega) hub hR
      have hlen := igetP_len dim b 0
      rw [if_neg he, Put_eq dim _ (by omega), bindS, g1]
      have hco : cutOk none (some (igetP dim b 0).2.1) b.length := by simp only [cutOk, Option.getD_some, Option.getD_none]; omega
      have ht : cut' b none (some (igetP dim b 0).2.1) = putB dim (igetP dim b 0).1 := by
        rw [cut_to]
        simp only [Int.toNat_zero, List.drop_zero] at g5
        have : (putB dim (igetP dim b 0).1).length = (igetP dim b 0).2.1.toNat := by
          have := congrArg List.length g5
          simp only [List.length_append, List.length_drop] at this
          omega
        rw [← this]
        exact (congrArg (List.take (putB dim (igetP dim b 0).1).length) g5).trans (List.take_left' rfl)
      simp only [andB, decide_true, Bool.true_and, bindS]
      rw [if_pos (by simp; omega), if_pos hco, ht, Same_eq _ _ (putB_u8 _ _) (putB_u8 _ _)]
      simp
end Go.Proofs.Ytaghpancpfpnhaa.Abs
