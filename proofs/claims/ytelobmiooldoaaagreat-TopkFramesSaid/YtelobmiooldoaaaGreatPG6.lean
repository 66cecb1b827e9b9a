/- Plain facts on frames: what is written. Conditions: none. -/
import Derived.Test.YtelobmiooldoaaaGreatPG5
namespace Go.Proofs.YtelobmiooldoaaaGreat.Abs
open Go Go.RowKit Go.IntWalk Crc
set_option linter.unusedVariables false
set_option linter.unnecessarySimpa false
set_option linter.unusedSimpArgs false
set_option maxRecDepth 100000

/-- Numbers as great as may be. -/
structure FitV (s : T_api_Sent) : Prop where
  fit : FitS s
  v : ∀ n ∈ s.F_V, I64 n
  sc : I64 s.F_Scale

theorem bytes_eq (b l : List Int) (e0 : Int) (h : (b ++ l).length ≤ 140737488355328) : M_thrum_frame_pen_bytes ⟨b, e0⟩ l 0 = some (b ++ l, e0) := by
  rw [M_thrum_frame_pen_bytes]
  simp only
  rw [if_pos (room1 h), if_neg (by simp)]

theorem dense_eq (b : List Int) (s : T_api_Sent) (h : FitV s) (hv : s.F_V.length ≤ 4096) (hb : b.length ≤ 1000000) : M_thrum_frame_pen_dense ⟨b, 0⟩ s = some (b ++ sigB s.F_V, 0) := by
  have := sigB_len s.F_V h.v
  rw [M_thrum_frame_pen_dense]
  simp only
  rw [Signed_eq b s.F_V (by omega) h.v (by omega), bindS]

theorem top_len {dim : Int} {l : List Int} (h : checkP dim l = 0) : l.length ≤ 4096 := by
  obtain ⟨h1, h2, h3⟩ := placed_iff.1 h
  simp only [meas, Bool.and_eq_true, decide_eq_true_eq] at h1
  rcases rising_len h2 h3 with h4 | h4
  · omega
  · simp [h4]

theorem bytesOf_le {w d : Nat} (hw : w ≤ 8) (hd : d ≤ 4096) : bytesOf w d ≤ 4096 := by
  have : w * d ≤ 8 * 4096 := Nat.mul_le_mul hw hd
  unfold bytesOf; omega

theorem Body_eq {s : T_api_Sent} (h : FitV s) : M_frame_Body s = some (if mayP s = true then (bodyP s, 0) else ([], 1)) := by
  rw [M_frame_Body, may_eq h.fit, bindS]
  by_cases hm : mayP s = true
  rotate_left
  · have : mayP s = false := by simpa using hm
    rw [this]; rfl
  rw [hm, if_neg (by simp), if_pos rfl]
  have hS := may_iff.1 hm
  have hdim : 0 < s.F_Dim ∧ s.F_Dim ≤ 4096 := by cases hS <;> exact ⟨by assumption, by assumption⟩
  have hsch : 0 ≤ s.F_Scheme ∧ s.F_Scheme ≤ 3 := by cases hS <;> omega
  have hl := lebP_le s.F_Dim (by omega)
  have h2 : M_leb_Put [IntKind.u8.wrap s.F_Scheme] [IntKind.u64.wrap s.F_Dim] = some ([s.F_Scheme] ++ lebP s.F_Dim) := by
    rw [u8_in _ (by omega), u64_in _ (by omega), leb_Put_eq _ _ (by simp) (by simp; omega)]; simp
  have h2l : ([s.F_Scheme] ++ lebP s.F_Dim).length ≤ 11 := by simp; omega
  rw [h2, bindS]
  have fin : ∀ (r : List Int), restP s = r → ∀ (m : Option (List Int × Int)), m = some (([s.F_Scheme] ++ lebP s.F_Dim) ++ r, 0) → (m >>= fun j7 => if j7.2 ≠ 0 then some (([] : List Int), j7.2) else some (j7.1, 0)) = some (bodyP s, 0) := by
    rintro r hr m rfl
    rw [bindS, if_neg (by simp)]
    unfold bodyP; rw [hr]; simp
  cases hS with
  | dense d0 d1 hs hv z =>
    refine fin (sigB s.F_V) (by unfold restP; rw [if_pos hs]) _ ?_
    rw [if_pos hs, dense_eq _ s h (by omega) (by omega), bindS]
  | top d0 d1 hs c hv z =>
    have hL := top_len c
    have hpl := putB_len s.F_Dim s.F_L (by omega)
    refine fin (putB s.F_Dim s.F_L ++ sigB s.F_V) (by unfold restP; rw [if_neg (by omega), if_pos hs]) _ ?_
    rw [if_neg (by omega), if_pos hs, M_thrum_frame_pen_top, Put_eq _ _ (by omega), bindS, c]
    simp only
    rw [bytes_eq _ _ _ (by simp only [List.length_append] at *; omega), bindS]
    simp only
    rw [dense_eq _ s h (by omega) (by simp only [List.length_append] at *; omega), bindS, bindS, List.append_assoc _ (putB _ _)]
  | level d0 d1 hs w0 w1 l x c n z =>
    have hsc := h.sc
    unfold I64 at hsc
    have hls := lebP_le s.F_Scale (by omega)
    have hLev : s.F_Lev.length = s.F_Dim.toNat := by omega
    have hw := putW_eq (w := s.F_Wide.toNat) (d := s.F_Dim.toNat) (by omega) (by omega) hLev (fun y hy => ⟨(h.fit.u y hy).1, x y hy⟩)
    rw [Int.toNat_of_nonneg (by omega)] at hw
    have hby := bytesOf_le (w := s.F_Wide.toNat) (d := s.F_Dim.toNat) (by omega) (by omega)
    have hb1 := bytesOf_le (w := 1) (d := s.F_Neg.length) (by omega) (by omega)
    refine fin (lebP s.F_Scale ++ ([s.F_Wide] ++ (planeB (pWov s.F_Dim.toNat) s.F_Wide.toNat s.F_Dim.toNat s.F_Lev ++ signsB s.F_Neg))) (by unfold restP; rw [if_neg (by omega), if_neg (by omega), if_pos hs]) _ ?_
    rw [if_neg (by omega), if_neg (by omega), if_pos hs, M_thrum_frame_pen_level]
    simp only
    rw [u64_in _ (by omega), leb_Put_eq _ _ (by simp) (by simp only [List.flatMap_cons, List.flatMap_nil, List.length_append, List.length_nil] at *; omega), bindS, if_pos (room1 (by simp only [List.flatMap_cons, List.flatMap_nil, List.length_append, List.length_nil, List.length_cons] at *; omega)), bindS, u8_in _ (by omega), M_plane_Weave, M_plane_woven, bindS, hLev, hw, bindS, bindS]
    simp only
    rw [bytes_eq _ _ _ (by simp only [List.flatMap_cons, List.flatMap_nil, List.length_append, List.length_nil, List.length_cons, planeB_len] at *; omega), bindS, Signs_ok (by omega), bindS]
    simp only
    rw [bytes_eq _ _ _ (by simp only [List.flatMap_cons, List.flatMap_nil, List.length_append, List.length_nil, List.length_cons, planeB_len, signsB_len] at *; omega), bindS, bindS]
    simp only [List.flatMap_cons, List.flatMap_nil, List.append_nil, List.append_assoc]
  | sign d0 d1 hs c n z =>
    have hsc := h.sc
    unfold I64 at hsc
    have hls := lebP_le s.F_Scale (by omega)
    have hb1 := bytesOf_le (w := 1) (d := s.F_Neg.length) (by omega) (by omega)
    refine fin (lebP s.F_Scale ++ signsB s.F_Neg) (by unfold restP; rw [if_neg (by omega), if_neg (by omega), if_neg (by omega)]) _ ?_
    rw [if_neg (by omega), if_neg (by omega), if_neg (by omega), if_pos hs, M_thrum_frame_pen_sign]
    simp only
    rw [u64_in _ (by omega), leb_Put_eq _ _ (by simp) (by simp only [List.flatMap_cons, List.flatMap_nil, List.length_append, List.length_nil] at *; omega), bindS, Signs_ok (by omega), bindS]
    simp only
    rw [bytes_eq _ _ _ (by simp only [List.flatMap_cons, List.flatMap_nil, List.length_append, List.length_nil, List.length_cons, signsB_len] at *; omega), bindS, bindS]
    simp only [List.flatMap_cons, List.flatMap_nil, List.append_nil, List.append_assoc]

theorem restP_len {s : T_api_Sent} (h : FitV s) (hm : mayP s = true) : (restP s).length ≤ 82000 := by
  have hv := sigB_len s.F_V h.v
  have hsc := h.sc
  unfold I64 at hsc
  unfold restP
  cases may_iff.1 hm with
  | dense d0 d1 hs hv' z => rw [if_pos hs]; omega
  | top d0 d1 hs c hv' z =>
    have hL := top_len c
    have hpl := putB_len s.F_Dim s.F_L (by omega)
    rw [if_neg (by omega), if_pos hs]; simp; omega
  | level d0 d1 hs w0 w1 l x c n z =>
    have hls := lebP_le s.F_Scale (by omega)
    have hby := bytesOf_le (w := s.F_Wide.toNat) (d := s.F_Dim.toNat) (by omega) (by omega)
    have hb1 := bytesOf_le (w := 1) (d := s.F_Neg.length) (by omega) (by omega)
    rw [if_neg (by omega), if_neg (by omega), if_pos hs]; simp [planeB_len, signsB_len]; omega
  | sign d0 d1 hs c n z =>
    have hls := lebP_le s.F_Scale (by omega)
    have hb1 := bytesOf_le (w := 1) (d := s.F_Neg.length) (by omega) (by omega)
    rw [if_neg (by omega), if_neg (by omega), if_neg (by omega)]; simp [signsB_len]; omega
theorem restP_small {s : T_api_Sent} (h : FitV s) (hm : mayP s = true) (hv5 : s.F_V.length ≤ 500) (hl5 : s.F_L.length ≤ 500) : (restP s).length ≤ 12000 := by
  have hv := sigB_len s.F_V h.v
  have hsc := h.sc
  unfold I64 at hsc
  unfold restP
  cases may_iff.1 hm with
  | dense d0 d1 hs hv' z => rw [if_pos hs]; omega
  | top d0 d1 hs c hv' z =>
    have hpl := putB_len s.F_Dim s.F_L (by omega)
    rw [if_neg (by omega), if_pos hs]; simp; omega
  | level d0 d1 hs w0 w1 l x c n z =>
    have hls := lebP_le s.F_Scale (by omega)
    have hby := bytesOf_le (w := s.F_Wide.toNat) (d := s.F_Dim.toNat) (by omega) (by omega)
    have hb1 := bytesOf_le (w := 1) (d := s.F_Neg.length) (by omega) (by omega)
    rw [if_neg (by omega), if_neg (by omega), if_pos hs]; simp [planeB_len, signsB_len]; omega
  | sign d0 d1 hs c n z =>
    have hls := lebP_le s.F_Scale (by omega)
    have hb1 := bytesOf_le (w := 1) (d := s.F_Neg.length) (by omega) (by omega)
    rw [if_neg (by omega), if_neg (by omega), if_neg (by omega)]; simp [signsB_len]; omega

theorem one_u8 {x : Int} (h : 0 ≤ x ∧ x ≤ 255) : U8s [x] := by intro y hy; simp at hy; omega
theorem bodyP_u8 {s : T_api_Sent} (hm : mayP s = true) : U8s (bodyP s) := by
  have hleb : ∀ n, U8s (lebP n) := fun n => lebP_u8 _ _ (Nat.le_refl _)
  unfold bodyP restP
  have hS := may_iff.1 hm
  have hsch : 0 ≤ s.F_Scheme ∧ s.F_Scheme ≤ 3 := by cases hS <;> omega
  refine U8s_app (one_u8 (by omega)) (U8s_app (hleb _) ?_)
  split
  · exact sigB_u8 _
  split
  · exact U8s_app (putB_u8 _ _) (sigB_u8 _)
  split
  · rename_i hs
    have : 0 ≤ s.F_Wide ∧ s.F_Wide ≤ 255 := by cases hS <;> omega
    exact U8s_app (hleb _) (U8s_app (one_u8 this) (U8s_app (planeB_u8 _ _ _ _) (signsB_u8 _)))
  · exact U8s_app (hleb _) (signsB_u8 _)

/-- A frame's text, without its sum. -/
def textP (f : T_api_Frame) : List Int := [1, f.F_Kind] ++ (lebP f.F_From ++ (lebP f.F_Step ++ (if f.F_Kind = 1 then bodyP f.F_S else [])))

theorem textP_u8 {f : T_api_Frame} (h : frameOk f) : U8s (textP f) := by
  have hleb : ∀ n, U8s (lebP n) := fun n => lebP_u8 _ _ (Nat.le_refl _)
  have hk : f.F_Kind = 1 ∨ f.F_Kind = 2 := by rcases h.2 with h | h; exact .inl h.1; exact .inr h.1
  unfold textP
  refine U8s_app (by intro x hx; simp at hx; omega) (U8s_app (hleb _) (U8s_app (hleb _) ?_))
  split
  · rename_i h1
    rcases h.2 with h2 | h2
    · exact bodyP_u8 h2.2
    · omega
  · intro x hx; simp at hx

theorem Write_eq {f : T_api_Frame} (h : FitV f.F_S) (hl : frameOk f → (textP f).length ≤ 65532) : M_frame_Write f = some (if frameOk f then (sealI (textP f), 0) else ([], 1)) := by
  rw [M_frame_Write, fCheck_eq h.fit, bindS]
  by_cases hok : frameOk f
  rotate_left
  · rw [if_neg hok, if_neg hok, if_pos (by simp)]
  rw [if_pos hok, if_pos hok, if_neg (by simp)]
  have hu := textP_u8 hok
  have hlen := hl hok
  obtain ⟨⟨o1, o2, o3, o4⟩, hk⟩ := hok
  have hk' : f.F_Kind = 1 ∨ f.F_Kind = 2 := by rcases hk with h | h; exact .inl h.1; exact .inr h.1
  have l1 := lebP_le f.F_From (by omega)
  have l2 := lebP_le f.F_Step (by omega)
  rw [u8_in _ (by omega), u64_in _ (by omega), u64_in _ (by omega), leb_Put_eq _ _ (by simp) (by simp; omega), bindS]
  simp only [List.flatMap_cons, List.flatMap_nil, List.append_nil]
  rcases hk with ⟨h1, h2⟩ | ⟨h1, h2⟩
  · have e : textP f = ([1, f.F_Kind] ++ (lebP f.F_From ++ lebP f.F_Step)) ++ bodyP f.F_S := by
      unfold textP; rw [if_pos h1]; simp
    have hr := restP_len h h2
    rw [if_pos h1, Body_eq h, bindS, if_pos h2]
    simp only
    rw [if_neg (by simp), ← e, if_pos (room1 (by omega)), sealI_eq hu hlen, bindS]
  · have e : textP f = [1, f.F_Kind] ++ (lebP f.F_From ++ lebP f.F_Step) := by
      unfold textP; rw [if_neg (by omega)]; simp
    rw [if_neg (by omega), ← e, sealI_eq hu hlen, bindS]

theorem textP_small {f : T_api_Frame} (h : FitV f.F_S) (hok : frameOk f) (hv5 : f.F_S.F_V.length ≤ 500) (hl5 : f.F_S.F_L.length ≤ 500) : (textP f).length ≤ 13000 := by
  obtain ⟨⟨o1, o2, o3, o4⟩, hk⟩ := hok
  have l1 := lebP_le f.F_From (by omega)
  have l2 := lebP_le f.F_Step (by omega)
  unfold textP
  rcases hk with ⟨h1, h2⟩ | ⟨h1, h2⟩
  · have hr := restP_small h h2 hv5 hl5
    have hd : f.F_S.F_Dim ≤ 4096 := by cases may_iff.1 h2 <;> assumption
    have l3 := lebP_le f.F_S.F_Dim (by omega)
    rw [if_pos h1]; simp [bodyP]; omega
  · rw [if_neg (by omega)]; simp; omega
end Go.Proofs.YtelobmiooldoaaaGreat.Abs
