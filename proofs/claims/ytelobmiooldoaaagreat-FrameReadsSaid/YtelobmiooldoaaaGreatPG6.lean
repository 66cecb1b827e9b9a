/- Plain facts on frames: what is written. Conditions: none. -/
import Derived.Test.YtelobmiooldoaaaGreatPG5
namespace Go.Proofs.YtelobmiooldoaaaGreat.Abs
open Go Go.RowKit Go.IntWalk Crc
set_option linter.unusedVariables false
set_option linter.unnecessarySimpa false
set_option linter.unusedSimpArgs false
set_option maxRecDepth 100000

/-- Numbers as great as may be. -/
structure FitV (s : T_api_Sent) : Prop where
  fit : FitS s
  v : ∀ n ∈ s.F_V, I64 n
  sc : I64 s.F_Scale

theorem top_len {dim : Int} {l : List Int} (h : checkP dim l = 0) : l.length ≤ 4096 := by
  obtain ⟨h1, h2, h3⟩ := placed_iff.1 h
  simp only [meas, Bool.and_eq_true, decide_eq_true_eq] at h1
  rcases rising_len h2 h3 with h4 | h4
  · omega
  · simp [h4]

theorem bytesOf_le {w d : Nat} (hw : w ≤ 8) (hd : d ≤ 4096) : bytesOf w d ≤ 4096 := by
  have : w * d ≤ 8 * 4096 := Nat.mul_le_mul hw hd
  unfold bytesOf; omega

theorem one_u8 {x : Int} (h : 0 ≤ x ∧ x ≤ 255) : U8s [x] := by intro y hy; simp at hy; omega
theorem bodyP_u8 {s : T_api_Sent} (hm : mayP s = true) : U8s (bodyP s) := by
  have hleb : ∀ n, U8s (lebP n) := fun n => lebP_u8 _ _ (Nat.le_refl _)
  unfold bodyP restP
  have hS := may_iff.1 hm
  have hsch : 0 ≤ s.F_Scheme ∧ s.F_Scheme ≤ 3 := by cases hS <;> omega
  refine U8s_app (one_u8 (by omega)) (U8s_app (hleb _) ?_)
  split
  · exact sigB_u8 _
  split
  · exact U8s_app (putB_u8 _ _) (sigB_u8 _)
  split
  · rename_i hs
    have : 0 ≤ s.F_Wide ∧ s.F_Wide ≤ 255 := by cases hS <;> omega
    exact U8s_app (hleb _) (U8s_app (one_u8 this) (U8s_app (planeB_u8 _ _ _ _) (signsB_u8 _)))
  · exact U8s_app (hleb _) (signsB_u8 _)

/-- A frame's text, without its sum. -/
def textP (f : T_api_Frame) : List Int := [1, f.F_Kind] ++ (lebP f.F_From ++ (lebP f.F_Step ++ (if f.F_Kind = 1 then bodyP f.F_S else [])))

theorem textP_u8 {f : T_api_Frame} (h : frameOk f) : U8s (textP f) := by
  have hleb : ∀ n, U8s (lebP n) := fun n => lebP_u8 _ _ (Nat.le_refl _)
  have hk : f.F_Kind = 1 ∨ f.F_Kind = 2 := by rcases h.2 with h | h; exact .inl h.1; exact .inr h.1
  unfold textP
  refine U8s_app (by intro x hx; simp at hx; omega) (U8s_app (hleb _) (U8s_app (hleb _) ?_))
  split
  · rename_i h1
    rcases h.2 with h2 | h2
    · exact bodyP_u8 h2.2
    · omega
  · intro x hx; simp at hx

end Go.Proofs.YtelobmiooldoaaaGreat.Abs
