/- Plain facts on frames: two statements. Conditions: none. -/
import Derived.Test.YthhcgcaefjmekaaPF1
namespace Go.Proofs.Ythhcgcaefjmekaa.Abs
open Go Go.RowKit Go.IntWalk Crc
set_option linter.unusedVariables false
set_option linter.unnecessarySimpa false
set_option linter.unusedSimpArgs false
set_option maxRecDepth 100000

theorem ok_bools {B : Nat} {x : D} (h : (Ty.lst B .bool).ok x) : ∃ l : List Bool, x = .lst (l.map D.bool) ∧ l.length * B ≤ 140737488351232 ∧ ∀ n ∈ l, True :=
  ok_list (fun y hy => by obtain ⟨b, rfl⟩ := ok_bool hy; exact ⟨b, rfl, trivial⟩) h

theorem zero_fit : FitS zeroS := ⟨by simp [zeroS], by simp [zeroS], by simp [zeroS], by simp [zeroS], by simp [zeroS]⟩
theorem zero_may : mayP zeroS = false := by decide

def ackF (a b : Int) : T_api_Frame := ⟨2, a, b, zeroS⟩
def ackT (a b : Int) : List Int := [1, 2] ++ [a, b].flatMap lebP

theorem ackT_u8 {a b : Int} (ha : 0 ≤ a) (hb : 0 ≤ b) : U8s (ackT a b) := by
  unfold ackT
  refine U8s_app (by intro x hx; simp at hx; omega) ?_
  simp only [List.flatMap_cons, List.flatMap_nil, List.append_nil]
  exact U8s_app (lebP_u8 _ _ (Nat.le_refl _)) (lebP_u8 _ _ (Nat.le_refl _))
theorem ackT_len {a b : Int} (ha : a ≤ 18446744073709551615) (hb : b ≤ 18446744073709551615) : (ackT a b).length ≤ 22 := by
  have := lebP_le a ha
  have := lebP_le b hb
  simp [ackT]; omega

theorem write_ack {a b : Int} (ha : 0 ≤ a ∧ a < 64) (hb : 0 ≤ b ∧ b ≤ 1073741824) : ∃ bs : List (BitVec 8), ackT a b = bs.map Yn ∧ bs.length ≤ 22 ∧ M_frame_Write (ackF a b) = some ((sealB bs).map Yn, 0) := by
  obtain ⟨bs, hbs⟩ := bytes_of (ackT_u8 ha.1 hb.1)
  have hl := ackT_len (a := a) (b := b) (by omega) (by omega)
  have hlb : bs.length ≤ 22 := by rw [hbs] at hl; simpa using hl
  refine ⟨bs, hbs, hlb, ?_⟩
  rw [M_frame_Write, fCheck_eq (f := ackF a b) zero_fit, bindS, if_pos (show frameOk (ackF a b) from ⟨⟨ha.1, ha.2, hb.1, hb.2⟩, .inr ⟨rfl, rfl⟩⟩), if_neg (by simp)]
  show (M_leb_Put [1, IntKind.u8.wrap 2] [IntKind.u64.wrap a, IntKind.u64.wrap b] >>= _) = _
  rw [u64_in _ (by omega), u64_in b (by omega), leb_Put_eq _ _ (by simp) (by
    have := flat_lebP_le [a, b] (by intro n hn; simp at hn; omega)
    simp only [List.length_cons, List.length_nil] at this ⊢; omega), bindS, if_neg (by simp [ackF])]
  rw [show ([1, IntKind.u8.wrap 2] : List Int) ++ [a, b].flatMap lebP = bs.map Yn from hbs, seal_in bs (by omega)]; rfl

theorem write_no {f : T_api_Frame} (hf : FitS f.F_S) (h : ¬ frameOk f) : M_frame_Write f = some ([], 1) := by
  rw [M_frame_Write, fCheck_eq hf, bindS, if_neg h, if_pos (by simp)]

theorem lebP_300 : lebP 300 = [172, 2] := by
  rw [lebP, if_pos (by omega), shr7, lebP_small (by omega)]; rfl

theorem sealB_len (bs : List (BitVec 8)) : (sealB bs).length = bs.length + 4 := by simp [sealB, le4_len]
theorem sealB_take (bs : List (BitVec 8)) : (sealB bs).take bs.length = bs := by simp [sealB]

theorem live7_eq : M_thrumlaw07_live = some true := by
  obtain ⟨bs, h1, h2, h3⟩ := write_ack (a := 3) (b := 300) (by omega) (by omega)
  have h4 : ackT 3 300 = [1, 2, 3, 172, 2] := by simp [ackT, lebP_300, lebP_small, u8_in]
  rw [h4] at h1
  have h5 : bs.length = 5 := by have := congrArg List.length h1; simpa using this.symm
  rw [M_thrumlaw07_live, M_frame_Ack, bindS]
  show (M_frame_Write (ackF 3 300) >>= _) = _
  rw [h3, bindS]
  simp only [if_pos, List.length_map, sealB_len, h5]
  have hc : cutOk none (some 5) (5 + 4) := by simp [cutOk]
  rw [bindS, if_pos (by decide), if_pos hc, cut_to]
  have h6 : List.take (5 : Int).toNat ((sealB bs).map Yn) = [1, 2, 3, 172, 2] := by
    rw [← List.map_take, h1]
    congr 1
    have := sealB_take bs
    rw [h5] at this; exact this
  rw [h6, Same_eq _ _ (by intro x hx; simp at hx; omega) (by intro x hx; simp at hx; omega)]
  rfl

theorem Big_eq (s : T_api_Sent) : M_thrumref07_Big s = some (decide ((s.F_L.length : Int) > 500) || decide ((s.F_V.length : Int) > 500) || decide ((s.F_Lev.length : Int) > 500) || decide ((s.F_Neg.length : Int) > 500)) := by
  rw [M_thrumref07_Big]
  simp only [orB, bindS, Bool.decide_eq_true]

theorem bend_V {s : T_api_Sent} (h : mayP s = true) : mayP { s with F_V := s.F_V ++ [1] } = false := by
  by_cases c0 : s.F_Scheme = 0
  · simp [mayP, bareP, c0, zeroS, dimOk] at h ⊢; omega
  by_cases c1 : s.F_Scheme = 1
  · simp [mayP, bareP, c0, c1, zeroS, dimOk] at h ⊢; omega
  by_cases c2 : s.F_Scheme = 2
  · simp [mayP, bareP, c0, c1, c2, zeroS, dimOk] at h ⊢
  by_cases c3 : s.F_Scheme = 3
  · simp [mayP, bareP, c0, c1, c2, c3, zeroS, dimOk] at h ⊢
  · simp [mayP, bareP, c0, c1, c2, c3] at h

theorem check_snoc (dim : Int) (l : List Int) : checkP dim (l ++ [dim]) ≠ 0 := by
  intro h
  have := (placed_iff.1 h).2.2 dim (by simp)
  omega

theorem bend_L {s : T_api_Sent} (h : mayP s = true) : mayP { s with F_L := s.F_L ++ [s.F_Dim] } = false := by
  by_cases c0 : s.F_Scheme = 0
  · simp [mayP, bareP, c0, zeroS, dimOk] at h ⊢
  by_cases c1 : s.F_Scheme = 1
  · simp [mayP, bareP, c0, c1, zeroS, dimOk, check_snoc]
  by_cases c2 : s.F_Scheme = 2
  · simp [mayP, bareP, c0, c1, c2, zeroS, dimOk] at h ⊢
  by_cases c3 : s.F_Scheme = 3
  · simp [mayP, bareP, c0, c1, c2, c3, zeroS, dimOk] at h ⊢
  · simp [mayP, bareP, c0, c1, c2, c3] at h

theorem bend_S {s : T_api_Sent} (h : mayP s = true) : mayP { s with F_Scale := -1 } = false := by
  by_cases c0 : s.F_Scheme = 0
  · simp [mayP, bareP, c0, zeroS, dimOk] at h ⊢
  by_cases c1 : s.F_Scheme = 1
  · simp [mayP, bareP, c0, c1, zeroS, dimOk] at h ⊢
  by_cases c2 : s.F_Scheme = 2
  · simp [mayP, bareP, c0, c1, c2, zeroS, dimOk] at h ⊢
  by_cases c3 : s.F_Scheme = 3
  · simp [mayP, bareP, c0, c1, c2, c3, zeroS, dimOk] at h ⊢
  · simp [mayP, bareP, c0, c1, c2, c3] at h

theorem not_ok {f : T_api_Frame} (h1 : mayP f.F_S = false) (h2 : f.F_S ≠ zeroS) : ¬ frameOk f := by
  rintro ⟨_, ⟨_, h⟩ | ⟨_, h⟩⟩
  · rw [h1] at h; cases h
  · exact h2 h

theorem FrameBends_true (f : T_api_Frame) (hf : FitS f.F_S) : M_thrumlaw07_FrameBends f = some true := by
  rw [M_thrumlaw07_FrameBends, live7_eq, bindS, if_neg (by simp), Big_eq, bindS, fCheck_eq hf]
  generalize hbig : (decide ((f.F_S.F_L.length : Int) > 500) || decide ((f.F_S.F_V.length : Int) > 500) || decide ((f.F_S.F_Lev.length : Int) > 500) || decide ((f.F_S.F_Neg.length : Int) > 500)) = big
  cases big with
  | true => rfl
  | false =>
    simp only [Bool.or_eq_false_iff, decide_eq_false_iff_not, Int.not_lt, gt_iff_lt] at hbig
    obtain ⟨⟨⟨b1, b2⟩, b3⟩, b4⟩ := hbig
    by_cases hok : frameOk f
    rotate_left
    · rw [if_neg hok]; rfl
    rw [if_pos hok]
    obtain ⟨⟨o1, o2, o3, o4⟩, hk⟩ := hok
    have g1 : ¬ frameOk ⟨f.F_Kind, 64, f.F_Step, f.F_S⟩ := by rintro ⟨⟨_, h, _⟩, _⟩; simp at h
    have hdim : mayP f.F_S = true → f.F_S ≠ zeroS := by rintro h e; rw [e, zero_may] at h; cases h
    have hkw : IntKind.i64.wrap (3 - f.F_Kind) = 3 - f.F_Kind := by rcases hk with ⟨h, _⟩ | ⟨h, _⟩ <;> rw [h] <;> rfl
    have g2 : ¬ frameOk ⟨IntKind.i64.wrap (3 - f.F_Kind), f.F_From, f.F_Step, f.F_S⟩ := by
      rw [hkw]
      rintro ⟨_, ⟨h, h'⟩ | ⟨h, h'⟩⟩ <;> simp only at h h' <;> rcases hk with ⟨k, k'⟩ | ⟨k, k'⟩
      · omega
      · rw [k', zero_may] at h'; cases h'
      · exact hdim k' h'
      · omega
    have gz : ∀ s : T_api_Sent, (mayP f.F_S = true → mayP s = false) → (f.F_S = zeroS → s ≠ zeroS ∧ mayP s = false) → (mayP f.F_S = true → s ≠ zeroS) → mayP s = false ∧ s ≠ zeroS := by
      intro s h1 h2 h3
      rcases hk with ⟨_, k⟩ | ⟨_, k⟩
      · exact ⟨h1 k, h3 k⟩
      · exact ⟨(h2 k).2, (h2 k).1⟩
    obtain ⟨v1, v2⟩ := gz { f.F_S with F_V := f.F_S.F_V ++ [1] } bend_V (fun e => by rw [e]; exact ⟨by simp [zeroS], by decide⟩) (fun _ => by simp [zeroS])
    obtain ⟨l1, l2⟩ := gz { f.F_S with F_L := f.F_S.F_L ++ [f.F_S.F_Dim] } bend_L (fun e => by rw [e]; exact ⟨by simp [zeroS], by decide⟩) (fun _ => by simp [zeroS])
    obtain ⟨s1, s2⟩ := gz { f.F_S with F_Scale := -1 } bend_S (fun e => by rw [e]; exact ⟨by simp [zeroS], by decide⟩) (fun _ => by simp [zeroS])
    have fitV : FitS { f.F_S with F_V := f.F_S.F_V ++ [1] } := ⟨hf.L, by simp; omega, hf.Lev, hf.Neg, hf.u⟩
    have fitL : FitS { f.F_S with F_L := f.F_S.F_L ++ [f.F_S.F_Dim] } := ⟨by simp; omega, hf.V, hf.Lev, hf.Neg, hf.u⟩
    have fitS : FitS { f.F_S with F_Scale := -1 } := ⟨hf.L, hf.V, hf.Lev, hf.Neg, hf.u⟩
    have c1 := fCheck_eq (f := ⟨f.F_Kind, 64, f.F_Step, f.F_S⟩) hf
    have c2 := fCheck_eq (f := ⟨IntKind.i64.wrap (3 - f.F_Kind), f.F_From, f.F_Step, f.F_S⟩) hf
    have c3 := fCheck_eq (f := ⟨f.F_Kind, f.F_From, f.F_Step, { f.F_S with F_V := f.F_S.F_V ++ [1] }⟩) fitV
    have c4 := fCheck_eq (f := ⟨f.F_Kind, f.F_From, f.F_Step, { f.F_S with F_L := f.F_S.F_L ++ [f.F_S.F_Dim] }⟩) fitL
    have c5 := fCheck_eq (f := ⟨f.F_Kind, f.F_From, f.F_Step, { f.F_S with F_Scale := -1 }⟩) fitS
    rw [if_neg g1] at c1
    rw [if_neg g2] at c2
    rw [if_neg (not_ok v1 v2)] at c3
    rw [if_neg (not_ok l1 l2)] at c4
    rw [if_neg (not_ok s1 s2)] at c5
    have r1 : room 8 (f.F_S.F_V : List Int).length := room8 (by omega)
    have r2 : room 8 (f.F_S.F_V ++ [1]).length := room8 (by simp; omega)
    have r3 : room 8 (f.F_S.F_L : List Int).length := room8 (by omega)
    have r4 : room 8 (f.F_S.F_L ++ [f.F_S.F_Dim]).length := room8 (by simp; omega)
    simp only [bindS, Bool.false_eq_true, if_false, bne_self_eq_false, c1, c2, c3, c4, c5, if_pos r1, if_pos r2, if_pos r3, if_pos r4, if_true, may_eq hf, Int.reduceEq, ne_eq, not_false_eq_true]
    congr 1
    rcases hk with ⟨k, k'⟩ | ⟨k, k'⟩
    · rw [k, k']; rfl
    · rw [k, k', zero_may]; rfl
end Go.Proofs.Ythhcgcaefjmekaa.Abs
