/- Plain facts on frames: acknowledgements read. Conditions: none. -/
import Derived.Test.YthhcgcaefjmekaaPF2
namespace Go.Proofs.Ythhcgcaefjmekaa.Abs
open Go Go.RowKit Go.IntWalk Crc
set_option linter.unusedVariables false
set_option linter.unnecessarySimpa false
set_option linter.unusedSimpArgs false
set_option maxRecDepth 100000

theorem part_good (b : List Int) (k n : Nat) (hb : b.length ≤ 140737488355328) (h : k + n ≤ b.length) : M_thrum_frame_reader_part ⟨⟨b, (k : Int)⟩, false⟩ (n : Int) = some ((b.drop k).take n, b, ((k + n : Nat) : Int), false) := by
  rw [M_thrum_frame_reader_part]
  simp only [Bool.false_eq_true, if_false]
  rw [i64_in ((b.length : Int) - k) (by omega), if_neg (by omega), i64_in ((k : Int) + n) (by omega), i64_in _ (by omega), if_pos (by simp only [cutOk, Option.getD_some]; omega)]
  congr 1
  refine Prod.ext ?_ (Prod.ext rfl (Prod.ext (by simp) rfl))
  simp only [cut', Option.getD_some]
  rw [show ((k : Int) + n - n).toNat = k by omega, show ((k : Int) + n).toNat = k + n by omega]
  simp [List.drop_take]

theorem small_good (b : List Int) (k : Nat) {x : Int} {t : List Int} (hb : b.length ≤ 140737488355328) (hx : 0 ≤ x ∧ x ≤ 255) (h : b.drop k = x :: t) : M_thrum_frame_reader_small ⟨⟨b, (k : Int)⟩, false⟩ = some (x, b, ((k + 1 : Nat) : Int), false) := by
  have g := drop_at h
  have hp : M_thrum_frame_reader_part ⟨⟨b, (k : Int)⟩, false⟩ 1 = some ([x], b, ((k + 1 : Nat) : Int), false) := by
    have := part_good b k 1 hb (by omega)
    rw [h] at this; exact this
  rw [M_thrum_frame_reader_small, hp, bindS]
  show (if 0 ≤ (0 : Int) ∧ (0 : Int) < (([x] : List Int).length : Int) then some (IntKind.i64.wrap (at' [x] 0), b, ((k + 1 : Nat) : Int), false) else none) = _
  rw [if_pos (by simp), drop_at0, i64_in _ (by omega)]

theorem number_good (b : List Int) (k : Nat) (most n at' : Int) (hb : b.length ≤ 140737488355328) (hu : U8s b) (hk : k ≤ b.length) (h : getP b (k : Int) = (n, at', 0)) (hn : n ≤ most) : M_thrum_frame_reader_number ⟨⟨b, (k : Int)⟩, false⟩ most = some (n, b, at', false) := by
  rw [M_thrum_frame_reader_number]
  simp only
  rw [leb_Get_eq b k (by omega) hu (by omega), h, bindS, orB, orB, if_neg (by simp; omega)]

theorem must_eq (b : List Int) (k : Int) (bad ok : Bool) : M_thrum_frame_reader_must ⟨⟨b, k⟩, bad⟩ ok = some (b, k, bad || !ok) := by
  rw [M_thrum_frame_reader_must, orB]; simp

theorem read_ack {a b : Int} (ha : 0 ≤ a ∧ a < 64) (hb : 0 ≤ b ∧ b ≤ 1073741824) {bs : List (BitVec 8)} (h1 : ackT a b = bs.map Yn) (h2 : bs.length ≤ 22) : M_frame_Read ((sealB bs).map Yn) = some (2, a, b, 0, 0, 0, 0, 0) := by
  have hu := ackT_u8 ha.1 hb.1
  have hl := ackT_len (a := a) (b := b) (by omega) (by omega)
  have hopen := open_eq (sealB bs) (by rw [sealB_len]; omega)
  rw [open_seal (by omega)] at hopen
  rw [M_frame_Read, hopen, bindS, ← h1]
  simp only [ne_eq, not_true_eq_false, if_false]
  have e0 : ackT a b = [1, 2] ++ (lebP a ++ lebP b) := by simp [ackT]
  have e1 : ackT a b = ([1, 2] ++ lebP a) ++ (lebP b ++ []) := by simp [ackT]
  have s1 : M_thrum_frame_reader_small ⟨⟨ackT a b, 0⟩, false⟩ = some (1, ackT a b, 1, false) := small_good (ackT a b) 0 (x := 1) (t := 2 :: (lebP a ++ lebP b)) (by omega) (by omega) (by rw [e0]; rfl)
  have s2 : M_thrum_frame_reader_small ⟨⟨ackT a b, 1⟩, false⟩ = some (2, ackT a b, 2, false) := small_good (ackT a b) 1 (x := 2) (t := lebP a ++ lebP b) (by omega) (by omega) (by rw [e0]; rfl)
  have p1 := getP_put [1, 2] (lebP b) a (by omega) (by simp)
  rw [← e0] at p1
  have la := lebP_le a (by omega)
  have p2 := getP_put ([1, 2] ++ lebP a) [] b (by omega) (by simp; omega)
  rw [← e1] at p2
  have hlen : (ackT a b).length = 2 + (lebP a).length + (lebP b).length := by rw [e0]; simp; omega
  have n1 : M_thrum_frame_reader_number ⟨⟨ackT a b, 2⟩, false⟩ 63 = _ := number_good (ackT a b) 2 63 a _ (by omega) hu (by omega) p1 (by omega)
  have n2 := number_good (ackT a b) (2 + (lebP a).length) 1073741824 b (((2 + (lebP a).length + (lebP b).length : Nat) : Int)) (by omega) hu (by omega) (by
    rw [show (((2 + (lebP a).length : Nat) : Int)) = ((([1, 2] ++ lebP a).length : Nat) : Int) by simp; omega, p2]
    refine Prod.ext rfl (Prod.ext ?_ rfl)
    simp; omega) (by omega)
  rw [s1, bindS]
  simp only [must_eq, bindS, beq_self_eq_true, Bool.not_true, Bool.or_self]
  rw [s2, bindS]
  simp only
  rw [n1, bindS]
  simp only [List.length_cons, List.length_nil]
  rw [show (((0 + 1 + 1 : Nat) : Int)) + ((lebP a).length : Int) = ((2 + (lebP a).length : Nat) : Int) by omega, n2, bindS]
  simp only [Int.reduceEq, if_false, bindS, Bool.false_eq_true]
  rw [if_neg (by omega), i64_in a (by omega), i64_in b (by omega)]
  show (M_frame_Check ⟨2, a, b, zeroS⟩ >>= _) = _
  rw [fCheck_eq (f := ⟨2, a, b, zeroS⟩) zero_fit, if_pos (show frameOk ⟨2, a, b, zeroS⟩ from ⟨⟨ha.1, ha.2, hb.1, hb.2⟩, .inr ⟨rfl, rfl⟩⟩), bindS]
  rfl

theorem FrameAcks_true (a b : Int) (ha : -9223372036854775808 ≤ a ∧ a ≤ 9223372036854775807) (hb : -9223372036854775808 ≤ b ∧ b ≤ 9223372036854775807) : M_thrumlaw07_FrameAcks a b = some true := by
  rw [M_thrumlaw07_FrameAcks, live7_eq, bindS, if_neg (by simp), M_frame_Ack, bindS]
  show (M_frame_Write (ackF a b) >>= _) = _
  by_cases hok : (0 ≤ a ∧ a < 64) ∧ 0 ≤ b ∧ b ≤ 1073741824
  · obtain ⟨bs, h1, h2, h3⟩ := write_ack hok.1 hok.2
    rw [h3, bindS]
    simp only [orB]
    rw [if_neg (by simp; omega), read_ack hok.1 hok.2 h1 h2, bindS]
    have hp := refPut_eq [] [IntKind.u64.wrap a, IntKind.u64.wrap b] (by simp) (by intro n hn; simp at hn; rcases hn with rfl | rfl <;> exact u64_ge _) (by
      have := flat_lebP_le [IntKind.u64.wrap a, IntKind.u64.wrap b] (by intro n hn; simp at hn; rcases hn with rfl | rfl <;> exact (u64_ge _).2)
      simp only [List.length_cons, List.length_nil] at this ⊢; omega)
    rw [u64_in _ (by omega), u64_in b (by omega)] at hp
    rw [u64_in _ (by omega), u64_in b (by omega), hp]
    have hlen : bs.length = 2 + ([a, b].flatMap lebP).length := by
      have := congrArg List.length h1
      simp only [ackT, List.length_append, List.length_map, List.length_cons, List.length_nil] at this
      omega
    have hl22 : ([a, b].flatMap lebP).length ≤ 20 := by omega
    simp only [if_true, bindS, andB, List.nil_append, List.length_map, sealB_len]
    rw [i64_in (2 + _) (by omega), i64_in _ (by omega), hlen]
    simp
  · rw [write_no (f := ackF a b) zero_fit (by rintro ⟨⟨h1, h2, h3, h4⟩, _⟩; exact hok ⟨⟨h1, h2⟩, h3, h4⟩), bindS]
    simp only [orB]
    rw [if_pos (by simp; omega)]
    have := fCheck_eq (f := ackF a b) zero_fit
    rw [if_neg (by rintro ⟨⟨h1, h2, h3, h4⟩, _⟩; exact hok ⟨⟨h1, h2⟩, h3, h4⟩)] at this
    simp only [if_true, bindS, show ((1 : Int) == 1) = true from rfl]
    have h8 : M_frame_Check ⟨2, a, b, ⟨0, 0, [], [], 0, 0, [], []⟩⟩ = some 1 := this
    simp only [h8]
    rfl
end Go.Proofs.Ythhcgcaefjmekaa.Abs
