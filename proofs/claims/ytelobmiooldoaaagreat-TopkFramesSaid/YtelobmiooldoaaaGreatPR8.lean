/- Plain facts: what is pressed goes as a frame. Conditions: none. -/
import Derived.Test.YtelobmiooldoaaaGreatPHb
namespace Go.Proofs.YtelobmiooldoaaaGreat.Abs
open Go Go.RowKit Go.IntWalk Crc
set_option linter.unusedVariables false
set_option linter.unnecessarySimpa false
set_option linter.unusedSimpArgs false
set_option linter.unusedSectionVars false
set_option maxRecDepth 100000

theorem Press_all (k0 : Int) (v : List Int) (hi : I64s v) (hv : v.length ≤ 200 ∨ 4096 < v.length ∧ v.length ≤ 5000) :
    (∃ e, e ≠ 0 ∧ M_topk_Press k0 v = some (0, 0, [], [], 0, 0, e)) ∨
    ∃ l, M_topk_Press k0 v = some (1, (v.length : Int), l, l.map (at' v), 0, 0, 0) ∧ rising l = true ∧ (∀ n ∈ l, 0 ≤ n ∧ n < (v.length : Int)) ∧ l.length ≤ v.length ∧ 0 < v.length ∧ v.length ≤ 200 := by
  rw [M_topk_Press]
  by_cases h0 : (v.length : Int) = 0
  · exact .inl ⟨1, by omega, by rw [if_pos h0]⟩
  rw [if_neg h0]
  by_cases h4 : 4096 < v.length
  · rw [Pick_long k0 v h4, bindS]
    exact .inl ⟨3, by omega, by rw [if_pos (by simp)]⟩
  by_cases hk : k0 < 0 ∨ (v.length : Int) < k0
  · rw [Pick_bad k0 v (by omega) hk, bindS]
    exact .inl ⟨1, by omega, by rw [if_pos (by simp)]⟩
  obtain ⟨k, rfl⟩ : ∃ k : Nat, k0 = k := ⟨k0.toNat, by omega⟩
  obtain ⟨pk, lk⟩ := Pick_ok k v (by omega) (by omega)
  have hin : ∀ n ∈ pickP k v, 0 ≤ n ∧ n < (v.length : Int) := fun n hn => by obtain ⟨i, h1, rfl, _⟩ := (pick_mem k v n).1 hn; omega
  rw [pk, bindS]
  simp only
  rw [if_neg (by simp), Gather_eq _ v (by omega) (pickP_rising k v) hin, bindS]
  simp only
  rw [if_neg (by simp)]
  exact .inr ⟨pickP k v, rfl, pickP_rising k v, hin, by omega, by omega, by omega⟩

theorem TopkFrames_true (k0 : Int) (v : List Int) (hi : I64s v) : M_thrumlaw09_TopkFrames k0 v = some true := by
  obtain ⟨b, hb1, hb2⟩ := few9_eq v
  rw [M_thrumlaw09_TopkFrames, live9_eq, bindS, if_neg (by simp), hb1, bindS]
  cases b with
  | false => rw [if_pos rfl]
  | true =>
  rw [if_neg (by simp)]
  rcases Press_all k0 v hi (hb2 rfl) with ⟨e, he, h⟩ | ⟨l, h, hr, hin, hl, h0, h2⟩
  · rw [h, bindS]
    simp only
    rw [if_pos he, if_true, bindS]; rfl
  rw [h, bindS]
  simp only
  rw [if_neg (by simp)]
  have hI : ∀ n ∈ l.map (at' v), I64 n := by
    intro n hn
    obtain ⟨x, hx, rfl⟩ := List.mem_map.1 hn
    have := hin x hx
    obtain ⟨q, rfl⟩ : ∃ q : Nat, x = (q : Int) := ⟨x.toNat, by omega⟩
    have hq : q < v.length := by omega
    rw [at'_nat, List.getD_eq_getElem?_getD, List.getElem?_eq_getElem hq]
    exact hi _ (List.getElem_mem hq)
  have hfit : FitV (⟨1, (v.length : Int), l, l.map (at' v), 0, 0, [], []⟩ : T_api_Sent) := ⟨⟨by simp only; omega, by simp only [List.length_map]; omega, by simp, by simp, by simp⟩, hI, by simp [I64]⟩
  have hc : checkP (v.length : Int) l = 0 := placed_iff.2 ⟨by simp only [meas, Bool.and_eq_true, decide_eq_true_eq]; omega, hr, hin⟩
  have hmay : mayP (⟨1, (v.length : Int), l, l.map (at' v), 0, 0, [], []⟩ : T_api_Sent) = true := may_iff.2 (.top (by simp only; omega) (by simp only; omega) rfl hc (by simp) (by simp))
  have hok : frameOk (⟨1, 0, 0, ⟨1, (v.length : Int), l, l.map (at' v), 0, 0, [], []⟩⟩ : T_api_Frame) := ⟨⟨by simp, by simp, by simp, by simp⟩, .inl ⟨rfl, hmay⟩⟩
  have hsm := textP_small (f := (⟨1, 0, 0, ⟨1, (v.length : Int), l, l.map (at' v), 0, 0, [], []⟩⟩ : T_api_Frame)) hfit hok (by simp only [List.length_map]; omega) (by simp only; omega)
  have hw := Write_eq (f := (⟨1, 0, 0, ⟨1, (v.length : Int), l, l.map (at' v), 0, 0, [], []⟩⟩ : T_api_Frame)) hfit (fun _ => by omega)
  rw [if_pos hok] at hw
  have hrd := read_C (f := (⟨1, 0, 0, ⟨1, (v.length : Int), l, l.map (at' v), 0, 0, [], []⟩⟩ : T_api_Frame)) hfit hok (by omega)
  have hg := Gather_eq l v (by omega) hr hin
  have hs := SameSent_eq (a := (⟨1, (v.length : Int), l, l.map (at' v), 0, 0, [], []⟩ : T_api_Sent)) (b := (⟨1, (v.length : Int), l, l.map (at' v), 0, 0, [], []⟩ : T_api_Sent)) hfit.fit.lens
  rw [decide_eq_true rfl] at hs
  have h9 := eqLoop (M_thrumlaw09_TopkFrames_l0 true (1, (v.length : Int), l, l.map (at' v), 0, 0, 0) (l.map (at' v), 0)) (l.map (at' v)) (l.map (at' v)) (fun k => by rw [M_thrumlaw09_TopkFrames_l0]) rfl (by simp only [List.length_map]; omega) (l.map (at' v)) (l.map (at' v)) 0 rfl rfl
  rw [show ((0 : Nat) : Int) = 0 from rfl, if_pos rfl] at h9
  rw [hw, bindS]
  simp only
  simp only at hrd
  rw [hrd, bindS, hg, bindS]
  simp only
  rw [if_neg (by simp), bindS, if_neg (by simp), bindS, if_neg (by simp), may_eq hfit.fit, bindS, bindS, hmay, if_neg (by simp), hs, bindS, bindS, if_neg (by simp), bindS, if_neg (by simp), bindS, if_neg (by simp), h9]
  rfl
end Go.Proofs.YtelobmiooldoaaaGreat.Abs
