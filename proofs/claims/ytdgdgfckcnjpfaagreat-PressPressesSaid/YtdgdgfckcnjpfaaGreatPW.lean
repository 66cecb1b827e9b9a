/- Walks of functions, printed by a program. Conditions: none. -/
import Derived.Test.YtdgdgfckcnjpfaaGreatProg
import Derived.Test.YtdgdgfckcnjpfaaGreatAbsG8
import Derived.Test.YtdgdgfckcnjpfaaGreatPM
namespace Go.Proofs.YtdgdgfckcnjpfaaGreat.Abs
open Go Go.RowKit
set_option linter.unusedVariables false
set_option maxRecDepth 100000
open Z
def T_api_How.e : Enc T_api_How := ⟨T_api_How.en, 3, fun _ => rfl⟩
def T_topk_one.e : Enc T_topk_one := ⟨T_topk_one.en, 2, fun _ => rfl⟩
def T_api_Sent.e : Enc T_api_Sent := ⟨T_api_Sent.en, 8, fun _ => rfl⟩
abbrev HS {ρ : Type} (n : Nat) (m : Option ρ) (ds : List D) (en : ρ → PV) : Prop := Sg.Holds (P := Tryz.prog) ⟨n, m, ds, en⟩
abbrev HG {ρ : Type} (n : Nat) (m : Option ρ) (ps : List PV) (bx : List (Tg × List PV)) (en : ρ → PV) (bx' : ρ → List (Tg × List PV)) : Prop := SgG.Holds (P := Tryz.prog) ⟨n, m, ps, bx, en, bx'⟩
def en_vec_pair (v : Int) : PV := nI v
noncomputable abbrev F_vec_pair : Fe := .of Tryz.prog 57 en_vec_pair
theorem nl_vec_pair : ∀ v, (en_vec_pair v).noLst := fun _ => trivial
theorem ok_vec_pair (a0 : List Int) (a1 : List Int) : HS 57 (M_vec_pair a0 a1) [.lst (List.map (D.int .i64) a0), .lst (List.map (D.int .i64) a1)] en_vec_pair := Tr.fn (F := F_vec_pair)
 (.len 9 eI a0 <| .len 1 eI a1 <| .ite 4 5 ((if (a1.length : Int) > (a0.length : Int) then (a1.length : Int) else (a0.length : Int)) > 4096)
  (.ret 8 3)
  (.len 4 eI a0 <| .len 1 eI a1 <| .iteN 3 12 ((a0.length : Int) = (a1.length : Int))
  (.ret 8 4)
  (.ret 8 0)))
def en_fix_Add (v : Int × Int) : PV := .tup [nI v.1, nI v.2]
noncomputable abbrev F_fix_Add : Fe := .of Tryz.prog 60 en_fix_Add
theorem nl_fix_Add : ∀ v, (en_fix_Add v).noLst := fun _ => ⟨trivial, trivial, trivial⟩
theorem ok_fix_Add (a0 : Int) (a1 : Int) : HS 60 (M_fix_Add a0 a1) [.int .i64 a0, .int .i64 a1] en_fix_Add := Tr.fn (F := F_fix_Add)
 (.ite 24 17 ((bAnd .i64 (bXor .i64 a0 (IntKind.i64.wrap (a0 + a1))) (bXor .i64 a1 (IntKind.i64.wrap (a0 + a1)))) < 0)
  (.ret 8 (0, 2))
  (.ret 9 (IntKind.i64.wrap (a0 + a1), 0)))
noncomputable abbrev F_vec_Add_1_c_c : Fe := .of Tryz.prog 59 en_fix_Add
theorem ok_vec_Add_1_c_c (a0 : Int) (a1 : List Int) (a2 : List Int) : HS 59 (M_vec_Add_1_c_c a0 a1 a2) [.int .i64 a0, .cp [.lst (List.map (D.int .i64) a1)] 0, .cp [.lst (List.map (D.int .i64) a2)] 0] en_fix_Add := Tr.fn (F := F_vec_Add_1_c_c)
 (.idx 9 eI a1 a0 <| .idx 3 eI a2 a0 <| .call 1 (ok_fix_Add (at' a1 a0) (at' a2 a0)) nl_fix_Add fun r1 => .ret 6 (r1.1, r1.2))
def en_vec_each_vec_Add_1 (v : (List Int) × Int) : PV := .tup [sI (.s 0) v.1, nI v.2]
noncomputable abbrev F_vec_each_vec_Add_1 : Fe := .of Tryz.prog 58 en_vec_each_vec_Add_1
def S_vec_each_vec_Add_1_l0 (a1 : List Int) (a2 : List Int) (y1 : List Int) (x0 : Int) (x1 : List Int) : St := ⟨[(13, nI x0), (12, nI (y1.length : Int)), (6, sI (.h 0) x1), (1, .d (.clo (.func 59) [] [.cp [.lst (List.map (D.int .i64) a1)] 0, .cp [.lst (List.map (D.int .i64) a2)] 0]))], []⟩
def E_vec_each_vec_Add_1_l0 (a1 : List Int) (a2 : List Int) (y1 : List Int) (x : (List Int)) : St := ⟨[(6, sI (.h 1) x)], []⟩
theorem ok_vec_each_vec_Add_1_l0 (a1 : List Int) (a2 : List Int) (y1 : List Int) : ∀ (x0 : Int) (x1 : List Int), Ok (M_vec_each_vec_Add_1_l0 a1 a2 y1 x0 x1) (LR F_vec_each_vec_Add_1 (.exit 0) (E_vec_each_vec_Add_1_l0 a1 a2 y1) 58 0 (S_vec_each_vec_Add_1_l0 a1 a2 y1 x0 x1)) := by
 refine M_vec_each_vec_Add_1_l0.partial_correctness a1 a2 y1 _ ?_
 intro f IH x0 x1
 exact Tr.lpR (F := F_vec_each_vec_Add_1) (X := Int × (List Int))
  (.ite 6 14 (x0 < (y1.length : Int))
   (.call 19 (ok_vec_Add_1_c_c x0 a1 a2) nl_fix_Add fun r3 => .idx 3 eI x1 x0 <| .sto 0 [6] eI x1 x0 r3.1 <| .let_ (x1.set (Int.toNat x0) r3.1 : List Int) fun y4 => .iteN 7 26 (r3.2 = 0)
   (.ret 11 (.inl ([], r3.2)))
   (.again 7 (IntKind.i64.wrap (x0 + 1), y4)))
   (.ret 4 (.inr x1))) _ fun x r => IH x.1 x.2 r
theorem nl_vec_each_vec_Add_1 : ∀ v, (en_vec_each_vec_Add_1 v).noLst := fun _ => ⟨(flat_map_of fun _ => trivial), trivial, trivial⟩
theorem ok_vec_each_vec_Add_1 (a0 : Int) (a1 : List Int) (a2 : List Int) : HS 58 (M_vec_each_vec_Add_1 a0 a1 a2) [.int .i64 a0, .clo (.func 59) [] [.cp [.lst (List.map (D.int .i64) a1)] 0, .cp [.lst (List.map (D.int .i64) a2)] 0]] en_vec_each_vec_Add_1 := Tr.fn (F := F_vec_each_vec_Add_1)
 (.mk 8 eI 8 0 a0 a0 <| .let_ (List.replicate (Int.toNat a0) 0 : List Int) fun y1 => .len 6 eI y1 <| .loopR 4 id ⟨_, _, _, _, _, ok_vec_each_vec_Add_1_l0 a1 a2 y1 0 y1⟩ fun j6 => .ret 8 (j6, 0))
noncomputable abbrev F_vec_Add : Fe := .of Tryz.prog 30 en_vec_each_vec_Add_1
theorem ok_vec_Add (a0 : List Int) (a1 : List Int) : HS 30 (M_vec_Add a0 a1) [.lst (List.map (D.int .i64) a0), .lst (List.map (D.int .i64) a1)] en_vec_each_vec_Add_1 := Tr.fn (F := F_vec_Add)
 (.call 12 (ok_vec_pair a0 a1) nl_vec_pair fun r1 => .iteN 7 11 (r1 = 0)
  (.ret 9 ([], r1))
  (.len 5 eI a0 <| .call 1 (ok_vec_each_vec_Add_1 (a0.length : Int) a0 a1) nl_vec_each_vec_Add_1 fun r2 => .ret 6 (r2.1, r2.2)))
noncomputable abbrev F_vec_Check : Fe := .of Tryz.prog 33 en_vec_pair
theorem ok_vec_Check (a0 : List Int) : HS 33 (M_vec_Check a0) [.lst (List.map (D.int .i64) a0)] en_vec_pair := Tr.fn (F := F_vec_Check)
 (.len 8 eI a0 <| .ite 2 5 ((a0.length : Int) > 4096)
  (.ret 7 3)
  (.ret 7 0))
def en_press_ways (v : Unit) : PV := .ptr (.s 14) 0
def bx_press_ways (v : Unit) : List (Tg × List PV) := [(.s 14, [.d (.int .i64 0), .d (.agg [.clo (.func 69) [] [], .clo (.func 70) [] [], .clo (.func 71) [] [], .clo (.func 73) [] []]), .d (.int .i64 1), .d (.agg [.clo (.func 74) [] [], .clo (.func 75) [] [], .clo (.func 77) [] [], .clo (.func 79) [] []]), .d (.int .i64 2), .d (.agg [.clo (.func 81) [] [], .clo (.func 82) [] [], .clo (.func 84) [] [], .clo (.func 85) [] []]), .d (.int .i64 3), .d (.agg [.clo (.func 69) [] [], .clo (.func 87) [] [], .clo (.func 89) [] [], .clo (.func 90) [] []])])]
noncomputable abbrev F_press_ways : Fe := .of Tryz.prog 34 en_press_ways bx_press_ways
theorem ok_press_ways : HG 34 M_press_ways [] [] en_press_ways bx_press_ways := Tr.fnG (F := F_press_ways)
 (.ret 19 ())
def en_press_bare (v : Bool) : PV := bB v
noncomputable abbrev F_press_bare : Fe := .of Tryz.prog 69 en_press_bare
theorem nl_press_bare : ∀ v, (en_press_bare v).noLst := fun _ => trivial
theorem ok_press_bare (a0 : T_api_How) (a1 : Int) : HS 69 (M_press_bare a0 a1) [.agg [.int .i64 a0.F_Scheme, .int .i64 a0.F_K, .int .i64 a0.F_Wide], .int .i64 a1] en_press_bare := Tr.fn (F := F_press_bare)
 (.join 11 4 (γ := Bool) ⟨fun x => [(12, bB x)], [], fun _ => [], []⟩
  (.ite 0 8 (a0.F_K = 0)
  (.ret 5 (a0.F_Wide == 0))
  (.ret 5 false))
  fun j1 => .ret 3 j1)
noncomputable abbrev F_press_ways_3 : Fe := .of Tryz.prog 74 en_press_bare
theorem ok_press_ways_3 (a0 : T_api_How) (a1 : Int) : HS 74 (M_press_ways_3 a0 a1) [.agg [.int .i64 a0.F_Scheme, .int .i64 a0.F_K, .int .i64 a0.F_Wide], .int .i64 a1] en_press_bare := Tr.fn (F := F_press_ways_3)
 (.join 11 5 (γ := Bool) ⟨fun x => [(13, bB x)], [2], fun _ => [], [.s 15]⟩
  (.ite 0 8 (a0.F_K ≥ 0)
  (.ret 6 (decide (a0.F_K ≤ a1)))
  (.ret 6 false))
  fun j1 => .join 1 4 (γ := Bool) ⟨fun x => [(18, bB x)], [], fun _ => [], []⟩
  (.iteB 0 14 (j1)
  (.ret 5 (a0.F_Wide == 0))
  (.ret 5 false))
  fun j2 => .ret 3 j2)
noncomputable abbrev F_press_ways_7 : Fe := .of Tryz.prog 81 en_press_bare
theorem ok_press_ways_7 (a0 : T_api_How) (a1 : Int) : HS 81 (M_press_ways_7 a0 a1) [.agg [.int .i64 a0.F_Scheme, .int .i64 a0.F_K, .int .i64 a0.F_Wide], .int .i64 a1] en_press_bare := Tr.fn (F := F_press_ways_7)
 (.join 11 4 (γ := Bool) ⟨fun x => [(12, bB x)], [2], fun _ => [], [.s 15]⟩
  (.ite 0 8 (a0.F_K = 0)
  (.ret 5 (decide (a0.F_Wide > 0)))
  (.ret 5 false))
  fun j1 => .join 1 4 (γ := Bool) ⟨fun x => [(17, bB x)], [], fun _ => [], []⟩
  (.iteB 0 13 (j1)
  (.ret 5 (decide (a0.F_Wide ≤ 8)))
  (.ret 5 false))
  fun j2 => .ret 3 j2)
noncomputable abbrev F_press_Check : Fe := .of Tryz.prog 17 en_vec_pair
theorem ok_press_Check (a0 : T_api_How) (a1 : Int) : HS 17 (M_press_Check a0 a1) [.agg [.int .i64 a0.F_Scheme, .int .i64 a0.F_K, .int .i64 a0.F_Wide], .int .i64 a1] en_vec_pair := Tr.fn (F := F_press_Check)
 (.draws 6 (.callG 2 [] [] ok_press_ways fun r1 => .hold 1 [] <| .hold 6 [] <| .cas 0 12 (a0.F_Scheme = (0 : Int)) (.d (.agg [.clo (.func 69) [] [], .clo (.func 70) [] [], .clo (.func 71) [] [], .clo (.func 73) [] []])) (.d (lookD a0.F_Scheme [(1, .agg [.clo (.func 74) [] [], .clo (.func 75) [] [], .clo (.func 77) [] [], .clo (.func 79) [] []]), (2, .agg [.clo (.func 81) [] [], .clo (.func 82) [] [], .clo (.func 84) [] [], .clo (.func 85) [] []]), (3, .agg [.clo (.func 69) [] [], .clo (.func 87) [] [], .clo (.func 89) [] [], .clo (.func 90) [] []])] (.agg [.nilfn, .nilfn, .nilfn, .nilfn]))) (.d (lookD a0.F_Scheme [(0, .agg [.clo (.func 69) [] [], .clo (.func 70) [] [], .clo (.func 71) [] [], .clo (.func 73) [] []]), (1, .agg [.clo (.func 74) [] [], .clo (.func 75) [] [], .clo (.func 77) [] [], .clo (.func 79) [] []]), (2, .agg [.clo (.func 81) [] [], .clo (.func 82) [] [], .clo (.func 84) [] [], .clo (.func 85) [] []]), (3, .agg [.clo (.func 69) [] [], .clo (.func 87) [] [], .clo (.func 89) [] [], .clo (.func 90) [] []])] (.agg [.nilfn, .nilfn, .nilfn, .nilfn]))) lookD_t lookD_f
  (.hold 2 [] <| .join 9 3 (γ := Bool) ⟨fun x => [(19, bB x)], [5, 2, 1], fun _ => [], [.s 1727, .s 15]⟩
  (.iteX 0 16 ((hasK a0.F_Scheme [0, 1, 2, 3]))
  (.ret 4 true)
  (.ret 4 (decide (a1 < 1))))
  fun j2 => .join 1 3 (γ := Bool) ⟨fun x => [(23, bB x)], [5, 2, 1], fun _ => [], [.s 1727, .s 15]⟩
  (.iteB 0 20 (j2)
  (.ret 4 true)
  (.ret 4 (decide (a1 > 4096))))
  fun j3 => .join 1 7 (γ := Bool) ⟨fun x => [(31, bB x)], [], fun _ => [], []⟩
  (.iteB 0 24 (j3)
  (.ret 8 true)
  (.call 4 (ok_press_bare a0 a1) nl_press_bare fun r4 => .ret 3 (!r4)))
  fun j5 => .iteB 1 31 (j5)
  (.ret 7 1)
  (.ret 7 0))
  (.cas 0 12 (a0.F_Scheme = (1 : Int)) (.d (.agg [.clo (.func 74) [] [], .clo (.func 75) [] [], .clo (.func 77) [] [], .clo (.func 79) [] []])) (.d (lookD a0.F_Scheme [(2, .agg [.clo (.func 81) [] [], .clo (.func 82) [] [], .clo (.func 84) [] [], .clo (.func 85) [] []]), (3, .agg [.clo (.func 69) [] [], .clo (.func 87) [] [], .clo (.func 89) [] [], .clo (.func 90) [] []])] (.agg [.nilfn, .nilfn, .nilfn, .nilfn]))) (.d (lookD a0.F_Scheme [(1, .agg [.clo (.func 74) [] [], .clo (.func 75) [] [], .clo (.func 77) [] [], .clo (.func 79) [] []]), (2, .agg [.clo (.func 81) [] [], .clo (.func 82) [] [], .clo (.func 84) [] [], .clo (.func 85) [] []]), (3, .agg [.clo (.func 69) [] [], .clo (.func 87) [] [], .clo (.func 89) [] [], .clo (.func 90) [] []])] (.agg [.nilfn, .nilfn, .nilfn, .nilfn]))) lookD_t lookD_f
  (.hold 2 [] <| .join 9 3 (γ := Bool) ⟨fun x => [(19, bB x)], [5, 2, 1], fun _ => [], [.s 1727, .s 15]⟩
  (.iteX 0 16 ((hasK a0.F_Scheme [0, 1, 2, 3]))
  (.ret 4 true)
  (.ret 4 (decide (a1 < 1))))
  fun j6 => .join 1 3 (γ := Bool) ⟨fun x => [(23, bB x)], [5, 2, 1], fun _ => [], [.s 1727, .s 15]⟩
  (.iteB 0 20 (j6)
  (.ret 4 true)
  (.ret 4 (decide (a1 > 4096))))
  fun j7 => .join 1 7 (γ := Bool) ⟨fun x => [(31, bB x)], [], fun _ => [], []⟩
  (.iteB 0 24 (j7)
  (.ret 8 true)
  (.call 4 (ok_press_ways_3 a0 a1) nl_press_bare fun r8 => .ret 3 (!r8)))
  fun j9 => .iteB 1 31 (j9)
  (.ret 7 1)
  (.ret 7 0))
  (.cas 0 12 (a0.F_Scheme = (2 : Int)) (.d (.agg [.clo (.func 81) [] [], .clo (.func 82) [] [], .clo (.func 84) [] [], .clo (.func 85) [] []])) (.d (lookD a0.F_Scheme [(3, .agg [.clo (.func 69) [] [], .clo (.func 87) [] [], .clo (.func 89) [] [], .clo (.func 90) [] []])] (.agg [.nilfn, .nilfn, .nilfn, .nilfn]))) (.d (lookD a0.F_Scheme [(2, .agg [.clo (.func 81) [] [], .clo (.func 82) [] [], .clo (.func 84) [] [], .clo (.func 85) [] []]), (3, .agg [.clo (.func 69) [] [], .clo (.func 87) [] [], .clo (.func 89) [] [], .clo (.func 90) [] []])] (.agg [.nilfn, .nilfn, .nilfn, .nilfn]))) lookD_t lookD_f
  (.hold 2 [] <| .join 9 3 (γ := Bool) ⟨fun x => [(19, bB x)], [5, 2, 1], fun _ => [], [.s 1727, .s 15]⟩
  (.iteX 0 16 ((hasK a0.F_Scheme [0, 1, 2, 3]))
  (.ret 4 true)
  (.ret 4 (decide (a1 < 1))))
  fun j10 => .join 1 3 (γ := Bool) ⟨fun x => [(23, bB x)], [5, 2, 1], fun _ => [], [.s 1727, .s 15]⟩
  (.iteB 0 20 (j10)
  (.ret 4 true)
  (.ret 4 (decide (a1 > 4096))))
  fun j11 => .join 1 7 (γ := Bool) ⟨fun x => [(31, bB x)], [], fun _ => [], []⟩
  (.iteB 0 24 (j11)
  (.ret 8 true)
  (.call 4 (ok_press_ways_7 a0 a1) nl_press_bare fun r12 => .ret 3 (!r12)))
  fun j13 => .iteB 1 31 (j13)
  (.ret 7 1)
  (.ret 7 0))
  (.cas 0 12 (a0.F_Scheme = (3 : Int)) (.d (.agg [.clo (.func 69) [] [], .clo (.func 87) [] [], .clo (.func 89) [] [], .clo (.func 90) [] []])) (.d (lookD a0.F_Scheme [] (.agg [.nilfn, .nilfn, .nilfn, .nilfn]))) (.d (lookD a0.F_Scheme [(3, .agg [.clo (.func 69) [] [], .clo (.func 87) [] [], .clo (.func 89) [] [], .clo (.func 90) [] []])] (.agg [.nilfn, .nilfn, .nilfn, .nilfn]))) lookD_t lookD_f
  (.hold 2 [] <| .join 9 3 (γ := Bool) ⟨fun x => [(19, bB x)], [5, 2, 1], fun _ => [], [.s 1727, .s 15]⟩
  (.iteX 0 16 ((hasK a0.F_Scheme [0, 1, 2, 3]))
  (.ret 4 true)
  (.ret 4 (decide (a1 < 1))))
  fun j14 => .join 1 3 (γ := Bool) ⟨fun x => [(23, bB x)], [5, 2, 1], fun _ => [], [.s 1727, .s 15]⟩
  (.iteB 0 20 (j14)
  (.ret 4 true)
  (.ret 4 (decide (a1 > 4096))))
  fun j15 => .join 1 7 (γ := Bool) ⟨fun x => [(31, bB x)], [], fun _ => [], []⟩
  (.iteB 0 24 (j15)
  (.ret 8 true)
  (.call 4 (ok_press_bare a0 a1) nl_press_bare fun r16 => .ret 3 (!r16)))
  fun j17 => .iteB 1 31 (j17)
  (.ret 7 1)
  (.ret 7 0))
  (.hold 2 [] <| .join 9 3 (γ := Bool) ⟨fun x => [(19, bB x)], [5, 2, 1], fun _ => [], [.s 1727, .s 15]⟩
  (.iteX 0 16 ((hasK a0.F_Scheme [0, 1, 2, 3]))
  (.ret 4 true)
  (.ret 4 (decide (a1 < 1))))
  fun j18 => .join 1 3 (γ := Bool) ⟨fun x => [(23, bB x)], [5, 2, 1], fun _ => [], [.s 1727, .s 15]⟩
  (.iteB 0 20 (j18)
  (.ret 4 true)
  (.ret 4 (decide (a1 > 4096))))
  fun j19 => .join 1 7 (γ := Unit) ⟨fun x => [(31, bB true)], [], fun _ => [], []⟩
  (.iteB 0 24 (j19)
  (.ret 8 ())
  (.halt))
  fun j20 => .ret 8 1))))) (.hold 4 [] <| .callG 0 [] [] ok_press_ways fun r1 => .hold 1 [] <| .cas 4 12 (a0.F_Scheme = (0 : Int)) (.d (.agg [.clo (.func 69) [] [], .clo (.func 70) [] [], .clo (.func 71) [] [], .clo (.func 73) [] []])) (.d (lookD a0.F_Scheme [(1, .agg [.clo (.func 74) [] [], .clo (.func 75) [] [], .clo (.func 77) [] [], .clo (.func 79) [] []]), (2, .agg [.clo (.func 81) [] [], .clo (.func 82) [] [], .clo (.func 84) [] [], .clo (.func 85) [] []]), (3, .agg [.clo (.func 69) [] [], .clo (.func 87) [] [], .clo (.func 89) [] [], .clo (.func 90) [] []])] (.agg [.nilfn, .nilfn, .nilfn, .nilfn]))) (.d (lookD a0.F_Scheme [(0, .agg [.clo (.func 69) [] [], .clo (.func 70) [] [], .clo (.func 71) [] [], .clo (.func 73) [] []]), (1, .agg [.clo (.func 74) [] [], .clo (.func 75) [] [], .clo (.func 77) [] [], .clo (.func 79) [] []]), (2, .agg [.clo (.func 81) [] [], .clo (.func 82) [] [], .clo (.func 84) [] [], .clo (.func 85) [] []]), (3, .agg [.clo (.func 69) [] [], .clo (.func 87) [] [], .clo (.func 89) [] [], .clo (.func 90) [] []])] (.agg [.nilfn, .nilfn, .nilfn, .nilfn]))) lookD_t lookD_f
  (.hold 2 [] <| .join 9 3 (γ := Bool) ⟨fun x => [(19, bB x)], [5, 2, 1], fun _ => [], [.s 1727, .s 15]⟩
  (.iteX 0 16 ((hasK a0.F_Scheme [0, 1, 2, 3]))
  (.ret 4 true)
  (.ret 4 (decide (a1 < 1))))
  fun j2 => .join 1 3 (γ := Bool) ⟨fun x => [(23, bB x)], [5, 2, 1], fun _ => [], [.s 1727, .s 15]⟩
  (.iteB 0 20 (j2)
  (.ret 4 true)
  (.ret 4 (decide (a1 > 4096))))
  fun j3 => .join 1 7 (γ := Bool) ⟨fun x => [(31, bB x)], [], fun _ => [], []⟩
  (.iteB 0 24 (j3)
  (.ret 8 true)
  (.call 4 (ok_press_bare a0 a1) nl_press_bare fun r4 => .ret 3 (!r4)))
  fun j5 => .iteB 1 31 (j5)
  (.ret 7 1)
  (.ret 7 0))
  (.cas 0 12 (a0.F_Scheme = (1 : Int)) (.d (.agg [.clo (.func 74) [] [], .clo (.func 75) [] [], .clo (.func 77) [] [], .clo (.func 79) [] []])) (.d (lookD a0.F_Scheme [(2, .agg [.clo (.func 81) [] [], .clo (.func 82) [] [], .clo (.func 84) [] [], .clo (.func 85) [] []]), (3, .agg [.clo (.func 69) [] [], .clo (.func 87) [] [], .clo (.func 89) [] [], .clo (.func 90) [] []])] (.agg [.nilfn, .nilfn, .nilfn, .nilfn]))) (.d (lookD a0.F_Scheme [(1, .agg [.clo (.func 74) [] [], .clo (.func 75) [] [], .clo (.func 77) [] [], .clo (.func 79) [] []]), (2, .agg [.clo (.func 81) [] [], .clo (.func 82) [] [], .clo (.func 84) [] [], .clo (.func 85) [] []]), (3, .agg [.clo (.func 69) [] [], .clo (.func 87) [] [], .clo (.func 89) [] [], .clo (.func 90) [] []])] (.agg [.nilfn, .nilfn, .nilfn, .nilfn]))) lookD_t lookD_f
  (.hold 2 [] <| .join 9 3 (γ := Bool) ⟨fun x => [(19, bB x)], [5, 2, 1], fun _ => [], [.s 1727, .s 15]⟩
  (.iteX 0 16 ((hasK a0.F_Scheme [0, 1, 2, 3]))
  (.ret 4 true)
  (.ret 4 (decide (a1 < 1))))
  fun j6 => .join 1 3 (γ := Bool) ⟨fun x => [(23, bB x)], [5, 2, 1], fun _ => [], [.s 1727, .s 15]⟩
  (.iteB 0 20 (j6)
  (.ret 4 true)
  (.ret 4 (decide (a1 > 4096))))
  fun j7 => .join 1 7 (γ := Bool) ⟨fun x => [(31, bB x)], [], fun _ => [], []⟩
  (.iteB 0 24 (j7)
  (.ret 8 true)
  (.call 4 (ok_press_ways_3 a0 a1) nl_press_bare fun r8 => .ret 3 (!r8)))
  fun j9 => .iteB 1 31 (j9)
  (.ret 7 1)
  (.ret 7 0))
  (.cas 0 12 (a0.F_Scheme = (2 : Int)) (.d (.agg [.clo (.func 81) [] [], .clo (.func 82) [] [], .clo (.func 84) [] [], .clo (.func 85) [] []])) (.d (lookD a0.F_Scheme [(3, .agg [.clo (.func 69) [] [], .clo (.func 87) [] [], .clo (.func 89) [] [], .clo (.func 90) [] []])] (.agg [.nilfn, .nilfn, .nilfn, .nilfn]))) (.d (lookD a0.F_Scheme [(2, .agg [.clo (.func 81) [] [], .clo (.func 82) [] [], .clo (.func 84) [] [], .clo (.func 85) [] []]), (3, .agg [.clo (.func 69) [] [], .clo (.func 87) [] [], .clo (.func 89) [] [], .clo (.func 90) [] []])] (.agg [.nilfn, .nilfn, .nilfn, .nilfn]))) lookD_t lookD_f
  (.hold 2 [] <| .join 9 3 (γ := Bool) ⟨fun x => [(19, bB x)], [5, 2, 1], fun _ => [], [.s 1727, .s 15]⟩
  (.iteX 0 16 ((hasK a0.F_Scheme [0, 1, 2, 3]))
  (.ret 4 true)
  (.ret 4 (decide (a1 < 1))))
  fun j10 => .join 1 3 (γ := Bool) ⟨fun x => [(23, bB x)], [5, 2, 1], fun _ => [], [.s 1727, .s 15]⟩
  (.iteB 0 20 (j10)
  (.ret 4 true)
  (.ret 4 (decide (a1 > 4096))))
  fun j11 => .join 1 7 (γ := Bool) ⟨fun x => [(31, bB x)], [], fun _ => [], []⟩
  (.iteB 0 24 (j11)
  (.ret 8 true)
  (.call 4 (ok_press_ways_7 a0 a1) nl_press_bare fun r12 => .ret 3 (!r12)))
  fun j13 => .iteB 1 31 (j13)
  (.ret 7 1)
  (.ret 7 0))
  (.cas 0 12 (a0.F_Scheme = (3 : Int)) (.d (.agg [.clo (.func 69) [] [], .clo (.func 87) [] [], .clo (.func 89) [] [], .clo (.func 90) [] []])) (.d (lookD a0.F_Scheme [] (.agg [.nilfn, .nilfn, .nilfn, .nilfn]))) (.d (lookD a0.F_Scheme [(3, .agg [.clo (.func 69) [] [], .clo (.func 87) [] [], .clo (.func 89) [] [], .clo (.func 90) [] []])] (.agg [.nilfn, .nilfn, .nilfn, .nilfn]))) lookD_t lookD_f
  (.hold 2 [] <| .join 9 3 (γ := Bool) ⟨fun x => [(19, bB x)], [5, 2, 1], fun _ => [], [.s 1727, .s 15]⟩
  (.iteX 0 16 ((hasK a0.F_Scheme [0, 1, 2, 3]))
  (.ret 4 true)
  (.ret 4 (decide (a1 < 1))))
  fun j14 => .join 1 3 (γ := Bool) ⟨fun x => [(23, bB x)], [5, 2, 1], fun _ => [], [.s 1727, .s 15]⟩
  (.iteB 0 20 (j14)
  (.ret 4 true)
  (.ret 4 (decide (a1 > 4096))))
  fun j15 => .join 1 7 (γ := Bool) ⟨fun x => [(31, bB x)], [], fun _ => [], []⟩
  (.iteB 0 24 (j15)
  (.ret 8 true)
  (.call 4 (ok_press_bare a0 a1) nl_press_bare fun r16 => .ret 3 (!r16)))
  fun j17 => .iteB 1 31 (j17)
  (.ret 7 1)
  (.ret 7 0))
  (.hold 2 [] <| .join 9 3 (γ := Bool) ⟨fun x => [(19, bB x)], [5, 2, 1], fun _ => [], [.s 1727, .s 15]⟩
  (.iteX 0 16 ((hasK a0.F_Scheme [0, 1, 2, 3]))
  (.ret 4 true)
  (.ret 4 (decide (a1 < 1))))
  fun j18 => .join 1 3 (γ := Bool) ⟨fun x => [(23, bB x)], [5, 2, 1], fun _ => [], [.s 1727, .s 15]⟩
  (.iteB 0 20 (j18)
  (.ret 4 true)
  (.ret 4 (decide (a1 > 4096))))
  fun j19 => .join 1 7 (γ := Unit) ⟨fun x => [(31, bB true)], [], fun _ => [], []⟩
  (.iteB 0 24 (j19)
  (.ret 8 ())
  (.halt))
  fun j20 => .ret 8 1))))))
def en_slices_Clone_int64_int64 (v : (List Int)) : PV := sI (.s 0) v
noncomputable abbrev F_slices_Clone_int64_int64 : Fe := .of Tryz.prog 72 en_slices_Clone_int64_int64
theorem nl_slices_Clone_int64_int64 : ∀ v, (en_slices_Clone_int64_int64 v).noLst := fun _ => (flat_map_of fun _ => trivial)
theorem ok_slices_Clone_int64_int64 (a0 : List Int) : HS 72 (M_slices_Clone_int64_int64 a0) [.lst (List.map (D.int .i64) a0)] en_slices_Clone_int64_int64 := Tr.fn (F := F_slices_Clone_int64_int64)
 (.nilq 8 eI.f a0
  (    if room 8 ([] ++ a0).length then
       some ([] ++ a0)
     else none)
  (    some [])
  (fun h => by (try obtain rfl := List.eq_nil_of_length_eq_zero h); first | rfl | (simp [h]; done))
  (.app 7 eI 8 [] a0 <| .ret 3 ([] ++ a0))
  (.ret 8 []))
def en_press_dense (v : Int × Int × (List Int) × Int × Int × Int) : PV := .tup [.agg [nI v.1, nI v.2.1, .nils, sI (.s 0) v.2.2.1, nI v.2.2.2.1, nI v.2.2.2.2.1, .nils, .nils], nI v.2.2.2.2.2]
noncomputable abbrev F_press_dense : Fe := .of Tryz.prog 70 en_press_dense
theorem nl_press_dense : ∀ v, (en_press_dense v).noLst := fun _ => ⟨⟨trivial, trivial, trivial, (flat_map_of fun _ => trivial), trivial, trivial, trivial, trivial, trivial⟩, trivial, trivial⟩
theorem ok_press_dense (a0 : T_api_How) (a1 : List Int) (a2 : Int) (a3 : List Int) : HS 70 (M_press_dense a0 a1 a2 a3) [.agg [.int .i64 a0.F_Scheme, .int .i64 a0.F_K, .int .i64 a0.F_Wide], .lst (List.map (D.int .i64) a1), .int .u64 a2, .lst (List.map (D.int .i64) a3)] en_press_dense := Tr.fn (F := F_press_dense)
 (.len 9 eI a1 <| .call 1 (ok_slices_Clone_int64_int64 a1) nl_slices_Clone_int64_int64 fun r1 => .ret 5 (0, (a1.length : Int), r1, 0, 0, 0))
def en_topk_size (v : Int) : PV := nU v
noncomputable abbrev F_topk_size : Fe := .of Tryz.prog 198 en_topk_size
theorem nl_topk_size : ∀ v, (en_topk_size v).noLst := fun _ => trivial
theorem ok_topk_size (a0 : Int) : HS 198 (M_topk_size a0) [.int .i64 a0] en_topk_size := Tr.fn (F := F_topk_size)
 (.ite 10 4 (a0 < 0)
  (.ret 10 (IntKind.u64.wrap (0 - (IntKind.u64.wrap a0))))
  (.ret 9 (IntKind.u64.wrap a0)))
def en_topk_ones (v : (List T_topk_one)) : PV := .sl (.s 0) 2 0 (List.map T_topk_one.en v)
noncomputable abbrev F_topk_ones : Fe := .of Tryz.prog 172 en_topk_ones
def S_topk_ones_l0 (a0 : List Int) (x0 : Int) (x1 : List T_topk_one) : St := ⟨[(11, nI x0), (10, nI (a0.length : Int)), (9, lI a0), (3, .sl (.h 0) 2 0 (List.map T_topk_one.en x1))], []⟩
def E_topk_ones_l0 (a0 : List Int) (x : (List T_topk_one)) : St := ⟨[(3, .sl (.h 1) 2 0 (List.map T_topk_one.en x))], []⟩
theorem ok_topk_ones_l0 (a0 : List Int) : ∀ (x0 : Int) (x1 : List T_topk_one), Ok (M_topk_ones_l0 a0 x0 x1) (LN F_topk_ones (.exit 0) (E_topk_ones_l0 a0) 172 0 (S_topk_ones_l0 a0 x0 x1)) := by
 refine M_topk_ones_l0.partial_correctness a0 _ ?_
 intro f IH x0 x1
 exact Tr.lpN (F := F_topk_ones) (X := Int × (List T_topk_one))
  (.ite 6 12 (x0 < (a0.length : Int))
   (.idx 7 eI a0 x0 <| .call 9 (ok_topk_size (at' a0 x0)) nl_topk_size fun r3 => .idx 1 T_topk_one.e x1 x0 <| .sto 0 [3] T_topk_one.e x1 x0 (⟨x0, r3⟩ : T_topk_one) <| .let_ (x1.set (Int.toNat x0) (⟨x0, r3⟩ : T_topk_one) : List T_topk_one) fun y4 => .again 6 (IntKind.i64.wrap (x0 + 1), y4))
   (.ret 4 x1)) _ fun x r => IH x.1 x.2 r
theorem nl_topk_ones : ∀ v, (en_topk_ones v).noLst := fun _ => (flat_map_of fun _ => ⟨trivial, trivial, trivial⟩)
theorem ok_topk_ones (a0 : List Int) : HS 172 (M_topk_ones a0) [.lst (List.map (D.int .i64) a0)] en_topk_ones := Tr.fn (F := F_topk_ones)
 (.len 7 eI a0 <| .mk 0 T_topk_one.e 16 (⟨0, 0⟩ : T_topk_one) (a0.length : Int) (a0.length : Int) <| .let_ (List.replicate (Int.toNat (a0.length : Int)) (⟨0, 0⟩ : T_topk_one) : List T_topk_one) fun y1 => .len 6 eI a0 <| .loop 4 ⟨_, _, _, _, _, ok_topk_ones_l0 a0 0 y1⟩ fun j6 => .ret 7 j6)
def en_thrum_topk_best_Push_c (v : (List T_topk_one)) : PV := .tup []
def bx_thrum_topk_best_Push_c (v : (List T_topk_one)) : List (Tg × List PV) := [(.up (.s 0), [.sl (.s 0) 2 0 (List.map T_topk_one.en v)])]
noncomputable abbrev F_thrum_topk_best_Push_c : Fe := .of Tryz.prog 274 en_thrum_topk_best_Push_c bx_thrum_topk_best_Push_c
theorem nl_thrum_topk_best_Push_c : ∀ v, (en_thrum_topk_best_Push_c v).noLst := fun _ => trivial
theorem nlB_thrum_topk_best_Push_c : ∀ v, noLstB (bx_thrum_topk_best_Push_c v) := fun _ => ⟨⟨(flat_map_of fun _ => ⟨trivial, trivial, trivial⟩), trivial⟩, trivial⟩
theorem ok_thrum_topk_best_Push_c (a0 : List T_topk_one) (a1 : Int) (a2 : Int) : HG 274 (M_thrum_topk_best_Push_c a0 a1 a2) [.ptr (.up (.s 0)) 0, .d (.ifc 174 (.agg [.int .i64 a1, .int .u64 a2]))] [(.up (.s 0), [.sl (.h 0) 2 0 (List.map T_topk_one.en a0)])] en_thrum_topk_best_Push_c bx_thrum_topk_best_Push_c := Tr.fnG (F := F_thrum_topk_best_Push_c)
 (.hold 9 [] <| .app 0 T_topk_one.e 16 a0 [(⟨a1, a2⟩ : T_topk_one)] <| .hold 1 [] <| .ret 4 (a0 ++ [(⟨a1, a2⟩ : T_topk_one)]))
noncomputable abbrev F_thrum_topk_best_Len : Fe := .of Tryz.prog 174 en_vec_pair
theorem ok_thrum_topk_best_Len (a0 : List T_topk_one) : HS 174 (M_thrum_topk_best_Len a0) [.lst (List.map T_topk_one.en a0)] en_vec_pair := Tr.fn (F := F_thrum_topk_best_Len)
 (.len 7 T_topk_one.e a0 <| .ret 3 (a0.length : Int))
noncomputable abbrev F_cmp_isNaN_uint64 : Fe := .of Tryz.prog 280 en_press_bare
theorem ok_cmp_isNaN_uint64 (a0 : Int) : HS 280 (M_cmp_isNaN_uint64 a0) [.int .u64 a0] en_press_bare := Tr.fn (F := F_cmp_isNaN_uint64)
 (.ret 12 (a0 != a0))
noncomputable abbrev F_cmp_Compare_uint64 : Fe := .of Tryz.prog 278 en_vec_pair
theorem ok_cmp_Compare_uint64 (a0 : Int) (a1 : Int) : HS 278 (M_cmp_Compare_uint64 a0 a1) [.int .u64 a0, .int .u64 a1] en_vec_pair := Tr.fn (F := F_cmp_Compare_uint64)
 (.call 7 (ok_cmp_isNaN_uint64 a0) nl_press_bare fun r1 => .call 5 (ok_cmp_isNaN_uint64 a1) nl_press_bare fun r2 => .iteB 7 11 (r1)
  (.iteB 6 12 (r2)
  (.ret 8 0)
  (.ret 8 (-1)))
  (.iteB 7 13 (r2)
  (.ret 7 1)
  (.ite 9 16 (a0 < a1)
  (.ret 7 (-1))
  (.ite 9 19 (a0 > a1)
  (.ret 7 1)
  (.ret 7 0)))))
noncomputable abbrev F_cmp_isNaN_int : Fe := .of Tryz.prog 230 en_press_bare
theorem ok_cmp_isNaN_int (a0 : Int) : HS 230 (M_cmp_isNaN_int a0) [.int .i64 a0] en_press_bare := Tr.fn (F := F_cmp_isNaN_int)
 (.ret 12 (a0 != a0))
noncomputable abbrev F_cmp_Compare_int : Fe := .of Tryz.prog 279 en_vec_pair
theorem ok_cmp_Compare_int (a0 : Int) (a1 : Int) : HS 279 (M_cmp_Compare_int a0 a1) [.int .i64 a0, .int .i64 a1] en_vec_pair := Tr.fn (F := F_cmp_Compare_int)
 (.call 7 (ok_cmp_isNaN_int a0) nl_press_bare fun r1 => .call 5 (ok_cmp_isNaN_int a1) nl_press_bare fun r2 => .iteB 7 11 (r1)
  (.iteB 6 12 (r2)
  (.ret 8 0)
  (.ret 8 (-1)))
  (.iteB 7 13 (r2)
  (.ret 7 1)
  (.ite 9 16 (a0 < a1)
  (.ret 7 (-1))
  (.ite 9 19 (a0 > a1)
  (.ret 7 1)
  (.ret 7 0)))))
noncomputable abbrev F_cmp_Or_int : Fe := .of Tryz.prog 277 en_vec_pair
def S_cmp_Or_int_l0 (a0 : List Int) (x0 : Int) : St := ⟨[(8, nI x0), (7, nI (a0.length : Int)), (6, lI a0), (3, nI 0)], []⟩
def E_cmp_Or_int_l0 (a0 : List Int) (x : Unit) : St := ⟨[(3, nI 0)], []⟩
theorem ok_cmp_Or_int_l0 (a0 : List Int) : ∀ (x0 : Int), Ok (M_cmp_Or_int_l0 a0 x0) (LR F_cmp_Or_int (.exit 0) (E_cmp_Or_int_l0 a0) 277 0 (S_cmp_Or_int_l0 a0 x0)) := by
 refine M_cmp_Or_int_l0.partial_correctness a0 _ ?_
 intro f IH x0
 exact Tr.lpR (F := F_cmp_Or_int) (X := Int)
  (.ite 6 9 (x0 < (a0.length : Int))
   (.idx 6 eI a0 x0 <| .iteN 9 14 ((at' a0 x0) = 0)
   (.ret 10 (.inl (at' a0 x0)))
   (.again 7 (IntKind.i64.wrap (x0 + 1))))
   (.ret 4 (.inr ()))) _ fun x r => IH x r
theorem ok_cmp_Or_int (a0 : List Int) : HS 277 (M_cmp_Or_int a0) [.lst (List.map (D.int .i64) a0)] en_vec_pair := Tr.fn (F := F_cmp_Or_int)
 (.len 12 eI a0 <| .loopR 4 id ⟨_, _, _, _, _, ok_cmp_Or_int_l0 a0 0⟩ fun j1 => .ret 7 0)
noncomputable abbrev F_thrum_topk_one_compare : Fe := .of Tryz.prog 276 en_vec_pair
theorem ok_thrum_topk_one_compare (a0 : T_topk_one) (a1 : T_topk_one) : HS 276 (M_thrum_topk_one_compare a0 a1) [.agg [.int .i64 a0.F_place, .int .u64 a0.F_size], .agg [.int .i64 a1.F_place, .int .u64 a1.F_size]] en_vec_pair := Tr.fn (F := F_thrum_topk_one_compare)
 (.call 16 (ok_cmp_Compare_uint64 a1.F_size a0.F_size) nl_vec_pair fun r1 => .hold 1 [] <| .call 0 (ok_cmp_Compare_int a0.F_place a1.F_place) nl_vec_pair fun r2 => .call 1 (ok_cmp_Or_int [r1, r2]) nl_vec_pair fun r3 => .ret 4 r3)
noncomputable abbrev F_thrum_topk_best_Less : Fe := .of Tryz.prog 272 en_press_bare
theorem ok_thrum_topk_best_Less (a0 : List T_topk_one) (a1 : Int) (a2 : Int) : HS 272 (M_thrum_topk_best_Less a0 a1 a2) [.lst (List.map T_topk_one.en a0), .int .i64 a1, .int .i64 a2] en_press_bare := Tr.fn (F := F_thrum_topk_best_Less)
 (.idx 8 T_topk_one.e a0 a1 <| .idx 3 T_topk_one.e a0 a2 <| .call 1 (ok_thrum_topk_one_compare (at' a0 a1) (at' a0 a2)) nl_vec_pair fun r1 => .ret 4 (decide (r1 > 0)))
def en_thrum_topk_best_Swap_g (v : (List T_topk_one)) : PV := .tup []
def bx_thrum_topk_best_Swap_g (v : (List T_topk_one)) : List (Tg × List PV) := [(.up (.s 0), [.sl (.s 0) 2 0 (List.map T_topk_one.en v)])]
noncomputable abbrev F_thrum_topk_best_Swap_g : Fe := .of Tryz.prog 275 en_thrum_topk_best_Swap_g bx_thrum_topk_best_Swap_g
theorem nl_thrum_topk_best_Swap_g : ∀ v, (en_thrum_topk_best_Swap_g v).noLst := fun _ => trivial
theorem nlB_thrum_topk_best_Swap_g : ∀ v, noLstB (bx_thrum_topk_best_Swap_g v) := fun _ => ⟨⟨(flat_map_of fun _ => ⟨trivial, trivial, trivial⟩), trivial⟩, trivial⟩
theorem ok_thrum_topk_best_Swap_g (a0 : List T_topk_one) (a1 : Int) (a2 : Int) : HG 275 (M_thrum_topk_best_Swap_g a0 a1 a2) [.sl (.h 0) 2 0 (List.map T_topk_one.en a0), nI a1, nI a2] [(.up (.s 0), [.sl (.h 0) 2 0 (List.map T_topk_one.en a0)])] en_thrum_topk_best_Swap_g bx_thrum_topk_best_Swap_g := Tr.fnG (F := F_thrum_topk_best_Swap_g)
 (.idx 7 T_topk_one.e a0 a2 <| .idx 3 T_topk_one.e a0 a1 <| .idx 1 T_topk_one.e a0 a1 <| .sto 0 [14, 10, 8, 6, 0] T_topk_one.e a0 a1 (at' a0 a2) <| .hold 1 [] <| .idx 0 T_topk_one.e (a0.set (Int.toNat a1) (at' a0 a2)) a2 <| .sto 0 [14, 10, 8, 6, 0] T_topk_one.e (a0.set (Int.toNat a1) (at' a0 a2)) a2 (at' a0 a1) <| .ret 2 ((a0.set (Int.toNat a1) (at' a0 a2)).set (Int.toNat a2) (at' a0 a1)))
def en_container_heap_up_c (v : (List T_topk_one)) : PV := .tup []
def bx_container_heap_up_c (v : (List T_topk_one)) : List (Tg × List PV) := [(.up (.s 0), [.sl (.s 0) 2 0 (List.map T_topk_one.en v)])]
noncomputable abbrev F_container_heap_up_c : Fe := .of Tryz.prog 199 en_container_heap_up_c bx_container_heap_up_c
def S_container_heap_up_c_l0 (x0 : Int) (x1 : List T_topk_one) : St := ⟨[(0, .ifc 169 (.ptr (.up (.s 0)) 0)), (1, nI x0)], [(.up (.s 0), [.sl (.h 1) 2 0 (List.map T_topk_one.en x1)])]⟩
def E_container_heap_up_c_l0 (x : (List T_topk_one)) : St := ⟨[], [(.up (.s 0), [.sl (.h 2) 2 0 (List.map T_topk_one.en x)])]⟩
theorem ok_container_heap_up_c_l0 : ∀ (x0 : Int) (x1 : List T_topk_one), Ok (M_container_heap_up_c_l0 x0 x1) (LN F_container_heap_up_c (.exit 0) E_container_heap_up_c_l0 199 0 (S_container_heap_up_c_l0 x0 x1)) := by
 refine M_container_heap_up_c_l0.partial_correctness _ ?_
 intro f IH x0 x1
 exact Tr.lpN (F := F_container_heap_up_c) (X := Int × (List T_topk_one))
  (.join 16 6 (γ := Bool) ⟨fun x => [(17, bB x)], [4, 0, 1], fun _ => [], [.up (.s 0)]⟩
   (.ite 0 11 ((IntKind.i64.wrap (Int.tdiv (IntKind.i64.wrap (x0 - 1)) 2)) = x0)
   (.ret 7 true)
   (.call 3 (ok_thrum_topk_best_Less x1 x0 (IntKind.i64.wrap (Int.tdiv (IntKind.i64.wrap (x0 - 1)) 2))) nl_press_bare fun r1 => .ret 3 (!r1)))
   fun j2 => .iteB 1 17 (j2)
   (.ret 5 x1)
   (.callB 7 [(.h 0, .h 1), (.up (.s 0), .up (.s 0))] (ok_thrum_topk_best_Swap_g x1 (IntKind.i64.wrap (Int.tdiv (IntKind.i64.wrap (x0 - 1)) 2)) x0) nl_thrum_topk_best_Swap_g nlB_thrum_topk_best_Swap_g fun r3 => .again 6 (IntKind.i64.wrap (Int.tdiv (IntKind.i64.wrap (x0 - 1)) 2), r3))) _ fun x r => IH x.1 x.2 r
theorem nl_container_heap_up_c : ∀ v, (en_container_heap_up_c v).noLst := fun _ => trivial
theorem nlB_container_heap_up_c : ∀ v, noLstB (bx_container_heap_up_c v) := fun _ => ⟨⟨(flat_map_of fun _ => ⟨trivial, trivial, trivial⟩), trivial⟩, trivial⟩
theorem ok_container_heap_up_c (a0 : List T_topk_one) (a1 : Int) : HG 199 (M_container_heap_up_c a0 a1) [.ifc 169 (.ptr (.up (.s 0)) 0), nI a1] [(.up (.s 0), [.sl (.h 0) 2 0 (List.map T_topk_one.en a0)])] en_container_heap_up_c bx_container_heap_up_c := Tr.fnG (F := F_container_heap_up_c)
 (.loop 2 ⟨_, _, _, _, _, ok_container_heap_up_c_l0 a1 a0⟩ fun j4 => .ret 1 j4)
def en_container_heap_Push_c_c (v : (List T_topk_one)) : PV := .tup []
def bx_container_heap_Push_c_c (v : (List T_topk_one)) : List (Tg × List PV) := [(.up (.s 0), [.sl (.s 0) 2 0 (List.map T_topk_one.en v)])]
noncomputable abbrev F_container_heap_Push_c_c : Fe := .of Tryz.prog 173 en_container_heap_Push_c_c bx_container_heap_Push_c_c
theorem nl_container_heap_Push_c_c : ∀ v, (en_container_heap_Push_c_c v).noLst := fun _ => trivial
theorem nlB_container_heap_Push_c_c : ∀ v, noLstB (bx_container_heap_Push_c_c v) := fun _ => ⟨⟨(flat_map_of fun _ => ⟨trivial, trivial, trivial⟩), trivial⟩, trivial⟩
theorem ok_container_heap_Push_c_c (a0 : List T_topk_one) (a1 : Int) (a2 : Int) : HG 173 (M_container_heap_Push_c_c a0 a1 a2) [.ifc 169 (.ptr (.up (.s 0)) 0), .d (.ifc 174 (.agg [.int .i64 a1, .int .u64 a2]))] [(.up (.s 0), [.sl (.h 0) 2 0 (List.map T_topk_one.en a0)])] en_container_heap_Push_c_c bx_container_heap_Push_c_c := Tr.fnG (F := F_container_heap_Push_c_c)
 (.callB 4 [(.up (.s 0), .up (.s 0)), (.h 0, .h 0)] (ok_thrum_topk_best_Push_c a0 a1 a2) nl_thrum_topk_best_Push_c nlB_thrum_topk_best_Push_c fun r1 => .call 4 (ok_thrum_topk_best_Len r1) nl_vec_pair fun r2 => .callB 1 [(.up (.s 0), .up (.s 0)), (.h 0, .s 32)] (ok_container_heap_up_c r1 (IntKind.i64.wrap (r2 - 1))) nl_container_heap_up_c nlB_container_heap_up_c fun r3 => .ret 1 r3)
def en_container_heap_down_c (v : Bool × (List T_topk_one)) : PV := bB v.1
def bx_container_heap_down_c (v : Bool × (List T_topk_one)) : List (Tg × List PV) := [(.up (.s 0), [.sl (.s 0) 2 0 (List.map T_topk_one.en v.2)])]
noncomputable abbrev F_container_heap_down_c : Fe := .of Tryz.prog 200 en_container_heap_down_c bx_container_heap_down_c
def S_container_heap_down_c_l0 (a1 : Int) (a2 : Int) (x0 : Int) (x1 : List T_topk_one) : St := ⟨[(7, nI x0), (0, .ifc 169 (.ptr (.up (.s 0)) 0)), (1, nI a1), (2, nI a2)], [(.up (.s 0), [.sl (.h 1) 2 0 (List.map T_topk_one.en x1)])]⟩
def E_container_heap_down_c_l0 (a1 : Int) (a2 : Int) (x : Int × (List T_topk_one)) : St := ⟨[(7, nI x.1), (1, nI a1)], [(.up (.s 0), [.sl (.h 2) 2 0 (List.map T_topk_one.en x.2)])]⟩
theorem ok_container_heap_down_c_l0 (a1 : Int) (a2 : Int) : ∀ (x0 : Int) (x1 : List T_topk_one), Ok (M_container_heap_down_c_l0 a1 a2 x0 x1) (LN F_container_heap_down_c (.exit 0) (E_container_heap_down_c_l0 a1 a2) 200 0 (S_container_heap_down_c_l0 a1 a2 x0 x1)) := by
 refine M_container_heap_down_c_l0.partial_correctness a1 a2 _ ?_
 intro f IH x0 x1
 exact Tr.lpN (F := F_container_heap_down_c) (X := Int × (List T_topk_one))
  (.join 16 3 (γ := Bool) ⟨fun x => [(21, bB x)], [8, 7, 0, 1, 2], fun _ => [], [.up (.s 0)]⟩
   (.ite 0 18 ((IntKind.i64.wrap ((IntKind.i64.wrap (2 * x0)) + 1)) ≥ a2)
   (.ret 4 true)
   (.ret 4 (decide ((IntKind.i64.wrap ((IntKind.i64.wrap (2 * x0)) + 1)) < 0))))
   fun j1 => .iteB 1 21 (j1)
   (.ret 5 (x0, x1))
   (.let_ (IntKind.i64.wrap ((IntKind.i64.wrap ((IntKind.i64.wrap (2 * x0)) + 1)) + 1) : Int) fun y2 => .join 20 5 (γ := Bool) ⟨fun x => [(33, bB x)], [10, 9, 7, 0, 1, 2], fun _ => [], [.up (.s 0)]⟩
   (.ite 0 28 (y2 < a2)
   (.call 3 (ok_thrum_topk_best_Less x1 y2 (IntKind.i64.wrap ((IntKind.i64.wrap (2 * x0)) + 1))) nl_press_bare fun r4 => .ret 2 r4)
   (.ret 6 false))
   fun j5 => .iteB 1 33 (j5)
   (.call 11 (ok_thrum_topk_best_Less x1 y2 x0) nl_press_bare fun r6 => .iteX 2 39 (r6)
   (.ret 5 (x0, x1))
   (.callB 7 [(.h 0, .h 1), (.up (.s 0), .up (.s 0))] (ok_thrum_topk_best_Swap_g x1 x0 y2) nl_thrum_topk_best_Swap_g nlB_thrum_topk_best_Swap_g fun r7 => .again 6 (y2, r7)))
   (.call 8 (ok_thrum_topk_best_Less x1 (IntKind.i64.wrap ((IntKind.i64.wrap (2 * x0)) + 1)) x0) nl_press_bare fun r8 => .iteX 2 39 (r8)
   (.ret 5 (x0, x1))
   (.callB 7 [(.h 0, .h 1), (.up (.s 0), .up (.s 0))] (ok_thrum_topk_best_Swap_g x1 x0 (IntKind.i64.wrap ((IntKind.i64.wrap (2 * x0)) + 1))) nl_thrum_topk_best_Swap_g nlB_thrum_topk_best_Swap_g fun r9 => .again 6 (IntKind.i64.wrap ((IntKind.i64.wrap (2 * x0)) + 1), r9))))) _ fun x r => IH x.1 x.2 r
theorem nl_container_heap_down_c : ∀ v, (en_container_heap_down_c v).noLst := fun _ => trivial
theorem nlB_container_heap_down_c : ∀ v, noLstB (bx_container_heap_down_c v) := fun _ => ⟨⟨(flat_map_of fun _ => ⟨trivial, trivial, trivial⟩), trivial⟩, trivial⟩
theorem ok_container_heap_down_c (a0 : List T_topk_one) (a1 : Int) (a2 : Int) : HG 200 (M_container_heap_down_c a0 a1 a2) [.ifc 169 (.ptr (.up (.s 0)) 0), nI a1, nI a2] [(.up (.s 0), [.sl (.h 0) 2 0 (List.map T_topk_one.en a0)])] en_container_heap_down_c bx_container_heap_down_c := Tr.fnG (F := F_container_heap_down_c)
 (.loop 12 ⟨_, _, _, _, _, ok_container_heap_down_c_l0 a1 a2 a1 a0⟩ fun j10 => .ret 9 (decide (j10.1 > a1), j10.2))
def en_thrum_topk_best_Pop (v : Int × Int × (List T_topk_one)) : PV := .d (.ifc 174 (.agg [.int .i64 v.1, .int .u64 v.2.1]))
def bx_thrum_topk_best_Pop (v : Int × Int × (List T_topk_one)) : List (Tg × List PV) := [(.up (.s 0), [.sl (.s 0) 2 0 (List.map T_topk_one.en v.2.2)])]
noncomputable abbrev F_thrum_topk_best_Pop : Fe := .of Tryz.prog 273 en_thrum_topk_best_Pop bx_thrum_topk_best_Pop
theorem nl_thrum_topk_best_Pop : ∀ v, (en_thrum_topk_best_Pop v).noLst := fun _ => ⟨trivial, trivial, trivial⟩
theorem nlB_thrum_topk_best_Pop : ∀ v, noLstB (bx_thrum_topk_best_Pop v) := fun _ => ⟨⟨(flat_map_of fun _ => ⟨trivial, trivial, trivial⟩), trivial⟩, trivial⟩
theorem ok_thrum_topk_best_Pop (a0 : List T_topk_one) : HG 273 (M_thrum_topk_best_Pop a0) [.ptr (.up (.s 0)) 0] [(.up (.s 0), [.sl (.h 0) 2 0 (List.map T_topk_one.en a0)])] en_thrum_topk_best_Pop bx_thrum_topk_best_Pop := Tr.fnG (F := F_thrum_topk_best_Pop)
 (.len 16 T_topk_one.e a0 <| .cut 1 T_topk_one.e a0 none (some (IntKind.i64.wrap ((a0.length : Int) - 1))) <| .let_ (cut' a0 none (some (IntKind.i64.wrap ((a0.length : Int) - 1))) : List T_topk_one) fun y1 => .len 7 T_topk_one.e a0 <| .idx 1 T_topk_one.e a0 (IntKind.i64.wrap ((a0.length : Int) - 1)) <| .ret 5 ((at' a0 (IntKind.i64.wrap ((a0.length : Int) - 1))).F_place, (at' a0 (IntKind.i64.wrap ((a0.length : Int) - 1))).F_size, y1))
def en_container_heap_Pop_c (v : Int × Int × (List T_topk_one)) : PV := .d (.ifc 174 (.agg [.int .i64 v.1, .int .u64 v.2.1]))
def bx_container_heap_Pop_c (v : Int × Int × (List T_topk_one)) : List (Tg × List PV) := [(.up (.s 0), [.sl (.s 0) 2 0 (List.map T_topk_one.en v.2.2)])]
noncomputable abbrev F_container_heap_Pop_c : Fe := .of Tryz.prog 175 en_container_heap_Pop_c bx_container_heap_Pop_c
theorem nl_container_heap_Pop_c : ∀ v, (en_container_heap_Pop_c v).noLst := fun _ => ⟨trivial, trivial, trivial⟩
theorem nlB_container_heap_Pop_c : ∀ v, noLstB (bx_container_heap_Pop_c v) := fun _ => ⟨⟨(flat_map_of fun _ => ⟨trivial, trivial, trivial⟩), trivial⟩, trivial⟩
theorem ok_container_heap_Pop_c (a0 : List T_topk_one) : HG 175 (M_container_heap_Pop_c a0) [.ifc 169 (.ptr (.up (.s 0)) 0)] [(.up (.s 0), [.sl (.h 0) 2 0 (List.map T_topk_one.en a0)])] en_container_heap_Pop_c bx_container_heap_Pop_c := Tr.fnG (F := F_container_heap_Pop_c)
 (.call 7 (ok_thrum_topk_best_Len a0) nl_vec_pair fun r1 => .callB 7 [(.h 0, .h 0), (.up (.s 0), .up (.s 0))] (ok_thrum_topk_best_Swap_g a0 0 (IntKind.i64.wrap (r1 - 1))) nl_thrum_topk_best_Swap_g nlB_thrum_topk_best_Swap_g fun r2 => .callB 5 [(.up (.s 0), .up (.s 0)), (.h 0, .s 3232)] (ok_container_heap_down_c r2 0 (IntKind.i64.wrap (r1 - 1))) nl_container_heap_down_c nlB_container_heap_down_c fun r3 => .callB 4 [(.up (.s 0), .up (.s 0)), (.h 0, .s 4832)] (ok_thrum_topk_best_Pop r3.2) nl_thrum_topk_best_Pop nlB_thrum_topk_best_Pop fun r4 => .ret 3 (r4.1, r4.2.1, r4.2.2))
noncomputable abbrev F_topk_places : Fe := .of Tryz.prog 176 en_slices_Clone_int64_int64
def S_topk_places_l0 (a0 : List T_topk_one) (x0 : Int) (x1 : List Int) : St := ⟨[(11, nI x0), (10, nI (a0.length : Int)), (9, .d (.lst (List.map T_topk_one.en a0))), (3, sI (.h 0) x1)], []⟩
def E_topk_places_l0 (a0 : List T_topk_one) (x : (List Int)) : St := ⟨[(3, sI (.h 1) x)], []⟩
theorem ok_topk_places_l0 (a0 : List T_topk_one) : ∀ (x0 : Int) (x1 : List Int), Ok (M_topk_places_l0 a0 x0 x1) (LN F_topk_places (.exit 0) (E_topk_places_l0 a0) 176 0 (S_topk_places_l0 a0 x0 x1)) := by
 refine M_topk_places_l0.partial_correctness a0 _ ?_
 intro f IH x0 x1
 exact Tr.lpN (F := F_topk_places) (X := Int × (List Int))
  (.ite 6 12 (x0 < (a0.length : Int))
   (.idx 6 T_topk_one.e a0 x0 <| .app 9 eI 8 x1 [(at' a0 x0).F_place] <| .let_ (x1 ++ [(at' a0 x0).F_place] : List Int) fun y3 => .again 7 (IntKind.i64.wrap (x0 + 1), y3))
   (.ret 4 x1)) _ fun x r => IH x.1 x.2 r
theorem ok_topk_places (a0 : List T_topk_one) : HS 176 (M_topk_places a0) [.lst (List.map T_topk_one.en a0)] en_slices_Clone_int64_int64 := Tr.fn (F := F_topk_places)
 (.len 7 T_topk_one.e a0 <| .mk 0 eI 8 0 0 (a0.length : Int) <| .let_ (List.replicate (Int.toNat 0) 0 : List Int) fun y1 => .len 6 T_topk_one.e a0 <| .loop 4 ⟨_, _, _, _, _, ok_topk_places_l0 a0 0 y1⟩ fun j5 => .ret 7 j5)
noncomputable abbrev F_topk_Pick : Fe := .of Tryz.prog 129 en_vec_each_vec_Add_1
def S_topk_Pick_l0 (a0 : Int) (r2 : (List T_topk_one)) (x0 : Int) (x1 : List T_topk_one) : St := ⟨[(28, nI x0), (27, nI (r2.length : Int)), (26, .sl (.s 9616) 2 0 (List.map T_topk_one.en r2)), (6, .ptr (.s 8031) 0), (0, nI a0)], [(.s 8031, [.sl (.h 0) 2 0 (List.map T_topk_one.en x1)])]⟩
def E_topk_Pick_l0 (a0 : Int) (r2 : (List T_topk_one)) (x : (List T_topk_one)) : St := ⟨[(6, .ptr (.s 8031) 0)], [(.s 8031, [.sl (.h 1) 2 0 (List.map T_topk_one.en x)])]⟩
theorem ok_topk_Pick_l0 (a0 : Int) (r2 : (List T_topk_one)) : ∀ (x0 : Int) (x1 : List T_topk_one), Ok (M_topk_Pick_l0 a0 r2 x0 x1) (LN F_topk_Pick (.exit 1) (E_topk_Pick_l0 a0 r2) 129 0 (S_topk_Pick_l0 a0 r2 x0 x1)) := by
 refine M_topk_Pick_l0.partial_correctness a0 r2 _ ?_
 intro f IH x0 x1
 exact Tr.lpN (F := F_topk_Pick) (X := Int × (List T_topk_one))
  (.ite 6 29 (x0 < (r2.length : Int))
   (.idx 6 T_topk_one.e r2 x0 <| .callB 10 [(.up (.s 0), .s 8031), (.h 0, .h 0)] (ok_container_heap_Push_c_c x1 ((at' r2 x0).F_place) ((at' r2 x0).F_size)) nl_container_heap_Push_c_c nlB_container_heap_Push_c_c fun r3 => .call 6 (ok_thrum_topk_best_Len r3) nl_vec_pair fun r4 => .ite 3 42 (r4 > a0)
   (.callB 4 [(.up (.s 0), .s 8031), (.h 0, .s 14464)] (ok_container_heap_Pop_c r3) nl_container_heap_Pop_c nlB_container_heap_Pop_c fun r5 => .again 6 (IntKind.i64.wrap (x0 + 1), r5.2.2))
   (.again 7 (IntKind.i64.wrap (x0 + 1), r3)))
   (.ret 4 x1)) _ fun x r => IH x.1 x.2 r
theorem ok_topk_Pick (a0 : Int) (a1 : List Int) : HS 129 (M_topk_Pick a0 a1) [.int .i64 a0, .lst (List.map (D.int .i64) a1)] en_vec_each_vec_Add_1 := Tr.fn (F := F_topk_Pick)
 (.len 10 eI a1 <| .ite 3 10 ((a1.length : Int) > 4096)
  (.ret 9 ([], 3))
  (.join 6 5 (γ := Bool) ⟨fun x => [(22, bB x)], [0, 1], fun _ => [], []⟩
  (.ite 0 17 (a0 < 0)
  (.ret 6 true)
  (.len 2 eI a1 <| .ret 3 (decide (a0 > (a1.length : Int)))))
  fun j1 => .iteB 2 14 (j1)
  (.ret 9 ([], 1))
  (.call 13 (ok_topk_ones a1) nl_topk_ones fun r2 => .len 0 T_topk_one.e r2 <| .loop 4 ⟨_, _, _, _, _, ok_topk_Pick_l0 a0 r2 0 []⟩ fun j6 => .call 6 (ok_topk_places j6) nl_slices_Clone_int64_int64 fun r7 => .srt 5 [51, 9] (sk_slices_Sort_int r7) fun r8 => .ret 8 (r8, 0))))
noncomputable abbrev F_index_rises : Fe := .of Tryz.prog 178 en_press_bare
def S_index_rises_l0 (a0 : List Int) (x0 : Int) : St := ⟨[(3, nI x0), (0, lI a0)], []⟩
def E_index_rises_l0 (a0 : List Int) (x : Unit) : St := ⟨[], []⟩
theorem ok_index_rises_l0 (a0 : List Int) : ∀ (x0 : Int), Ok (M_index_rises_l0 a0 x0) (LR F_index_rises (.exit 0) (E_index_rises_l0 a0) 178 0 (S_index_rises_l0 a0 x0)) := by
 refine M_index_rises_l0.partial_correctness a0 _ ?_
 intro f IH x0
 exact Tr.lpR (F := F_index_rises) (X := Int)
  (.len 6 eI a0 <| .ite 2 7 (x0 < (a0.length : Int))
   (.idx 9 eI a0 (IntKind.i64.wrap (x0 - 1)) <| .idx 3 eI a0 x0 <| .ite 3 19 ((at' a0 (IntKind.i64.wrap (x0 - 1))) ≥ (at' a0 x0))
   (.ret 9 (.inl false))
   (.again 8 (IntKind.i64.wrap (x0 + 1))))
   (.ret 4 (.inr ()))) _ fun x r => IH x r
theorem ok_index_rises (a0 : List Int) : HS 178 (M_index_rises a0) [.lst (List.map (D.int .i64) a0)] en_press_bare := Tr.fn (F := F_index_rises)
 (.loopR 11 id ⟨_, _, _, _, _, ok_index_rises_l0 a0 1⟩ fun j1 => .ret 6 true)
noncomputable abbrev F_index_Gather_1_c : Fe := .of Tryz.prog 180 en_press_bare
theorem ok_index_Gather_1_c (a0 : Int) (a1 : List Int) : HS 180 (M_index_Gather_1_c a0 a1) [.int .i64 a0, .cp [.lst (List.map (D.int .i64) a1)] 0] en_press_bare := Tr.fn (F := F_index_Gather_1_c)
 (.join 9 5 (γ := Bool) ⟨fun x => [(11, bB x)], [], fun _ => [], []⟩
  (.ite 0 6 (a0 < 0)
  (.ret 6 true)
  (.len 2 eI a1 <| .ret 3 (decide (a0 ≥ (a1.length : Int)))))
  fun j1 => .ret 3 j1)
noncomputable abbrev F_slices_IndexFunc_int_int_index_Gather_1 : Fe := .of Tryz.prog 203 en_vec_pair
def S_slices_IndexFunc_int_int_index_Gather_1_l0 (a0 : List Int) (a1 : List Int) (x0 : Int) : St := ⟨[(8, nI x0), (7, nI (a0.length : Int)), (0, lI a0), (1, .d (.clo (.func 180) [] [.cp [.lst (List.map (D.int .i64) a1)] 0]))], []⟩
def E_slices_IndexFunc_int_int_index_Gather_1_l0 (a0 : List Int) (a1 : List Int) (x : Unit) : St := ⟨[], []⟩
theorem ok_slices_IndexFunc_int_int_index_Gather_1_l0 (a0 : List Int) (a1 : List Int) : ∀ (x0 : Int), Ok (M_slices_IndexFunc_int_int_index_Gather_1_l0 a0 a1 x0) (LR F_slices_IndexFunc_int_int_index_Gather_1 (.exit 0) (E_slices_IndexFunc_int_int_index_Gather_1_l0 a0 a1) 203 0 (S_slices_IndexFunc_int_int_index_Gather_1_l0 a0 a1 x0)) := by
 refine M_slices_IndexFunc_int_int_index_Gather_1_l0.partial_correctness a0 a1 _ ?_
 intro f IH x0
 exact Tr.lpR (F := F_slices_IndexFunc_int_int_index_Gather_1) (X := Int)
  (.ite 6 9 (x0 < (a0.length : Int))
   (.idx 14 eI a0 x0 <| .call 1 (ok_index_Gather_1_c (at' a0 x0) a1) nl_press_bare fun r1 => .iteB 1 16 (r1)
   (.ret 10 (.inl x0))
   (.again 7 (IntKind.i64.wrap (x0 + 1))))
   (.ret 4 (.inr ()))) _ fun x r => IH x r
theorem ok_slices_IndexFunc_int_int_index_Gather_1 (a0 : List Int) (a1 : List Int) : HS 203 (M_slices_IndexFunc_int_int_index_Gather_1 a0 a1) [.lst (List.map (D.int .i64) a0), .clo (.func 180) [] [.cp [.lst (List.map (D.int .i64) a1)] 0]] en_vec_pair := Tr.fn (F := F_slices_IndexFunc_int_int_index_Gather_1)
 (.len 8 eI a0 <| .loopR 4 id ⟨_, _, _, _, _, ok_slices_IndexFunc_int_int_index_Gather_1_l0 a0 a1 0⟩ fun j2 => .ret 6 (-1))
noncomputable abbrev F_slices_ContainsFunc_int_int_index_Gather_1 : Fe := .of Tryz.prog 179 en_press_bare
theorem ok_slices_ContainsFunc_int_int_index_Gather_1 (a0 : List Int) (a1 : List Int) : HS 179 (M_slices_ContainsFunc_int_int_index_Gather_1 a0 a1) [.lst (List.map (D.int .i64) a0), .clo (.func 180) [] [.cp [.lst (List.map (D.int .i64) a1)] 0]] en_press_bare := Tr.fn (F := F_slices_ContainsFunc_int_int_index_Gather_1)
 (.call 8 (ok_slices_IndexFunc_int_int_index_Gather_1 a0 a1) nl_vec_pair fun r1 => .ret 4 (decide (r1 ≥ 0)))
noncomputable abbrev F_index_Gather : Fe := .of Tryz.prog 130 en_vec_each_vec_Add_1
def S_index_Gather_l0 (a0 : List Int) (a1 : List Int) (x0 : Int) (x1 : List Int) : St := ⟨[(22, nI x0), (21, nI (a0.length : Int)), (20, lI a0), (6, sI (.h 0) x1), (3, .ptr (.s 15) 0)], [(.s 15, [lI a1])]⟩
def E_index_Gather_l0 (a0 : List Int) (a1 : List Int) (x : (List Int)) : St := ⟨[(6, sI (.h 1) x)], []⟩
theorem ok_index_Gather_l0 (a0 : List Int) (a1 : List Int) : ∀ (x0 : Int) (x1 : List Int), Ok (M_index_Gather_l0 a0 a1 x0 x1) (LN F_index_Gather (.exit 0) (E_index_Gather_l0 a0 a1) 130 0 (S_index_Gather_l0 a0 a1 x0 x1)) := by
 refine M_index_Gather_l0.partial_correctness a0 a1 _ ?_
 intro f IH x0 x1
 exact Tr.lpN (F := F_index_Gather) (X := Int × (List Int))
  (.ite 6 23 (x0 < (a0.length : Int))
   (.idx 6 eI a0 x0 <| .idx 7 eI a1 (at' a0 x0) <| .app 2 eI 8 x1 [at' a1 (at' a0 x0)] <| .let_ (x1 ++ [at' a1 (at' a0 x0)] : List Int) fun y6 => .again 7 (IntKind.i64.wrap (x0 + 1), y6))
   (.ret 4 x1)) _ fun x r => IH x.1 x.2 r
theorem ok_index_Gather (a0 : List Int) (a1 : List Int) : HS 130 (M_index_Gather a0 a1) [.lst (List.map (D.int .i64) a0), .lst (List.map (D.int .i64) a1)] en_vec_each_vec_Add_1 := Tr.fn (F := F_index_Gather)
 (.call 10 (ok_index_rises a0) nl_press_bare fun r1 => .join 2 4 (γ := Bool) ⟨fun x => [(16, bB x)], [3, 0], fun _ => [], [.s 15]⟩
  (.iteX 0 12 (r1)
  (.ret 5 true)
  (.call 2 (ok_slices_ContainsFunc_int_int_index_Gather_1 a0 a1) nl_press_bare fun r2 => .ret 2 r2))
  fun j3 => .iteB 1 16 (j3)
  (.ret 8 ([], 1))
  (.len 5 eI a0 <| .mk 0 eI 8 0 0 (a0.length : Int) <| .let_ (List.replicate (Int.toNat 0) 0 : List Int) fun y4 => .len 6 eI a0 <| .loop 4 ⟨_, _, _, _, _, ok_index_Gather_l0 a0 a1 0 y4⟩ fun j8 => .ret 8 (j8, 0)))
def en_topk_Press (v : Int × Int × (List Int) × (List Int) × Int × Int × Int) : PV := .tup [.agg [nI v.1, nI v.2.1, sI (.s 0) v.2.2.1, sI (.s 1) v.2.2.2.1, nI v.2.2.2.2.1, nI v.2.2.2.2.2.1, .nils, .nils], nI v.2.2.2.2.2.2]
noncomputable abbrev F_topk_Press : Fe := .of Tryz.prog 76 en_topk_Press
theorem nl_topk_Press : ∀ v, (en_topk_Press v).noLst := fun _ => ⟨⟨trivial, trivial, (flat_map_of fun _ => trivial), (flat_map_of fun _ => trivial), trivial, trivial, trivial, trivial, trivial⟩, trivial, trivial⟩
theorem ok_topk_Press (a0 : Int) (a1 : List Int) : HS 76 (M_topk_Press a0 a1) [.int .i64 a0, .lst (List.map (D.int .i64) a1)] en_topk_Press := Tr.fn (F := F_topk_Press)
 (.len 9 eI a1 <| .ite 2 11 ((a1.length : Int) = 0)
  (.ret 9 (0, 0, [], [], 0, 0, 1))
  (.call 6 (ok_topk_Pick a0 a1) nl_vec_each_vec_Add_1 fun r1 => .iteN 12 20 (r1.2 = 0)
  (.ret 10 (0, 0, [], [], 0, 0, r1.2))
  (.call 6 (ok_index_Gather r1.1 a1) nl_vec_each_vec_Add_1 fun r2 => .iteN 12 30 (r2.2 = 0)
  (.ret 10 (0, 0, [], [], 0, 0, r2.2))
  (.len 5 eI a1 <| .ret 7 (1, (a1.length : Int), r1.1, r2.1, 0, 0, 0)))))
noncomputable abbrev F_press_ways_4 : Fe := .of Tryz.prog 75 en_topk_Press
theorem ok_press_ways_4 (a0 : T_api_How) (a1 : List Int) (a2 : Int) (a3 : List Int) : HS 75 (M_press_ways_4 a0 a1 a2 a3) [.agg [.int .i64 a0.F_Scheme, .int .i64 a0.F_K, .int .i64 a0.F_Wide], .lst (List.map (D.int .i64) a1), .int .u64 a2, .lst (List.map (D.int .i64) a3)] en_topk_Press := Tr.fn (F := F_press_ways_4)
 (.call 11 (ok_topk_Press a0.F_K a1) nl_topk_Press fun r1 => .ret 6 (r1.1, r1.2.1, r1.2.2.1, r1.2.2.2.1, r1.2.2.2.2.1, r1.2.2.2.2.2.1, r1.2.2.2.2.2.2))
def en_quant_Steps (v : Int × Int) : PV := .tup [nU v.1, nI v.2]
noncomputable abbrev F_quant_Steps : Fe := .of Tryz.prog 133 en_quant_Steps
theorem nl_quant_Steps : ∀ v, (en_quant_Steps v).noLst := fun _ => ⟨trivial, trivial, trivial⟩
theorem ok_quant_Steps (a0 : Int) : HS 133 (M_quant_Steps a0) [.int .i64 a0] en_quant_Steps := Tr.fn (F := F_quant_Steps)
 (.join 11 3 (γ := Bool) ⟨fun x => [(9, bB x)], [0], fun _ => [], []⟩
  (.ite 0 6 (a0 < 1)
  (.ret 4 true)
  (.ret 4 (decide (a0 > 8))))
  fun j1 => .iteB 1 9 (j1)
  (.ret 8 (0, 1))
  (.rd 5 (0 ≤ a0) (nU (sShl .u64 1 a0)) <| .ret 5 (IntKind.u64.wrap ((sShl .u64 1 a0) - 1), 0)))
noncomputable abbrev F_fix_Sub : Fe := .of Tryz.prog 103 en_fix_Add
theorem ok_fix_Sub (a0 : Int) (a1 : Int) : HS 103 (M_fix_Sub a0 a1) [.int .i64 a0, .int .i64 a1] en_fix_Add := Tr.fn (F := F_fix_Sub)
 (.ite 24 17 ((bAnd .i64 (bXor .i64 a0 a1) (bXor .i64 a0 (IntKind.i64.wrap (a0 - a1)))) < 0)
  (.ret 8 (0, 2))
  (.ret 9 (IntKind.i64.wrap (a0 - a1), 0)))
noncomputable abbrev F_fix_Neg : Fe := .of Tryz.prog 104 en_fix_Add
theorem ok_fix_Neg (a0 : Int) : HS 104 (M_fix_Neg a0) [.int .i64 a0] en_fix_Add := Tr.fn (F := F_fix_Neg)
 (.call 8 (ok_fix_Sub 0 a0) nl_fix_Add fun r1 => .ret 6 (r1.1, r1.2))
noncomputable abbrev F_fix_Abs : Fe := .of Tryz.prog 46 en_fix_Add
theorem ok_fix_Abs (a0 : Int) : HS 46 (M_fix_Abs a0) [.int .i64 a0] en_fix_Add := Tr.fn (F := F_fix_Abs)
 (.ite 11 5 (a0 ≥ 0)
  (.ret 9 (a0, 0))
  (.call 5 (ok_fix_Neg a0) nl_fix_Add fun r1 => .ret 6 (r1.1, r1.2)))
noncomputable abbrev F_vec_Most : Fe := .of Tryz.prog 134 en_fix_Add
def S_vec_Most_l0 (a0 : List Int) (x0 : Int) (x1 : Int) : St := ⟨[(16, nI x0), (15, nI (a0.length : Int)), (14, lI a0), (2, nI x1)], []⟩
def E_vec_Most_l0 (a0 : List Int) (x : Int) : St := ⟨[(2, nI x)], []⟩
theorem ok_vec_Most_l0 (a0 : List Int) : ∀ (x0 : Int) (x1 : Int), Ok (M_vec_Most_l0 a0 x0 x1) (LR F_vec_Most (.exit 0) (E_vec_Most_l0 a0) 134 0 (S_vec_Most_l0 a0 x0 x1)) := by
 refine M_vec_Most_l0.partial_correctness a0 _ ?_
 intro f IH x0 x1
 exact Tr.lpR (F := F_vec_Most) (X := Int × Int)
  (.ite 6 17 (x0 < (a0.length : Int))
   (.idx 6 eI a0 x0 <| .call 6 (ok_fix_Abs (at' a0 x0)) nl_fix_Add fun r2 => .iteN 12 26 (r2.2 = 0)
   (.ret 12 (.inl (0, r2.2)))
   (.again 13 (IntKind.i64.wrap (x0 + 1), if r2.1 > x1 then r2.1 else x1)))
   (.ret 4 (.inr x1))) _ fun x r => IH x.1 x.2 r
theorem ok_vec_Most (a0 : List Int) : HS 134 (M_vec_Most a0) [.lst (List.map (D.int .i64) a0)] en_fix_Add := Tr.fn (F := F_vec_Most)
 (.call 9 (ok_vec_Check a0) nl_vec_pair fun r1 => .iteN 7 12 (r1 = 0)
  (.ret 9 (0, r1))
  (.len 6 eI a0 <| .loopR 4 id ⟨_, _, _, _, _, ok_vec_Most_l0 a0 0 0⟩ fun j3 => .ret 8 (j3, 0)))
noncomputable abbrev F_quant_size : Fe := .of Tryz.prog 182 en_topk_size
theorem ok_quant_size (a0 : Int) : HS 182 (M_quant_size a0) [.int .i64 a0] en_topk_size := Tr.fn (F := F_quant_size)
 (.ite 10 4 (a0 < 0)
  (.ret 10 (IntKind.u64.wrap (0 - (IntKind.u64.wrap a0))))
  (.ret 9 (IntKind.u64.wrap a0)))
def en_math_bits_Mul64 (v : Int × Int) : PV := .tup [nU v.1, nU v.2]
noncomputable abbrev F_math_bits_Mul64 : Fe := .of Tryz.prog 183 en_math_bits_Mul64
theorem nl_math_bits_Mul64 : ∀ v, (en_math_bits_Mul64 v).noLst := fun _ => ⟨trivial, trivial, trivial⟩
theorem ok_math_bits_Mul64 (a0 : Int) (a1 : Int) : HS 183 (M_math_bits_Mul64 a0 a1) [.int .u64 a0, .int .u64 a1] en_math_bits_Mul64 := Tr.fn (F := F_math_bits_Mul64)
 (.ret 87 (IntKind.u64.wrap ((IntKind.u64.wrap ((IntKind.u64.wrap ((sShr .u64 a0 32) * (sShr .u64 a1 32))) + (sShr .u64 (IntKind.u64.wrap ((IntKind.u64.wrap ((sShr .u64 a0 32) * (bAnd .u64 a1 4294967295))) + (sShr .u64 (IntKind.u64.wrap ((bAnd .u64 a0 4294967295) * (bAnd .u64 a1 4294967295))) 32))) 32))) + (sShr .u64 (IntKind.u64.wrap ((bAnd .u64 (IntKind.u64.wrap ((IntKind.u64.wrap ((sShr .u64 a0 32) * (bAnd .u64 a1 4294967295))) + (sShr .u64 (IntKind.u64.wrap ((bAnd .u64 a0 4294967295) * (bAnd .u64 a1 4294967295))) 32))) 4294967295) + (IntKind.u64.wrap ((bAnd .u64 a0 4294967295) * (sShr .u64 a1 32))))) 32)), IntKind.u64.wrap (a0 * a1)))
noncomputable abbrev F_math_bits_Len64 : Fe := .of Tryz.prog 190 en_vec_pair
theorem ok_math_bits_Len64 (a0 : Int) : HS 190 (M_math_bits_Len64 a0) [.int .u64 a0] en_vec_pair := Tr.fn (F := F_math_bits_Len64)
 (.join 10 0 (γ := Int × Int) ⟨fun x => [(2, nI x.1), (0, nU x.2)], [], fun _ => [], []⟩
  (.ite 0 4 (a0 ≥ 4294967296)
  (.ret 10 (32, sShr .u64 a0 32))
  (.ret 2 (0, a0)))
  fun j1 => .join 6 0 (γ := Int × Int) ⟨fun x => [(2, nI x.1), (0, nU x.2)], [], fun _ => [], []⟩
  (.ite 0 8 (j1.2 ≥ 65536)
  (.ret 12 (IntKind.i64.wrap (j1.1 + 16), sShr .u64 j1.2 16))
  (.ret 2 (j1.1, j1.2)))
  fun j2 => .ite 6 14 (j2.2 ≥ 256)
  (.rd 17 (0 ≤ (IntKind.u8.wrap (sShr .u64 j2.2 8)) ∧ (IntKind.u8.wrap (sShr .u64 j2.2 8)) < ((ByteArray.mk #[0, 1, 2, 2, 3, 3, 3, 3, 4, 4, 4, 4, 4, 4, 4, 4, 5, 5, 5, 5, 5, 5, 5, 5, 5, 5, 5, 5, 5, 5, 5, 5, 6, 6, 6, 6, 6, 6, 6, 6, 6, 6, 6, 6, 6, 6, 6, 6, 6, 6, 6, 6, 6, 6, 6, 6, 6, 6, 6, 6, 6, 6, 6, 6, 7, 7, 7, 7, 7, 7, 7, 7, 7, 7, 7, 7, 7, 7, 7, 7, 7, 7, 7, 7, 7, 7, 7, 7, 7, 7, 7, 7, 7, 7, 7, 7, 7, 7, 7, 7, 7, 7, 7, 7, 7, 7, 7, 7, 7, 7, 7, 7, 7, 7, 7, 7, 7, 7, 7, 7, 7, 7, 7, 7, 7, 7, 7, 7, 8, 8, 8, 8, 8, 8, 8, 8, 8, 8, 8, 8, 8, 8, 8, 8, 8, 8, 8, 8, 8, 8, 8, 8, 8, 8, 8, 8, 8, 8, 8, 8, 8, 8, 8, 8, 8, 8, 8, 8, 8, 8, 8, 8, 8, 8, 8, 8, 8, 8, 8, 8, 8, 8, 8, 8, 8, 8, 8, 8, 8, 8, 8, 8, 8, 8, 8, 8, 8, 8, 8, 8, 8, 8, 8, 8, 8, 8, 8, 8, 8, 8, 8, 8, 8, 8, 8, 8, 8, 8, 8, 8, 8, 8, 8, 8, 8, 8, 8, 8, 8, 8, 8, 8, 8, 8, 8, 8, 8, 8, 8, 8, 8, 8, 8, 8, 8, 8, 8, 8, 8, 8, 8, 8, 8, 8, 8, 8]).size : Int)) (nY (((ByteArray.mk #[0, 1, 2, 2, 3, 3, 3, 3, 4, 4, 4, 4, 4, 4, 4, 4, 5, 5, 5, 5, 5, 5, 5, 5, 5, 5, 5, 5, 5, 5, 5, 5, 6, 6, 6, 6, 6, 6, 6, 6, 6, 6, 6, 6, 6, 6, 6, 6, 6, 6, 6, 6, 6, 6, 6, 6, 6, 6, 6, 6, 6, 6, 6, 6, 7, 7, 7, 7, 7, 7, 7, 7, 7, 7, 7, 7, 7, 7, 7, 7, 7, 7, 7, 7, 7, 7, 7, 7, 7, 7, 7, 7, 7, 7, 7, 7, 7, 7, 7, 7, 7, 7, 7, 7, 7, 7, 7, 7, 7, 7, 7, 7, 7, 7, 7, 7, 7, 7, 7, 7, 7, 7, 7, 7, 7, 7, 7, 7, 8, 8, 8, 8, 8, 8, 8, 8, 8, 8, 8, 8, 8, 8, 8, 8, 8, 8, 8, 8, 8, 8, 8, 8, 8, 8, 8, 8, 8, 8, 8, 8, 8, 8, 8, 8, 8, 8, 8, 8, 8, 8, 8, 8, 8, 8, 8, 8, 8, 8, 8, 8, 8, 8, 8, 8, 8, 8, 8, 8, 8, 8, 8, 8, 8, 8, 8, 8, 8, 8, 8, 8, 8, 8, 8, 8, 8, 8, 8, 8, 8, 8, 8, 8, 8, 8, 8, 8, 8, 8, 8, 8, 8, 8, 8, 8, 8, 8, 8, 8, 8, 8, 8, 8, 8, 8, 8, 8, 8, 8, 8, 8, 8, 8, 8, 8, 8, 8, 8, 8, 8, 8, 8, 8, 8, 8, 8, 8]).data.getD (Int.toNat (IntKind.u8.wrap (sShr .u64 j2.2 8))) 0).toNat : Int)) <| .ret 5 (IntKind.i64.wrap ((IntKind.i64.wrap (j2.1 + 8)) + (IntKind.i64.wrap (((ByteArray.mk #[0, 1, 2, 2, 3, 3, 3, 3, 4, 4, 4, 4, 4, 4, 4, 4, 5, 5, 5, 5, 5, 5, 5, 5, 5, 5, 5, 5, 5, 5, 5, 5, 6, 6, 6, 6, 6, 6, 6, 6, 6, 6, 6, 6, 6, 6, 6, 6, 6, 6, 6, 6, 6, 6, 6, 6, 6, 6, 6, 6, 6, 6, 6, 6, 7, 7, 7, 7, 7, 7, 7, 7, 7, 7, 7, 7, 7, 7, 7, 7, 7, 7, 7, 7, 7, 7, 7, 7, 7, 7, 7, 7, 7, 7, 7, 7, 7, 7, 7, 7, 7, 7, 7, 7, 7, 7, 7, 7, 7, 7, 7, 7, 7, 7, 7, 7, 7, 7, 7, 7, 7, 7, 7, 7, 7, 7, 7, 7, 8, 8, 8, 8, 8, 8, 8, 8, 8, 8, 8, 8, 8, 8, 8, 8, 8, 8, 8, 8, 8, 8, 8, 8, 8, 8, 8, 8, 8, 8, 8, 8, 8, 8, 8, 8, 8, 8, 8, 8, 8, 8, 8, 8, 8, 8, 8, 8, 8, 8, 8, 8, 8, 8, 8, 8, 8, 8, 8, 8, 8, 8, 8, 8, 8, 8, 8, 8, 8, 8, 8, 8, 8, 8, 8, 8, 8, 8, 8, 8, 8, 8, 8, 8, 8, 8, 8, 8, 8, 8, 8, 8, 8, 8, 8, 8, 8, 8, 8, 8, 8, 8, 8, 8, 8, 8, 8, 8, 8, 8, 8, 8, 8, 8, 8, 8, 8, 8, 8, 8, 8, 8, 8, 8, 8, 8, 8, 8]).data.getD (Int.toNat (IntKind.u8.wrap (sShr .u64 j2.2 8))) 0).toNat : Int)))))
  (.rd 7 (0 ≤ (IntKind.u8.wrap j2.2) ∧ (IntKind.u8.wrap j2.2) < ((ByteArray.mk #[0, 1, 2, 2, 3, 3, 3, 3, 4, 4, 4, 4, 4, 4, 4, 4, 5, 5, 5, 5, 5, 5, 5, 5, 5, 5, 5, 5, 5, 5, 5, 5, 6, 6, 6, 6, 6, 6, 6, 6, 6, 6, 6, 6, 6, 6, 6, 6, 6, 6, 6, 6, 6, 6, 6, 6, 6, 6, 6, 6, 6, 6, 6, 6, 7, 7, 7, 7, 7, 7, 7, 7, 7, 7, 7, 7, 7, 7, 7, 7, 7, 7, 7, 7, 7, 7, 7, 7, 7, 7, 7, 7, 7, 7, 7, 7, 7, 7, 7, 7, 7, 7, 7, 7, 7, 7, 7, 7, 7, 7, 7, 7, 7, 7, 7, 7, 7, 7, 7, 7, 7, 7, 7, 7, 7, 7, 7, 7, 8, 8, 8, 8, 8, 8, 8, 8, 8, 8, 8, 8, 8, 8, 8, 8, 8, 8, 8, 8, 8, 8, 8, 8, 8, 8, 8, 8, 8, 8, 8, 8, 8, 8, 8, 8, 8, 8, 8, 8, 8, 8, 8, 8, 8, 8, 8, 8, 8, 8, 8, 8, 8, 8, 8, 8, 8, 8, 8, 8, 8, 8, 8, 8, 8, 8, 8, 8, 8, 8, 8, 8, 8, 8, 8, 8, 8, 8, 8, 8, 8, 8, 8, 8, 8, 8, 8, 8, 8, 8, 8, 8, 8, 8, 8, 8, 8, 8, 8, 8, 8, 8, 8, 8, 8, 8, 8, 8, 8, 8, 8, 8, 8, 8, 8, 8, 8, 8, 8, 8, 8, 8, 8, 8, 8, 8, 8, 8]).size : Int)) (nY (((ByteArray.mk #[0, 1, 2, 2, 3, 3, 3, 3, 4, 4, 4, 4, 4, 4, 4, 4, 5, 5, 5, 5, 5, 5, 5, 5, 5, 5, 5, 5, 5, 5, 5, 5, 6, 6, 6, 6, 6, 6, 6, 6, 6, 6, 6, 6, 6, 6, 6, 6, 6, 6, 6, 6, 6, 6, 6, 6, 6, 6, 6, 6, 6, 6, 6, 6, 7, 7, 7, 7, 7, 7, 7, 7, 7, 7, 7, 7, 7, 7, 7, 7, 7, 7, 7, 7, 7, 7, 7, 7, 7, 7, 7, 7, 7, 7, 7, 7, 7, 7, 7, 7, 7, 7, 7, 7, 7, 7, 7, 7, 7, 7, 7, 7, 7, 7, 7, 7, 7, 7, 7, 7, 7, 7, 7, 7, 7, 7, 7, 7, 8, 8, 8, 8, 8, 8, 8, 8, 8, 8, 8, 8, 8, 8, 8, 8, 8, 8, 8, 8, 8, 8, 8, 8, 8, 8, 8, 8, 8, 8, 8, 8, 8, 8, 8, 8, 8, 8, 8, 8, 8, 8, 8, 8, 8, 8, 8, 8, 8, 8, 8, 8, 8, 8, 8, 8, 8, 8, 8, 8, 8, 8, 8, 8, 8, 8, 8, 8, 8, 8, 8, 8, 8, 8, 8, 8, 8, 8, 8, 8, 8, 8, 8, 8, 8, 8, 8, 8, 8, 8, 8, 8, 8, 8, 8, 8, 8, 8, 8, 8, 8, 8, 8, 8, 8, 8, 8, 8, 8, 8, 8, 8, 8, 8, 8, 8, 8, 8, 8, 8, 8, 8, 8, 8, 8, 8, 8, 8]).data.getD (Int.toNat (IntKind.u8.wrap j2.2)) 0).toNat : Int)) <| .ret 5 (IntKind.i64.wrap (j2.1 + (IntKind.i64.wrap (((ByteArray.mk #[0, 1, 2, 2, 3, 3, 3, 3, 4, 4, 4, 4, 4, 4, 4, 4, 5, 5, 5, 5, 5, 5, 5, 5, 5, 5, 5, 5, 5, 5, 5, 5, 6, 6, 6, 6, 6, 6, 6, 6, 6, 6, 6, 6, 6, 6, 6, 6, 6, 6, 6, 6, 6, 6, 6, 6, 6, 6, 6, 6, 6, 6, 6, 6, 7, 7, 7, 7, 7, 7, 7, 7, 7, 7, 7, 7, 7, 7, 7, 7, 7, 7, 7, 7, 7, 7, 7, 7, 7, 7, 7, 7, 7, 7, 7, 7, 7, 7, 7, 7, 7, 7, 7, 7, 7, 7, 7, 7, 7, 7, 7, 7, 7, 7, 7, 7, 7, 7, 7, 7, 7, 7, 7, 7, 7, 7, 7, 7, 8, 8, 8, 8, 8, 8, 8, 8, 8, 8, 8, 8, 8, 8, 8, 8, 8, 8, 8, 8, 8, 8, 8, 8, 8, 8, 8, 8, 8, 8, 8, 8, 8, 8, 8, 8, 8, 8, 8, 8, 8, 8, 8, 8, 8, 8, 8, 8, 8, 8, 8, 8, 8, 8, 8, 8, 8, 8, 8, 8, 8, 8, 8, 8, 8, 8, 8, 8, 8, 8, 8, 8, 8, 8, 8, 8, 8, 8, 8, 8, 8, 8, 8, 8, 8, 8, 8, 8, 8, 8, 8, 8, 8, 8, 8, 8, 8, 8, 8, 8, 8, 8, 8, 8, 8, 8, 8, 8, 8, 8, 8, 8, 8, 8, 8, 8, 8, 8, 8, 8, 8, 8, 8, 8, 8, 8, 8, 8]).data.getD (Int.toNat (IntKind.u8.wrap j2.2)) 0).toNat : Int))))))
noncomputable abbrev F_math_bits_LeadingZeros64 : Fe := .of Tryz.prog 204 en_vec_pair
theorem ok_math_bits_LeadingZeros64 (a0 : Int) : HS 204 (M_math_bits_LeadingZeros64 a0) [.int .u64 a0] en_vec_pair := Tr.fn (F := F_math_bits_LeadingZeros64)
 (.call 7 (ok_math_bits_Len64 a0) nl_vec_pair fun r1 => .ret 4 (IntKind.i64.wrap (64 - r1)))
noncomputable abbrev F_math_bits_Div64 : Fe := .of Tryz.prog 184 en_math_bits_Mul64
def S_math_bits_Div64_l0 (a1 : Int) (a2 : Int) (r3 : Int) (y4 : Int) (x0 : Int) (x1 : Int) : St := ⟨[(16, nU x0), (15, nU x1), (14, nU (bAnd .u64 (sShl .u64 a1 (IntKind.u64.wrap r3)) 4294967295)), (13, nU (sShr .u64 (sShl .u64 a1 (IntKind.u64.wrap r3)) 32)), (11, nU y4), (10, nU (bAnd .u64 (sShl .u64 a2 (IntKind.u64.wrap r3)) 4294967295)), (9, nU (sShr .u64 (sShl .u64 a2 (IntKind.u64.wrap r3)) 32)), (2, nU (sShl .u64 a2 (IntKind.u64.wrap r3))), (8, nU (IntKind.u64.wrap r3))], []⟩
def E_math_bits_Div64_l0 (a1 : Int) (a2 : Int) (r3 : Int) (y4 : Int) (x : Int) : St := ⟨[(15, nU x), (14, nU (bAnd .u64 (sShl .u64 a1 (IntKind.u64.wrap r3)) 4294967295)), (13, nU (sShr .u64 (sShl .u64 a1 (IntKind.u64.wrap r3)) 32)), (11, nU y4), (10, nU (bAnd .u64 (sShl .u64 a2 (IntKind.u64.wrap r3)) 4294967295)), (9, nU (sShr .u64 (sShl .u64 a2 (IntKind.u64.wrap r3)) 32)), (2, nU (sShl .u64 a2 (IntKind.u64.wrap r3))), (8, nU (IntKind.u64.wrap r3))], []⟩
theorem ok_math_bits_Div64_l0 (a1 : Int) (a2 : Int) (r3 : Int) (y4 : Int) : ∀ (x0 : Int) (x1 : Int), Ok (M_math_bits_Div64_l0 a1 a2 r3 y4 x0 x1) (LN F_math_bits_Div64 (.exit 0) (E_math_bits_Div64_l0 a1 a2 r3 y4) 184 0 (S_math_bits_Div64_l0 a1 a2 r3 y4 x0 x1)) := by
 refine M_math_bits_Div64_l0.partial_correctness a1 a2 r3 y4 _ ?_
 intro f IH x0 x1
 exact Tr.lpN (F := F_math_bits_Div64) (X := Int × Int)
  (.join 7 9 (γ := Bool) ⟨fun x => [(78, bB x)], [16, 15, 14, 13, 11, 10, 9, 2, 8], fun _ => [], []⟩
   (.ite 0 69 (x1 ≥ 4294967296)
   (.ret 10 true)
   (.ret 10 (decide ((IntKind.u64.wrap (x1 * (bAnd .u64 (sShl .u64 a2 (IntKind.u64.wrap r3)) 4294967295))) > (IntKind.u64.wrap ((IntKind.u64.wrap (4294967296 * x0)) + (sShr .u64 (sShl .u64 a1 (IntKind.u64.wrap r3)) 32)))))))
   fun j10 => .iteB 1 78 (j10)
   (.let_ (IntKind.u64.wrap (x0 + (sShr .u64 (sShl .u64 a2 (IntKind.u64.wrap r3)) 32)) : Int) fun y11 => .ite 21 85 (y11 ≥ 4294967296)
   (.ret 4 (IntKind.u64.wrap (x1 - 1)))
   (.again 3 (y11, IntKind.u64.wrap (x1 - 1))))
   (.ret 4 x1)) _ fun x r => IH x.1 x.2 r
def S_math_bits_Div64_l1 (a1 : Int) (a2 : Int) (r3 : Int) (j13 : Int) (y14 : Int) (x0 : Int) (x1 : Int) : St := ⟨[(16, nU x0), (18, nU x1), (17, nU y14), (15, nU j13), (14, nU (bAnd .u64 (sShl .u64 a1 (IntKind.u64.wrap r3)) 4294967295)), (10, nU (bAnd .u64 (sShl .u64 a2 (IntKind.u64.wrap r3)) 4294967295)), (9, nU (sShr .u64 (sShl .u64 a2 (IntKind.u64.wrap r3)) 32)), (2, nU (sShl .u64 a2 (IntKind.u64.wrap r3))), (8, nU (IntKind.u64.wrap r3))], []⟩
def E_math_bits_Div64_l1 (a1 : Int) (a2 : Int) (r3 : Int) (j13 : Int) (y14 : Int) (x : Int) : St := ⟨[(18, nU x), (17, nU y14), (15, nU j13), (14, nU (bAnd .u64 (sShl .u64 a1 (IntKind.u64.wrap r3)) 4294967295)), (2, nU (sShl .u64 a2 (IntKind.u64.wrap r3))), (8, nU (IntKind.u64.wrap r3))], []⟩
theorem ok_math_bits_Div64_l1 (a1 : Int) (a2 : Int) (r3 : Int) (j13 : Int) (y14 : Int) : ∀ (x0 : Int) (x1 : Int), Ok (M_math_bits_Div64_l1 a1 a2 r3 j13 y14 x0 x1) (LN F_math_bits_Div64 (.exit 2) (E_math_bits_Div64_l1 a1 a2 r3 j13 y14) 184 1 (S_math_bits_Div64_l1 a1 a2 r3 j13 y14 x0 x1)) := by
 refine M_math_bits_Div64_l1.partial_correctness a1 a2 r3 j13 y14 _ ?_
 intro f IH x0 x1
 exact Tr.lpN (F := F_math_bits_Div64) (X := Int × Int)
  (.join 7 9 (γ := Bool) ⟨fun x => [(113, bB x)], [16, 18, 17, 15, 14, 10, 9, 2, 8], fun _ => [], []⟩
   (.ite 0 104 (x1 ≥ 4294967296)
   (.ret 10 true)
   (.ret 10 (decide ((IntKind.u64.wrap (x1 * (bAnd .u64 (sShl .u64 a2 (IntKind.u64.wrap r3)) 4294967295))) > (IntKind.u64.wrap ((IntKind.u64.wrap (4294967296 * x0)) + (bAnd .u64 (sShl .u64 a1 (IntKind.u64.wrap r3)) 4294967295)))))))
   fun j20 => .iteB 1 113 (j20)
   (.let_ (IntKind.u64.wrap (x0 + (sShr .u64 (sShl .u64 a2 (IntKind.u64.wrap r3)) 32)) : Int) fun y21 => .ite 21 120 (y21 ≥ 4294967296)
   (.ret 4 (IntKind.u64.wrap (x1 - 1)))
   (.again 3 (y21, IntKind.u64.wrap (x1 - 1))))
   (.ret 4 x1)) _ fun x r => IH x.1 x.2 r
theorem ok_math_bits_Div64 (a0 : Int) (a1 : Int) (a2 : Int) : HS 184 (M_math_bits_Div64 a0 a1 a2) [.int .u64 a0, .int .u64 a1, .int .u64 a2] en_math_bits_Mul64 := Tr.fn (F := F_math_bits_Div64)
 (.join 11 0 (γ := Unit) ⟨fun _ => [], [0, 1, 2], fun _ => [], []⟩
  (.ite 0 20 (a2 = 0)
  (.halt)
  (.ret 2 ()))
  fun j1 => .join 7 0 (γ := Unit) ⟨fun _ => [], [0, 1, 2], fun _ => [], []⟩
  (.ite 0 24 (a2 ≤ a0)
  (.halt)
  (.ret 2 ()))
  fun j2 => .ite 6 27 (a0 = 0)
  (.rd 5 (a2 ≠ 0) (nU (IntKind.u64.wrap (Int.tdiv a1 a2))) <| .rd 2 (a2 ≠ 0) (nU (Int.tmod a1 a2)) <| .ret 5 (IntKind.u64.wrap (Int.tdiv a1 a2), Int.tmod a1 a2))
  (.call 5 (ok_math_bits_LeadingZeros64 a2) nl_vec_pair fun r3 => .rd 7 (0 ≤ IntKind.u64.wrap r3) (nU (sShl .u64 a2 (IntKind.u64.wrap r3))) <| .rd 18 (0 ≤ IntKind.u64.wrap r3) (nU (sShl .u64 a0 (IntKind.u64.wrap r3))) <| .rd 3 (0 ≤ IntKind.u64.wrap (64 - (IntKind.u64.wrap r3))) (nU (sShr .u64 a1 (IntKind.u64.wrap (64 - (IntKind.u64.wrap r3))))) <| .let_ (bOr .u64 (sShl .u64 a0 (IntKind.u64.wrap r3)) (sShr .u64 a1 (IntKind.u64.wrap (64 - (IntKind.u64.wrap r3)))) : Int) fun y4 => .rd 7 (0 ≤ IntKind.u64.wrap r3) (nU (sShl .u64 a1 (IntKind.u64.wrap r3))) <| .rd 18 (sShr .u64 (sShl .u64 a2 (IntKind.u64.wrap r3)) 32 ≠ 0) (nU (IntKind.u64.wrap (Int.tdiv y4 (sShr .u64 (sShl .u64 a2 (IntKind.u64.wrap r3)) 32)))) <| .let_ (IntKind.u64.wrap (Int.tdiv y4 (sShr .u64 (sShl .u64 a2 (IntKind.u64.wrap r3)) 32)) : Int) fun y6 => .let_ (IntKind.u64.wrap (y4 - (IntKind.u64.wrap (y6 * (sShr .u64 (sShl .u64 a2 (IntKind.u64.wrap r3)) 32)))) : Int) fun y8 => .loop 14 ⟨_, _, _, _, _, ok_math_bits_Div64_l0 a1 a2 r3 y4 y8 y6⟩ fun j13 => .let_ (IntKind.u64.wrap ((IntKind.u64.wrap ((IntKind.u64.wrap (y4 * 4294967296)) + (sShr .u64 (sShl .u64 a1 (IntKind.u64.wrap r3)) 32))) - (IntKind.u64.wrap (j13 * (sShl .u64 a2 (IntKind.u64.wrap r3))))) : Int) fun y14 => .rd 17 (sShr .u64 (sShl .u64 a2 (IntKind.u64.wrap r3)) 32 ≠ 0) (nU (IntKind.u64.wrap (Int.tdiv y14 (sShr .u64 (sShl .u64 a2 (IntKind.u64.wrap r3)) 32)))) <| .let_ (IntKind.u64.wrap (Int.tdiv y14 (sShr .u64 (sShl .u64 a2 (IntKind.u64.wrap r3)) 32)) : Int) fun y16 => .let_ (IntKind.u64.wrap (y14 - (IntKind.u64.wrap (y16 * (sShr .u64 (sShl .u64 a2 (IntKind.u64.wrap r3)) 32)))) : Int) fun y18 => .loop 14 ⟨_, _, _, _, _, ok_math_bits_Div64_l1 a1 a2 r3 j13 y14 y18 y16⟩ fun j23 => .let_ (IntKind.u64.wrap ((IntKind.u64.wrap (j13 * 4294967296)) + j23) : Int) fun y24 => .let_ (IntKind.u64.wrap ((IntKind.u64.wrap ((IntKind.u64.wrap (y14 * 4294967296)) + (bAnd .u64 (sShl .u64 a1 (IntKind.u64.wrap r3)) 4294967295))) - (IntKind.u64.wrap (j23 * (sShl .u64 a2 (IntKind.u64.wrap r3))))) : Int) fun y26 => .rd 16 (0 ≤ IntKind.u64.wrap r3) (nU (sShr .u64 y26 (IntKind.u64.wrap r3))) <| .ret 4 (y24, sShr .u64 y26 (IntKind.u64.wrap r3))))
def en_quant_Level (v : Int × Int × Int) : PV := .tup [nU v.1, nU v.2.1, nI v.2.2]
noncomputable abbrev F_quant_Level : Fe := .of Tryz.prog 135 en_quant_Level
theorem nl_quant_Level : ∀ v, (en_quant_Level v).noLst := fun _ => ⟨trivial, trivial, trivial, trivial⟩
theorem ok_quant_Level (a0 : Int) (a1 : Int) (a2 : Int) : HS 135 (M_quant_Level a0 a1 a2) [.int .i64 a0, .int .i64 a1, .int .i64 a2] en_quant_Level := Tr.fn (F := F_quant_Level)
 (.call 9 (ok_quant_Steps a2) nl_quant_Steps fun r1 => .join 13 3 (γ := Bool) ⟨fun x => [(26, bB x)], [9, 0, 1], fun _ => [], []⟩
  (.iteN 0 23 (r1.2 = 0)
  (.ret 4 true)
  (.ret 4 (decide (a1 < 0))))
  fun j2 => .join 1 6 (γ := Bool) ⟨fun x => [(33, bB x)], [9, 0, 1], fun _ => [], []⟩
  (.iteB 0 27 (j2)
  (.ret 7 true)
  (.call 1 (ok_quant_size a0) nl_topk_size fun r3 => .ret 5 (decide (r3 > (IntKind.u64.wrap a1)))))
  fun j4 => .iteB 2 20 (j4)
  (.ret 10 (0, 0, 1))
  (.ite 7 34 (a1 = 0)
  (.ret 10 (0, 0, 0))
  (.call 6 (ok_quant_size a0) nl_topk_size fun r5 => .call 1 (ok_math_bits_Mul64 r5 r1.1) nl_math_bits_Mul64 fun r6 => .call 12 (ok_math_bits_Div64 r6.1 r6.2 (IntKind.u64.wrap a1)) nl_math_bits_Mul64 fun r7 => .ret 15 (r7.1, r7.2, 0))))
noncomputable abbrev F_slices_Clone_int_int : Fe := .of Tryz.prog 137 en_slices_Clone_int64_int64
theorem ok_slices_Clone_int_int (a0 : List Int) : HS 137 (M_slices_Clone_int_int a0) [.lst (List.map (D.int .i64) a0)] en_slices_Clone_int64_int64 := Tr.fn (F := F_slices_Clone_int_int)
 (.nilq 8 eI.f a0
  (    if room 8 ([] ++ a0).length then
       some ([] ++ a0)
     else none)
  (    some [])
  (fun h => by (try obtain rfl := List.eq_nil_of_length_eq_zero h); first | rfl | (simp [h]; done))
  (.app 7 eI 8 [] a0 <| .ret 3 ([] ++ a0))
  (.ret 8 []))
noncomputable abbrev F_thrum_draw_stir_with : Fe := .of Tryz.prog 231 en_topk_size
theorem ok_thrum_draw_stir_with (a0 : Int) (a1 : Int) : HS 231 (M_thrum_draw_stir_with a0 a1) [.int .u64 a0, .int .i64 a1] en_topk_size := Tr.fn (F := F_thrum_draw_stir_with)
 (.ret 22 (bXor .u64 (IntKind.u64.wrap ((bXor .u64 a0 (IntKind.u64.wrap a1)) * 11400714819323198485)) (sShr .u64 (IntKind.u64.wrap ((bXor .u64 a0 (IntKind.u64.wrap a1)) * 11400714819323198485)) 29)))
noncomputable abbrev F_draw_over : Fe := .of Tryz.prog 220 en_topk_size
def S_draw_over_l0 (a1 : List Int) (x0 : Int) (x1 : Int) : St := ⟨[(11, nI x0), (10, nI (a1.length : Int)), (9, lI a1), (5, nU x1)], []⟩
def E_draw_over_l0 (a1 : List Int) (x : Int) : St := ⟨[(5, nU x)], []⟩
theorem ok_draw_over_l0 (a1 : List Int) : ∀ (x0 : Int) (x1 : Int), Ok (M_draw_over_l0 a1 x0 x1) (LN F_draw_over (.exit 0) (E_draw_over_l0 a1) 220 0 (S_draw_over_l0 a1 x0 x1)) := by
 refine M_draw_over_l0.partial_correctness a1 _ ?_
 intro f IH x0 x1
 exact Tr.lpN (F := F_draw_over) (X := Int × Int)
  (.ite 6 12 (x0 < (a1.length : Int))
   (.idx 6 eI a1 x0 <| .call 6 (ok_thrum_draw_stir_with x1 (at' a1 x0)) nl_topk_size fun r1 => .again 7 (IntKind.i64.wrap (x0 + 1), r1))
   (.ret 4 x1)) _ fun x r => IH x.1 x.2 r
theorem ok_draw_over (a0 : Int) (a1 : List Int) : HS 220 (M_draw_over a0 a1) [.int .u64 a0, .lst (List.map (D.int .i64) a1)] en_topk_size := Tr.fn (F := F_draw_over)
 (.len 13 eI a1 <| .loop 4 ⟨_, _, _, _, _, ok_draw_over_l0 a1 0 a0⟩ fun j2 => .ret 7 j2)
noncomputable abbrev F_thrum_draw_stir_end : Fe := .of Tryz.prog 221 en_topk_size
theorem ok_thrum_draw_stir_end (a0 : Int) : HS 221 (M_thrum_draw_stir_end a0) [.int .u64 a0] en_topk_size := Tr.fn (F := F_thrum_draw_stir_end)
 (.ret 19 (bXor .u64 (IntKind.u64.wrap (a0 * 13787848793156543929)) (sShr .u64 (IntKind.u64.wrap (a0 * 13787848793156543929)) 32)))
noncomputable abbrev F_draw_At : Fe := .of Tryz.prog 205 en_topk_size
theorem ok_draw_At (a0 : Int) (a1 : List Int) : HS 205 (M_draw_At a0 a1) [.int .u64 a0, .lst (List.map (D.int .i64) a1)] en_topk_size := Tr.fn (F := F_draw_At)
 (.call 8 (ok_draw_over a0 a1) nl_topk_size fun r1 => .call 0 (ok_thrum_draw_stir_end r1) nl_topk_size fun r2 => .ret 3 r2)
noncomputable abbrev F_draw_Below : Fe := .of Tryz.prog 185 en_quant_Steps
theorem ok_draw_Below (a0 : Int) (a1 : Int) (a2 : List Int) : HS 185 (M_draw_Below a0 a1 a2) [.int .u64 a0, .int .u64 a1, .lst (List.map (D.int .i64) a2)] en_quant_Steps := Tr.fn (F := F_draw_Below)
 (.ite 11 9 (a0 = 0)
  (.ret 8 (0, 1))
  (.call 6 (ok_draw_At a1 a2) nl_topk_size fun r1 => .rd 1 (a0 ≠ 0) (nU (Int.tmod r1 a0)) <| .ret 4 (Int.tmod r1 a0, 0)))
def en_draw_Chance (v : Bool × Int) : PV := .tup [bB v.1, nI v.2]
noncomputable abbrev F_draw_Chance : Fe := .of Tryz.prog 136 en_draw_Chance
theorem nl_draw_Chance : ∀ v, (en_draw_Chance v).noLst := fun _ => ⟨trivial, trivial, trivial⟩
theorem ok_draw_Chance (a0 : Int) (a1 : Int) (a2 : Int) (a3 : List Int) : HS 136 (M_draw_Chance a0 a1 a2 a3) [.int .u64 a0, .int .u64 a1, .int .u64 a2, .lst (List.map (D.int .i64) a3)] en_draw_Chance := Tr.fn (F := F_draw_Chance)
 (.ite 12 14 (a0 > a1)
  (.ret 8 (false, 1))
  (.call 7 (ok_draw_Below a1 a2 a3) nl_quant_Steps fun r1 => .join 11 4 (γ := Bool) ⟨fun x => [(28, bB x)], [11], fun _ => [], []⟩
  (.ite 0 24 (r1.2 = 0)
  (.ret 5 (decide (r1.1 < a0)))
  (.ret 5 false))
  fun j2 => .ret 5 (j2, r1.2)))
def en_quant_Press (v : Int × Int × Int × Int × (List Int) × (List Bool) × Int) : PV := .tup [.agg [nI v.1, nI v.2.1, .nils, .nils, nI v.2.2.1, nI v.2.2.2.1, sU (.s 0) v.2.2.2.2.1, sB (.s 1) v.2.2.2.2.2.1], nI v.2.2.2.2.2.2]
noncomputable abbrev F_quant_Press : Fe := .of Tryz.prog 83 en_quant_Press
def S_quant_Press_l0 (a0 : List Int) (a1 : Int) (a2 : Int) (a3 : List Int) (r3 : Int × Int) (x0 : Int) (x1 : List Int) (x2 : List Bool) : St := ⟨[(57, nI x0), (56, nI (a0.length : Int)), (55, lI a0), (14, .ptr (.s 11391) 0), (12, nI r3.1), (8, .ptr (.s 15) 0), (1, nI a1), (2, nU a2), (3, lI a3)], [(.s 11391, [nI 2, nI (a0.length : Int), .nils, .nils, nI r3.1, nI a1, sU (.h 0) x1, sB (.h 1) x2]), (.s 15, [nI 0, nI 0, .nils, .nils, nI 0, nI 0, .nils, .nils])]⟩
def E_quant_Press_l0 (a0 : List Int) (a1 : Int) (a2 : Int) (a3 : List Int) (r3 : Int × Int) (x : (List Int) × (List Bool)) : St := ⟨[(14, .ptr (.s 11391) 0), (8, .ptr (.s 15) 0)], [(.s 11391, [nI 2, nI (a0.length : Int), .nils, .nils, nI r3.1, nI a1, sU (.h 2) x.1, sB (.h 3) x.2]), (.s 15, [nI 0, nI 0, .nils, .nils, nI 0, nI 0, .nils, .nils])]⟩
theorem ok_quant_Press_l0 (a0 : List Int) (a1 : Int) (a2 : Int) (a3 : List Int) (r3 : Int × Int) : ∀ (x0 : Int) (x1 : List Int) (x2 : List Bool), Ok (M_quant_Press_l0 a0 a1 a2 a3 r3 x0 x1 x2) (LR F_quant_Press (.exit 0) (E_quant_Press_l0 a0 a1 a2 a3 r3) 83 0 (S_quant_Press_l0 a0 a1 a2 a3 r3 x0 x1 x2)) := by
 refine M_quant_Press_l0.partial_correctness a0 a1 a2 a3 r3 _ ?_
 intro f IH x0 x1 x2
 exact Tr.lpR (F := F_quant_Press) (X := Int × (List Int) × (List Bool))
  (.ite 6 58 (x0 < (a0.length : Int))
   (.idx 7 eI a0 x0 <| .call 9 (ok_quant_Level (at' a0 x0) r3.1 a1) nl_quant_Level fun r9 => .iteN 14 71 (r9.2.2 = 0)
   (.ret 13 (.inl (0, 0, 0, 0, [], [], r9.2.2)))
   (.joinR 8 0 (γ := Int) ⟨fun x => [(17, nU x)], [16, 15, 57, 56, 55, 14, 12, 8, 1, 2, 3], fun _ => [], [.s 11391, .s 15]⟩ .inl
   (.ite 0 75 (r9.2.1 > 0)
   (.call 8 (ok_slices_Clone_int_int a3) nl_slices_Clone_int64_int64 fun r10 => .app 2 eI 8 r10 [x0] <| .call 0 (ok_draw_Chance r9.2.1 (IntKind.u64.wrap r3.1) a2 (r10 ++ [x0])) nl_draw_Chance fun r11 => .iteN 12 90 (r11.2 = 0)
   (.ret 10 (.inl (0, 0, 0, 0, [], [], r11.2)))
   (.iteB 6 93 (r11.1)
   (.ret 6 (.inr (IntKind.u64.wrap (r9.1 + 1))))
   (.ret 2 (.inr r9.1))))
   (.ret 2 (.inr r9.1)))
   fun j12 => .idx 10 eU x1 x0 <| .sto 0 [97] eU x1 x0 j12 <| .hold 1 [] <| .idx 0 eB x2 x0 <| .sto 0 [100] eB x2 x0 (decide ((at' a0 x0) < 0)) <| .let_ (x1.set (Int.toNat x0) j12 : List Int) fun y13 => .let_ (x2.set (Int.toNat x0) (decide ((at' a0 x0) < 0)) : List Bool) fun y15 => .again 7 (IntKind.i64.wrap (x0 + 1), y13, y15)))
   (.ret 4 (.inr (x1, x2)))) _ fun x r => IH x.1 x.2.1 x.2.2 r
theorem nl_quant_Press : ∀ v, (en_quant_Press v).noLst := fun _ => ⟨⟨trivial, trivial, trivial, trivial, trivial, trivial, (flat_map_of fun _ => trivial), (flat_map_of fun _ => trivial), trivial⟩, trivial, trivial⟩
theorem ok_quant_Press (a0 : List Int) (a1 : Int) (a2 : Int) (a3 : List Int) : HS 83 (M_quant_Press a0 a1 a2 a3) [.lst (List.map (D.int .i64) a0), .int .i64 a1, .int .u64 a2, .lst (List.map (D.int .i64) a3)] en_quant_Press := Tr.fn (F := F_quant_Press)
 (.call 9 (ok_quant_Steps a1) nl_quant_Steps fun r1 => .join 11 4 (γ := Bool) ⟨fun x => [(33, bB x)], [8, 0, 1, 2, 3], fun _ => [], [.s 15]⟩
  (.iteN 0 29 (r1.2 = 0)
  (.ret 5 true)
  (.len 1 eI a0 <| .ret 3 ((a0.length : Int) == 0)))
  fun j2 => .iteB 1 33 (j2)
  (.ret 9 (0, 0, 0, 0, [], [], 1))
  (.call 5 (ok_vec_Most a0) nl_fix_Add fun r3 => .iteN 12 41 (r3.2 = 0)
  (.ret 10 (0, 0, 0, 0, [], [], r3.2))
  (.join 3 0 (γ := Unit) ⟨fun x => [(14, .ptr (.s 11391) 0)], [12, 8, 0, 1, 2, 3], fun x => [(.s 11391, [nI 2, nI (a0.length : Int), .nils, .nils, nI r3.1, nI a1, sU (.s 11311) (List.replicate (Int.toNat (a0.length : Int)) 0), sB (.s 11359) (List.replicate (Int.toNat (a0.length : Int)) false)])], [.s 15]⟩
  (.drawsL 0
  (.alt
  (    if 0 ≤ (a0.length : Int) ∧ (a0.length : Int) ≤ (a0.length : Int) ∧ (a0.length : Int) ≤ 140737488355328 ∧ (a0.length : Int) * ((8 : Nat) : Int) ≤ 140737488355328 then
       if 0 ≤ (a0.length : Int) ∧ (a0.length : Int) ≤ (a0.length : Int) ∧ (a0.length : Int) ≤ 140737488355328 ∧ (a0.length : Int) * ((1 : Nat) : Int) ≤ 140737488355328 then
         some ()
       else none
     else none)
  (    if 0 ≤ (a0.length : Int) ∧ (a0.length : Int) ≤ (a0.length : Int) ∧ (a0.length : Int) ≤ 140737488355328 ∧ (a0.length : Int) * ((8 : Nat) : Int) ≤ 140737488355328 then
       if 0 ≤ (a0.length : Int) ∧ (a0.length : Int) ≤ (a0.length : Int) ∧ (a0.length : Int) ≤ 140737488355328 ∧ (a0.length : Int) * ((1 : Nat) : Int) ≤ 140737488355328 then
         some ()
       else none
     else none)
  rfl
  (.len 1 eI a0 <| .len 3 eI a0 <| .len 1 eI a0 <| .mk 0 eU 8 0 (a0.length : Int) (a0.length : Int) <| .hold 1 [.c, .len eI.f a0, .c, .c, .c, .len eI.f a0] <| .mk 0 eB 1 false (a0.length : Int) (a0.length : Int) <| .hold 1 [.c, .len eI.f a0, .c, .c] <| .hold 3 [.c, .len eI.f a0, .c, .c, .c] <| .ret 3 ())
  (.alt
  (    if 0 ≤ (a0.length : Int) ∧ (a0.length : Int) ≤ (a0.length : Int) ∧ (a0.length : Int) ≤ 140737488355328 ∧ (a0.length : Int) * ((8 : Nat) : Int) ≤ 140737488355328 then
       if 0 ≤ (a0.length : Int) ∧ (a0.length : Int) ≤ (a0.length : Int) ∧ (a0.length : Int) ≤ 140737488355328 ∧ (a0.length : Int) * ((1 : Nat) : Int) ≤ 140737488355328 then
         some ()
       else none
     else none)
  (    if 0 ≤ (a0.length : Int) ∧ (a0.length : Int) ≤ (a0.length : Int) ∧ (a0.length : Int) ≤ 140737488355328 ∧ (a0.length : Int) * ((8 : Nat) : Int) ≤ 140737488355328 then
       if 0 ≤ (a0.length : Int) ∧ (a0.length : Int) ≤ (a0.length : Int) ∧ (a0.length : Int) ≤ 140737488355328 ∧ (a0.length : Int) * ((1 : Nat) : Int) ≤ 140737488355328 then
         some ()
       else none
     else none)
  rfl
  (.len 1 eI a0 <| .len 3 eI a0 <| .len 1 eI a0 <| .mk 0 eU 8 0 (a0.length : Int) (a0.length : Int) <| .hold 1 [.c, .len eI.f a0, .c, .c, .c, .len eI.f a0] <| .hold 2 [.c, .len eI.f a0, .c, .c, .c, .len eI.f a0] <| .mk 0 eB 1 false (a0.length : Int) (a0.length : Int) <| .hold 1 [.c, .len eI.f a0, .c, .c] <| .ret 4 ())
  (.alt
  (    if 0 ≤ (a0.length : Int) ∧ (a0.length : Int) ≤ (a0.length : Int) ∧ (a0.length : Int) ≤ 140737488355328 ∧ (a0.length : Int) * ((8 : Nat) : Int) ≤ 140737488355328 then
       if 0 ≤ (a0.length : Int) ∧ (a0.length : Int) ≤ (a0.length : Int) ∧ (a0.length : Int) ≤ 140737488355328 ∧ (a0.length : Int) * ((1 : Nat) : Int) ≤ 140737488355328 then
         some ()
       else none
     else none)
  (    if 0 ≤ (a0.length : Int) ∧ (a0.length : Int) ≤ (a0.length : Int) ∧ (a0.length : Int) ≤ 140737488355328 ∧ (a0.length : Int) * ((1 : Nat) : Int) ≤ 140737488355328 then
       if 0 ≤ (a0.length : Int) ∧ (a0.length : Int) ≤ (a0.length : Int) ∧ (a0.length : Int) ≤ 140737488355328 ∧ (a0.length : Int) * ((8 : Nat) : Int) ≤ 140737488355328 then
         some ()
       else none
     else none)
  (by (repeat' split) <;> first | rfl | contradiction | (simp_all; done) | omega)
  (.len 1 eI a0 <| .len 3 eI a0 <| .len 1 eI a0 <| .mk 0 eB 1 false (a0.length : Int) (a0.length : Int) <| .hold 1 [.c, .len eI.f a0, .c, .c, .c, .len eI.f a0] <| .mk 0 eU 8 0 (a0.length : Int) (a0.length : Int) <| .hold 1 [.c, .len eI.f a0, .c, .c] <| .hold 3 [.c, .len eI.f a0, .c, .c, .c] <| .ret 3 ())
  (.alt
  (    if 0 ≤ (a0.length : Int) ∧ (a0.length : Int) ≤ (a0.length : Int) ∧ (a0.length : Int) ≤ 140737488355328 ∧ (a0.length : Int) * ((8 : Nat) : Int) ≤ 140737488355328 then
       if 0 ≤ (a0.length : Int) ∧ (a0.length : Int) ≤ (a0.length : Int) ∧ (a0.length : Int) ≤ 140737488355328 ∧ (a0.length : Int) * ((1 : Nat) : Int) ≤ 140737488355328 then
         some ()
       else none
     else none)
  (    if 0 ≤ (a0.length : Int) ∧ (a0.length : Int) ≤ (a0.length : Int) ∧ (a0.length : Int) ≤ 140737488355328 ∧ (a0.length : Int) * ((1 : Nat) : Int) ≤ 140737488355328 then
       if 0 ≤ (a0.length : Int) ∧ (a0.length : Int) ≤ (a0.length : Int) ∧ (a0.length : Int) ≤ 140737488355328 ∧ (a0.length : Int) * ((8 : Nat) : Int) ≤ 140737488355328 then
         some ()
       else none
     else none)
  (by (repeat' split) <;> first | rfl | contradiction | (simp_all; done) | omega)
  (.len 1 eI a0 <| .len 3 eI a0 <| .len 1 eI a0 <| .mk 0 eB 1 false (a0.length : Int) (a0.length : Int) <| .hold 1 [.c, .len eI.f a0, .c, .c, .c, .len eI.f a0] <| .hold 2 [.c, .len eI.f a0, .c, .c, .c, .len eI.f a0] <| .mk 0 eU 8 0 (a0.length : Int) (a0.length : Int) <| .hold 1 [.c, .len eI.f a0, .c, .c] <| .ret 4 ())
  (.alt
  (    if 0 ≤ (a0.length : Int) ∧ (a0.length : Int) ≤ (a0.length : Int) ∧ (a0.length : Int) ≤ 140737488355328 ∧ (a0.length : Int) * ((8 : Nat) : Int) ≤ 140737488355328 then
       if 0 ≤ (a0.length : Int) ∧ (a0.length : Int) ≤ (a0.length : Int) ∧ (a0.length : Int) ≤ 140737488355328 ∧ (a0.length : Int) * ((1 : Nat) : Int) ≤ 140737488355328 then
         some ()
       else none
     else none)
  (    if 0 ≤ (a0.length : Int) ∧ (a0.length : Int) ≤ (a0.length : Int) ∧ (a0.length : Int) ≤ 140737488355328 ∧ (a0.length : Int) * ((8 : Nat) : Int) ≤ 140737488355328 then
       if 0 ≤ (a0.length : Int) ∧ (a0.length : Int) ≤ (a0.length : Int) ∧ (a0.length : Int) ≤ 140737488355328 ∧ (a0.length : Int) * ((1 : Nat) : Int) ≤ 140737488355328 then
         some ()
       else none
     else none)
  rfl
  (.len 1 eI a0 <| .len 3 eI a0 <| .len 1 eI a0 <| .hold 2 [.c, .len eI.f a0, .c, .c, .c, .len eI.f a0, .c, .len eI.f a0] <| .mk 0 eU 8 0 (a0.length : Int) (a0.length : Int) <| .hold 1 [.c, .len eI.f a0, .c, .c, .c, .len eI.f a0] <| .mk 0 eB 1 false (a0.length : Int) (a0.length : Int) <| .hold 1 [.c, .len eI.f a0, .c, .c] <| .ret 4 ())
  (.alt
  (    if 0 ≤ (a0.length : Int) ∧ (a0.length : Int) ≤ (a0.length : Int) ∧ (a0.length : Int) ≤ 140737488355328 ∧ (a0.length : Int) * ((8 : Nat) : Int) ≤ 140737488355328 then
       if 0 ≤ (a0.length : Int) ∧ (a0.length : Int) ≤ (a0.length : Int) ∧ (a0.length : Int) ≤ 140737488355328 ∧ (a0.length : Int) * ((1 : Nat) : Int) ≤ 140737488355328 then
         some ()
       else none
     else none)
  (    if 0 ≤ (a0.length : Int) ∧ (a0.length : Int) ≤ (a0.length : Int) ∧ (a0.length : Int) ≤ 140737488355328 ∧ (a0.length : Int) * ((1 : Nat) : Int) ≤ 140737488355328 then
       if 0 ≤ (a0.length : Int) ∧ (a0.length : Int) ≤ (a0.length : Int) ∧ (a0.length : Int) ≤ 140737488355328 ∧ (a0.length : Int) * ((8 : Nat) : Int) ≤ 140737488355328 then
         some ()
       else none
     else none)
  (by (repeat' split) <;> first | rfl | contradiction | (simp_all; done) | omega)
  (.len 1 eI a0 <| .len 3 eI a0 <| .len 1 eI a0 <| .hold 2 [.c, .len eI.f a0, .c, .c, .c, .len eI.f a0, .c, .len eI.f a0] <| .mk 0 eB 1 false (a0.length : Int) (a0.length : Int) <| .hold 1 [.c, .len eI.f a0, .c, .c, .c, .len eI.f a0] <| .mk 0 eU 8 0 (a0.length : Int) (a0.length : Int) <| .hold 1 [.c, .len eI.f a0, .c, .c] <| .ret 4 ())
  (.altE
  (    if 0 ≤ (a0.length : Int) ∧ (a0.length : Int) ≤ (a0.length : Int) ∧ (a0.length : Int) ≤ 140737488355328 ∧ (a0.length : Int) * ((8 : Nat) : Int) ≤ 140737488355328 then
       if 0 ≤ (a0.length : Int) ∧ (a0.length : Int) ≤ (a0.length : Int) ∧ (a0.length : Int) ≤ 140737488355328 ∧ (a0.length : Int) * ((1 : Nat) : Int) ≤ 140737488355328 then
         some ()
       else none
     else none)))))))))
  fun j4 => .let_ (List.replicate (Int.toNat (a0.length : Int)) 0 : List Int) fun y5 => .let_ (List.replicate (Int.toNat (a0.length : Int)) false : List Bool) fun y7 => .len 4 eI a0 <| .loopR 4 id ⟨_, _, _, _, _, ok_quant_Press_l0 a0 a1 a2 a3 r3 0 y5 y7⟩ fun j17 => .ret 8 (2, (a0.length : Int), r3.1, a1, j17.1, j17.2, 0))))
noncomputable abbrev F_press_ways_8 : Fe := .of Tryz.prog 82 en_quant_Press
theorem ok_press_ways_8 (a0 : T_api_How) (a1 : List Int) (a2 : Int) (a3 : List Int) : HS 82 (M_press_ways_8 a0 a1 a2 a3) [.agg [.int .i64 a0.F_Scheme, .int .i64 a0.F_K, .int .i64 a0.F_Wide], .lst (List.map (D.int .i64) a1), .int .u64 a2, .lst (List.map (D.int .i64) a3)] en_quant_Press := Tr.fn (F := F_press_ways_8)
 (.call 13 (ok_quant_Press a1 a0.F_Wide a2 a3) nl_quant_Press fun r1 => .ret 6 (r1.1, r1.2.1, r1.2.2.1, r1.2.2.2.1, r1.2.2.2.2.1, r1.2.2.2.2.2.1, r1.2.2.2.2.2.2))
noncomputable abbrev F_vec_Size_1_c : Fe := .of Tryz.prog 45 en_fix_Add
theorem ok_vec_Size_1_c (a0 : Int) (a1 : List Int) : HS 45 (M_vec_Size_1_c a0 a1) [.int .i64 a0, .cp [.lst (List.map (D.int .i64) a1)] 0] en_fix_Add := Tr.fn (F := F_vec_Size_1_c)
 (.idx 9 eI a1 a0 <| .call 1 (ok_fix_Abs (at' a1 a0)) nl_fix_Add fun r1 => .ret 6 (r1.1, r1.2))
noncomputable abbrev F_vec_total_vec_Size_1 : Fe := .of Tryz.prog 44 en_fix_Add
def S_vec_total_vec_Size_1_l0 (a0 : Int) (a1 : List Int) (x0 : Int) (x1 : Int) : St := ⟨[(10, nI x0), (9, nI a0), (4, nI x1), (1, .d (.clo (.func 45) [] [.cp [.lst (List.map (D.int .i64) a1)] 0]))], []⟩
def E_vec_total_vec_Size_1_l0 (a0 : Int) (a1 : List Int) (x : Int) : St := ⟨[(4, nI x)], []⟩
theorem ok_vec_total_vec_Size_1_l0 (a0 : Int) (a1 : List Int) : ∀ (x0 : Int) (x1 : Int), Ok (M_vec_total_vec_Size_1_l0 a0 a1 x0 x1) (LR F_vec_total_vec_Size_1 (.exit 0) (E_vec_total_vec_Size_1_l0 a0 a1) 44 0 (S_vec_total_vec_Size_1_l0 a0 a1 x0 x1)) := by
 refine M_vec_total_vec_Size_1_l0.partial_correctness a0 a1 _ ?_
 intro f IH x0 x1
 exact Tr.lpR (F := F_vec_total_vec_Size_1) (X := Int × Int)
  (.ite 6 11 (x0 < a0)
   (.call 13 (ok_vec_Size_1_c x0 a1) nl_fix_Add fun r1 => .ite 12 20 (r1.2 = 0)
   (.call 4 (ok_fix_Add x1 r1.1) nl_fix_Add fun r2 => .iteN 11 28 (r2.2 = 0)
   (.ret 11 (.inl (0, r2.2)))
   (.again 7 (IntKind.i64.wrap (x0 + 1), r2.1)))
   (.iteN 7 28 (r1.2 = 0)
   (.ret 11 (.inl (0, r1.2)))
   (.again 7 (IntKind.i64.wrap (x0 + 1), x1))))
   (.ret 4 (.inr x1))) _ fun x r => IH x.1 x.2 r
theorem ok_vec_total_vec_Size_1 (a0 : Int) (a1 : List Int) : HS 44 (M_vec_total_vec_Size_1 a0 a1) [.int .i64 a0, .clo (.func 45) [] [.cp [.lst (List.map (D.int .i64) a1)] 0]] en_fix_Add := Tr.fn (F := F_vec_total_vec_Size_1)
 (.loopR 13 id ⟨_, _, _, _, _, ok_vec_total_vec_Size_1_l0 a0 a1 0 0⟩ fun j3 => .ret 8 (j3, 0))
noncomputable abbrev F_vec_Size : Fe := .of Tryz.prog 21 en_fix_Add
theorem ok_vec_Size (a0 : List Int) : HS 21 (M_vec_Size a0) [.lst (List.map (D.int .i64) a0)] en_fix_Add := Tr.fn (F := F_vec_Size)
 (.call 10 (ok_vec_Check a0) nl_vec_pair fun r1 => .iteN 7 8 (r1 = 0)
  (.ret 9 (0, r1))
  (.len 5 eI a0 <| .call 1 (ok_vec_total_vec_Size_1 (a0.length : Int) a0) nl_fix_Add fun r2 => .ret 6 (r2.1, r2.2)))
noncomputable abbrev F_sign_Mean : Fe := .of Tryz.prog 140 en_fix_Add
theorem ok_sign_Mean (a0 : List Int) : HS 140 (M_sign_Mean a0) [.lst (List.map (D.int .i64) a0)] en_fix_Add := Tr.fn (F := F_sign_Mean)
 (.len 9 eI a0 <| .ite 2 8 ((a0.length : Int) = 0)
  (.ret 8 (0, 1))
  (.call 5 (ok_vec_Size a0) nl_fix_Add fun r1 => .len 10 eI a0 <| .rd 0 ((a0.length : Int) ≠ 0) (nI (IntKind.i64.wrap (Int.tdiv r1.1 (a0.length : Int)))) <| .ret 5 (IntKind.i64.wrap (Int.tdiv r1.1 (a0.length : Int)), r1.2)))
noncomputable abbrev F_sign_Press_1 : Fe := .of Tryz.prog 142 en_press_bare
theorem ok_sign_Press_1 (a0 : Int) : HS 142 (M_sign_Press_1 a0) [.int .i64 a0] en_press_bare := Tr.fn (F := F_sign_Press_1)
 (.ret 11 (decide (a0 < 0)))
def en_sign_each_int64_bool_sign_Press_1 (v : (List Bool)) : PV := sB (.s 0) v
noncomputable abbrev F_sign_each_int64_bool_sign_Press_1 : Fe := .of Tryz.prog 141 en_sign_each_int64_bool_sign_Press_1
def S_sign_each_int64_bool_sign_Press_1_l0 (a0 : List Int) (x0 : Int) (x1 : List Bool) : St := ⟨[(13, nI x0), (12, nI (a0.length : Int)), (11, lI a0), (5, sB (.h 0) x1), (1, .d (.clo (.func 142) [] []))], []⟩
def E_sign_each_int64_bool_sign_Press_1_l0 (a0 : List Int) (x : (List Bool)) : St := ⟨[(5, sB (.h 1) x)], []⟩
theorem ok_sign_each_int64_bool_sign_Press_1_l0 (a0 : List Int) : ∀ (x0 : Int) (x1 : List Bool), Ok (M_sign_each_int64_bool_sign_Press_1_l0 a0 x0 x1) (LN F_sign_each_int64_bool_sign_Press_1 (.exit 0) (E_sign_each_int64_bool_sign_Press_1_l0 a0) 141 0 (S_sign_each_int64_bool_sign_Press_1_l0 a0 x0 x1)) := by
 refine M_sign_each_int64_bool_sign_Press_1_l0.partial_correctness a0 _ ?_
 intro f IH x0 x1
 exact Tr.lpN (F := F_sign_each_int64_bool_sign_Press_1) (X := Int × (List Bool))
  (.ite 6 14 (x0 < (a0.length : Int))
   (.idx 6 eI a0 x0 <| .call 7 (ok_sign_Press_1 (at' a0 x0)) nl_press_bare fun r3 => .app 1 eB 1 x1 [r3] <| .again 7 (IntKind.i64.wrap (x0 + 1), x1 ++ [r3]))
   (.ret 4 x1)) _ fun x r => IH x.1 x.2 r
theorem nl_sign_each_int64_bool_sign_Press_1 : ∀ v, (en_sign_each_int64_bool_sign_Press_1 v).noLst := fun _ => (flat_map_of fun _ => trivial)
theorem ok_sign_each_int64_bool_sign_Press_1 (a0 : List Int) : HS 141 (M_sign_each_int64_bool_sign_Press_1 a0) [.lst (List.map (D.int .i64) a0), .clo (.func 142) [] []] en_sign_each_int64_bool_sign_Press_1 := Tr.fn (F := F_sign_each_int64_bool_sign_Press_1)
 (.len 7 eI a0 <| .mk 0 eB 1 false 0 (a0.length : Int) <| .let_ (List.replicate (Int.toNat 0) false : List Bool) fun y1 => .len 6 eI a0 <| .loop 4 ⟨_, _, _, _, _, ok_sign_each_int64_bool_sign_Press_1_l0 a0 0 y1⟩ fun j4 => .ret 7 j4)
def en_sign_Press (v : Int × Int × Int × Int × (List Bool) × Int) : PV := .tup [.agg [nI v.1, nI v.2.1, .nils, .nils, nI v.2.2.1, nI v.2.2.2.1, .nils, sB (.s 0) v.2.2.2.2.1], nI v.2.2.2.2.2]
noncomputable abbrev F_sign_Press : Fe := .of Tryz.prog 88 en_sign_Press
theorem nl_sign_Press : ∀ v, (en_sign_Press v).noLst := fun _ => ⟨⟨trivial, trivial, trivial, trivial, trivial, trivial, trivial, (flat_map_of fun _ => trivial), trivial⟩, trivial, trivial⟩
theorem ok_sign_Press (a0 : List Int) : HS 88 (M_sign_Press a0) [.lst (List.map (D.int .i64) a0)] en_sign_Press := Tr.fn (F := F_sign_Press)
 (.call 8 (ok_sign_Mean a0) nl_fix_Add fun r1 => .iteN 12 12 (r1.2 = 0)
  (.ret 10 (0, 0, 0, 0, [], r1.2))
  (.len 5 eI a0 <| .call 2 (ok_sign_each_int64_bool_sign_Press_1 a0) nl_sign_each_int64_bool_sign_Press_1 fun r2 => .ret 5 (3, (a0.length : Int), r1.1, 0, r2, 0)))
noncomputable abbrev F_press_ways_10 : Fe := .of Tryz.prog 87 en_sign_Press
theorem ok_press_ways_10 (a0 : T_api_How) (a1 : List Int) (a2 : Int) (a3 : List Int) : HS 87 (M_press_ways_10 a0 a1 a2 a3) [.agg [.int .i64 a0.F_Scheme, .int .i64 a0.F_K, .int .i64 a0.F_Wide], .lst (List.map (D.int .i64) a1), .int .u64 a2, .lst (List.map (D.int .i64) a3)] en_sign_Press := Tr.fn (F := F_press_ways_10)
 (.call 9 (ok_sign_Press a1) nl_sign_Press fun r1 => .ret 6 (r1.1, r1.2.1, r1.2.2.1, r1.2.2.2.1, r1.2.2.2.2.1, r1.2.2.2.2.2))
def en_press_Press (v : Int × Int × (List Int) × (List Int) × Int × Int × (List Int) × (List Bool) × Int) : PV := .tup [.agg [nI v.1, nI v.2.1, sI (.s 0) v.2.2.1, sI (.s 1) v.2.2.2.1, nI v.2.2.2.2.1, nI v.2.2.2.2.2.1, sU (.s 2) v.2.2.2.2.2.2.1, sB (.s 3) v.2.2.2.2.2.2.2.1], nI v.2.2.2.2.2.2.2.2]
noncomputable abbrev F_press_Press : Fe := .of Tryz.prog 11 en_press_Press
theorem nl_press_Press : ∀ v, (en_press_Press v).noLst := fun _ => ⟨⟨trivial, trivial, (flat_map_of fun _ => trivial), (flat_map_of fun _ => trivial), trivial, trivial, (flat_map_of fun _ => trivial), (flat_map_of fun _ => trivial), trivial⟩, trivial, trivial⟩
theorem ok_press_Press (a0 : T_api_How) (a1 : List Int) (a2 : Int) (a3 : List Int) : HS 11 (M_press_Press a0 a1 a2 a3) [.agg [.int .i64 a0.F_Scheme, .int .i64 a0.F_K, .int .i64 a0.F_Wide], .lst (List.map (D.int .i64) a1), .int .u64 a2, .lst (List.map (D.int .i64) a3)] en_press_Press := Tr.fn (F := F_press_Press)
 (.call 9 (ok_vec_Check a1) nl_vec_pair fun r1 => .join 8 0 (γ := Int) ⟨fun x => [(10, nI x)], [8, 4, 1, 2, 3], fun _ => [], [.s 31, .s 15]⟩
  (.ite 0 14 (r1 = 0)
  (.len 4 eI a1 <| .call 0 (ok_press_Check a0 (a1.length : Int)) nl_vec_pair fun r2 => .ret 2 r2)
  (.ret 2 r1))
  fun j3 => .iteN 6 20 (j3 = 0)
  (.ret 10 (0, 0, [], [], 0, 0, [], [], j3))
  (.callG 10 [] [] ok_press_ways fun r4 => .hold 1 [] <| .cas 1 26 (a0.F_Scheme = (0 : Int)) (.d (.agg [.clo (.func 69) [] [], .clo (.func 70) [] [], .clo (.func 71) [] [], .clo (.func 73) [] []])) (.d (lookD a0.F_Scheme [(1, .agg [.clo (.func 74) [] [], .clo (.func 75) [] [], .clo (.func 77) [] [], .clo (.func 79) [] []]), (2, .agg [.clo (.func 81) [] [], .clo (.func 82) [] [], .clo (.func 84) [] [], .clo (.func 85) [] []]), (3, .agg [.clo (.func 69) [] [], .clo (.func 87) [] [], .clo (.func 89) [] [], .clo (.func 90) [] []])] (.agg [.nilfn, .nilfn, .nilfn, .nilfn]))) (.d (lookD a0.F_Scheme [(0, .agg [.clo (.func 69) [] [], .clo (.func 70) [] [], .clo (.func 71) [] [], .clo (.func 73) [] []]), (1, .agg [.clo (.func 74) [] [], .clo (.func 75) [] [], .clo (.func 77) [] [], .clo (.func 79) [] []]), (2, .agg [.clo (.func 81) [] [], .clo (.func 82) [] [], .clo (.func 84) [] [], .clo (.func 85) [] []]), (3, .agg [.clo (.func 69) [] [], .clo (.func 87) [] [], .clo (.func 89) [] [], .clo (.func 90) [] []])] (.agg [.nilfn, .nilfn, .nilfn, .nilfn]))) lookD_t lookD_f
  (.call 1 (ok_press_dense a0 a1 a2 a3) nl_press_dense fun r5 => .ret 7 (r5.1, r5.2.1, [], r5.2.2.1, r5.2.2.2.1, r5.2.2.2.2.1, [], [], r5.2.2.2.2.2))
  (.cas 0 26 (a0.F_Scheme = (1 : Int)) (.d (.agg [.clo (.func 74) [] [], .clo (.func 75) [] [], .clo (.func 77) [] [], .clo (.func 79) [] []])) (.d (lookD a0.F_Scheme [(2, .agg [.clo (.func 81) [] [], .clo (.func 82) [] [], .clo (.func 84) [] [], .clo (.func 85) [] []]), (3, .agg [.clo (.func 69) [] [], .clo (.func 87) [] [], .clo (.func 89) [] [], .clo (.func 90) [] []])] (.agg [.nilfn, .nilfn, .nilfn, .nilfn]))) (.d (lookD a0.F_Scheme [(1, .agg [.clo (.func 74) [] [], .clo (.func 75) [] [], .clo (.func 77) [] [], .clo (.func 79) [] []]), (2, .agg [.clo (.func 81) [] [], .clo (.func 82) [] [], .clo (.func 84) [] [], .clo (.func 85) [] []]), (3, .agg [.clo (.func 69) [] [], .clo (.func 87) [] [], .clo (.func 89) [] [], .clo (.func 90) [] []])] (.agg [.nilfn, .nilfn, .nilfn, .nilfn]))) lookD_t lookD_f
  (.call 1 (ok_press_ways_4 a0 a1 a2 a3) nl_topk_Press fun r6 => .ret 7 (r6.1, r6.2.1, r6.2.2.1, r6.2.2.2.1, r6.2.2.2.2.1, r6.2.2.2.2.2.1, [], [], r6.2.2.2.2.2.2))
  (.cas 0 26 (a0.F_Scheme = (2 : Int)) (.d (.agg [.clo (.func 81) [] [], .clo (.func 82) [] [], .clo (.func 84) [] [], .clo (.func 85) [] []])) (.d (lookD a0.F_Scheme [(3, .agg [.clo (.func 69) [] [], .clo (.func 87) [] [], .clo (.func 89) [] [], .clo (.func 90) [] []])] (.agg [.nilfn, .nilfn, .nilfn, .nilfn]))) (.d (lookD a0.F_Scheme [(2, .agg [.clo (.func 81) [] [], .clo (.func 82) [] [], .clo (.func 84) [] [], .clo (.func 85) [] []]), (3, .agg [.clo (.func 69) [] [], .clo (.func 87) [] [], .clo (.func 89) [] [], .clo (.func 90) [] []])] (.agg [.nilfn, .nilfn, .nilfn, .nilfn]))) lookD_t lookD_f
  (.call 1 (ok_press_ways_8 a0 a1 a2 a3) nl_quant_Press fun r7 => .ret 7 (r7.1, r7.2.1, [], [], r7.2.2.1, r7.2.2.2.1, r7.2.2.2.2.1, r7.2.2.2.2.2.1, r7.2.2.2.2.2.2))
  (.cas 0 26 (a0.F_Scheme = (3 : Int)) (.d (.agg [.clo (.func 69) [] [], .clo (.func 87) [] [], .clo (.func 89) [] [], .clo (.func 90) [] []])) (.d (lookD a0.F_Scheme [] (.agg [.nilfn, .nilfn, .nilfn, .nilfn]))) (.d (lookD a0.F_Scheme [(3, .agg [.clo (.func 69) [] [], .clo (.func 87) [] [], .clo (.func 89) [] [], .clo (.func 90) [] []])] (.agg [.nilfn, .nilfn, .nilfn, .nilfn]))) lookD_t lookD_f
  (.call 1 (ok_press_ways_10 a0 a1 a2 a3) nl_sign_Press fun r8 => .ret 7 (r8.1, r8.2.1, [], [], r8.2.2.1, r8.2.2.2.1, [], r8.2.2.2.2.1, r8.2.2.2.2.2))
  (.halt))))))
noncomputable abbrev F_index_measure : Fe := .of Tryz.prog 181 en_press_bare
theorem ok_index_measure (a0 : Int) : HS 181 (M_index_measure a0) [.int .i64 a0] en_press_bare := Tr.fn (F := F_index_measure)
 (.join 9 3 (γ := Bool) ⟨fun x => [(8, bB x)], [], fun _ => [], []⟩
  (.ite 0 5 (a0 > 0)
  (.ret 4 (decide (a0 ≤ 4096)))
  (.ret 4 false))
  fun j1 => .ret 3 j1)
noncomputable abbrev F_index_Check : Fe := .of Tryz.prog 131 en_vec_pair
theorem ok_index_Check (a0 : Int) (a1 : List Int) : HS 131 (M_index_Check a0 a1) [.int .i64 a0, .lst (List.map (D.int .i64) a1)] en_vec_pair := Tr.fn (F := F_index_Check)
 (.len 7 eI a1 <| .call 6 (ok_index_measure a0) nl_press_bare fun r1 => .join 2 4 (γ := Bool) ⟨fun x => [(15, bB x)], [5, 0, 1], fun _ => [], []⟩
  (.iteX 0 11 (r1)
  (.ret 5 true)
  (.call 1 (ok_index_rises a1) nl_press_bare fun r2 => .ret 3 (!r2)))
  fun j3 => .iteB 1 16 (j3)
  (.ret 26 1)
  (.ite 3 19 ((a1.length : Int) > 0)
  (.idx 1 eI a1 0 <| .ite 3 24 ((at' a1 0) < 0)
  (.ret 18 1)
  (.idx 3 eI a1 (IntKind.i64.wrap ((a1.length : Int) - 1)) <| .ite 7 34 ((at' a1 (IntKind.i64.wrap ((a1.length : Int) - 1))) ≥ a0)
  (.ret 7 1)
  (.ret 7 0)))
  (.ret 23 0)))
noncomputable abbrev F_plane_Width : Fe := .of Tryz.prog 154 en_vec_pair
theorem ok_plane_Width (a0 : Int) : HS 154 (M_plane_Width a0) [.int .u64 a0] en_vec_pair := Tr.fn (F := F_plane_Width)
 (.call 7 (ok_math_bits_Len64 a0) nl_vec_pair fun r1 => .ret 3 r1)
noncomputable abbrev F_frame_bare_1_c : Fe := .of Tryz.prog 153 en_press_bare
theorem ok_frame_bare_1_c (a0 : Int) (a1 : Int) (a2 : Int) (a3 : List Int) (a4 : List Int) (a5 : Int) (a6 : Int) (a7 : List Int) (a8 : List Bool) : HS 153 (M_frame_bare_1_c a0 a1 a2 a3 a4 a5 a6 a7 a8) [.int .u64 a0, .cp [.int .i64 a1, .int .i64 a2, .lst (List.map (D.int .i64) a3), .lst (List.map (D.int .i64) a4), .int .i64 a5, .int .i64 a6, .lst (List.map (D.int .u64) a7), .lst (List.map D.bool a8)] 0] en_press_bare := Tr.fn (F := F_frame_bare_1_c)
 (.call 9 (ok_plane_Width a0) nl_vec_pair fun r1 => .hold 1 [] <| .ret 5 (decide (r1 > a6)))
noncomputable abbrev F_slices_IndexFunc_uint64_uint64_frame_bare_1 : Fe := .of Tryz.prog 189 en_vec_pair
def S_slices_IndexFunc_uint64_uint64_frame_bare_1_l0 (a0 : List Int) (a1 : Int) (a2 : Int) (a3 : List Int) (a4 : List Int) (a5 : Int) (a6 : Int) (a7 : List Int) (a8 : List Bool) (x0 : Int) : St := ⟨[(8, nI x0), (7, nI (a0.length : Int)), (0, lU a0), (1, .d (.clo (.func 153) [] [.cp [.int .i64 a1, .int .i64 a2, .lst (List.map (D.int .i64) a3), .lst (List.map (D.int .i64) a4), .int .i64 a5, .int .i64 a6, .lst (List.map (D.int .u64) a7), .lst (List.map D.bool a8)] 0]))], []⟩
def E_slices_IndexFunc_uint64_uint64_frame_bare_1_l0 (a0 : List Int) (a1 : Int) (a2 : Int) (a3 : List Int) (a4 : List Int) (a5 : Int) (a6 : Int) (a7 : List Int) (a8 : List Bool) (x : Unit) : St := ⟨[], []⟩
theorem ok_slices_IndexFunc_uint64_uint64_frame_bare_1_l0 (a0 : List Int) (a1 : Int) (a2 : Int) (a3 : List Int) (a4 : List Int) (a5 : Int) (a6 : Int) (a7 : List Int) (a8 : List Bool) : ∀ (x0 : Int), Ok (M_slices_IndexFunc_uint64_uint64_frame_bare_1_l0 a0 a1 a2 a3 a4 a5 a6 a7 a8 x0) (LR F_slices_IndexFunc_uint64_uint64_frame_bare_1 (.exit 0) (E_slices_IndexFunc_uint64_uint64_frame_bare_1_l0 a0 a1 a2 a3 a4 a5 a6 a7 a8) 189 0 (S_slices_IndexFunc_uint64_uint64_frame_bare_1_l0 a0 a1 a2 a3 a4 a5 a6 a7 a8 x0)) := by
 refine M_slices_IndexFunc_uint64_uint64_frame_bare_1_l0.partial_correctness a0 a1 a2 a3 a4 a5 a6 a7 a8 _ ?_
 intro f IH x0
 exact Tr.lpR (F := F_slices_IndexFunc_uint64_uint64_frame_bare_1) (X := Int)
  (.ite 6 9 (x0 < (a0.length : Int))
   (.idx 14 eU a0 x0 <| .call 1 (ok_frame_bare_1_c (at' a0 x0) a1 a2 a3 a4 a5 a6 a7 a8) nl_press_bare fun r1 => .iteB 1 16 (r1)
   (.ret 10 (.inl x0))
   (.again 7 (IntKind.i64.wrap (x0 + 1))))
   (.ret 4 (.inr ()))) _ fun x r => IH x r
theorem ok_slices_IndexFunc_uint64_uint64_frame_bare_1 (a0 : List Int) (a1 : Int) (a2 : Int) (a3 : List Int) (a4 : List Int) (a5 : Int) (a6 : Int) (a7 : List Int) (a8 : List Bool) : HS 189 (M_slices_IndexFunc_uint64_uint64_frame_bare_1 a0 a1 a2 a3 a4 a5 a6 a7 a8) [.lst (List.map (D.int .u64) a0), .clo (.func 153) [] [.cp [.int .i64 a1, .int .i64 a2, .lst (List.map (D.int .i64) a3), .lst (List.map (D.int .i64) a4), .int .i64 a5, .int .i64 a6, .lst (List.map (D.int .u64) a7), .lst (List.map D.bool a8)] 0]] en_vec_pair := Tr.fn (F := F_slices_IndexFunc_uint64_uint64_frame_bare_1)
 (.len 8 eU a0 <| .loopR 4 id ⟨_, _, _, _, _, ok_slices_IndexFunc_uint64_uint64_frame_bare_1_l0 a0 a1 a2 a3 a4 a5 a6 a7 a8 0⟩ fun j2 => .ret 6 (-1))
noncomputable abbrev F_slices_ContainsFunc_uint64_uint64_frame_bare_1 : Fe := .of Tryz.prog 152 en_press_bare
theorem ok_slices_ContainsFunc_uint64_uint64_frame_bare_1 (a0 : List Int) (a1 : Int) (a2 : Int) (a3 : List Int) (a4 : List Int) (a5 : Int) (a6 : Int) (a7 : List Int) (a8 : List Bool) : HS 152 (M_slices_ContainsFunc_uint64_uint64_frame_bare_1 a0 a1 a2 a3 a4 a5 a6 a7 a8) [.lst (List.map (D.int .u64) a0), .clo (.func 153) [] [.cp [.int .i64 a1, .int .i64 a2, .lst (List.map (D.int .i64) a3), .lst (List.map (D.int .i64) a4), .int .i64 a5, .int .i64 a6, .lst (List.map (D.int .u64) a7), .lst (List.map D.bool a8)] 0]] en_press_bare := Tr.fn (F := F_slices_ContainsFunc_uint64_uint64_frame_bare_1)
 (.call 8 (ok_slices_IndexFunc_uint64_uint64_frame_bare_1 a0 a1 a2 a3 a4 a5 a6 a7 a8) nl_vec_pair fun r1 => .ret 4 (decide (r1 ≥ 0)))
def en_frame_bare (v : Int × Int × (List Int) × (List Int) × Int × Int × (List Int) × (List Bool) × Bool) : PV := .tup [.d (.agg [.int .i64 v.1, .int .i64 v.2.1, .lst (List.map (D.int .i64) v.2.2.1), .lst (List.map (D.int .i64) v.2.2.2.1), .int .i64 v.2.2.2.2.1, .int .i64 v.2.2.2.2.2.1, .lst (List.map (D.int .u64) v.2.2.2.2.2.2.1), .lst (List.map D.bool v.2.2.2.2.2.2.2.1)]), bB v.2.2.2.2.2.2.2.2]
noncomputable abbrev F_frame_bare : Fe := .of Tryz.prog 100 en_frame_bare
theorem ok_frame_bare (a0 : T_api_Sent) : HS 100 (M_frame_bare a0) [.agg [.int .i64 a0.F_Scheme, .int .i64 a0.F_Dim, .lst (List.map (D.int .i64) a0.F_L), .lst (List.map (D.int .i64) a0.F_V), .int .i64 a0.F_Scale, .int .i64 a0.F_Wide, .lst (List.map (D.int .u64) a0.F_Lev), .lst (List.map D.bool a0.F_Neg)]] en_frame_bare := Tr.fn (F := F_frame_bare)
 (.join 25 4 (γ := Bool) ⟨fun x => [(16, bB x)], [4, 2, 1], fun _ => [], [.s 1631, .s 31, .s 15]⟩
  (.ite 0 12 (a0.F_Dim > 0)
  (.ret 5 (decide (a0.F_Dim ≤ 4096)))
  (.ret 5 false))
  fun j1 => .ite 26 19 (a0.F_Scheme = 0)
  (.join 10 7 (γ := Bool) ⟨fun x => [(35, bB x)], [4, 2], fun _ => [], [.s 1631, .s 31]⟩
  (.iteB 0 28 (j1)
  (.len 2 eI a0.F_V <| .ret 5 ((a0.F_V.length : Int) == a0.F_Dim))
  (.ret 8 false))
  fun j2 => .ret 24 (0, 0, a0.F_L, [], a0.F_Scale, a0.F_Wide, a0.F_Lev, a0.F_Neg, j2))
  (.ite 8 21 (a0.F_Scheme = 1)
  (.join 12 7 (γ := Bool) ⟨fun x => [(45, bB x)], [4, 2, 1], fun _ => [], [.s 1631, .s 31, .s 15]⟩
  (.iteB 0 38 (j1)
  (.call 4 (ok_index_Check a0.F_Dim a0.F_L) nl_vec_pair fun r3 => .ret 3 (r3 == 0))
  (.ret 8 false))
  fun j4 => .join 1 8 (γ := Bool) ⟨fun x => [(54, bB x)], [4, 2], fun _ => [], [.s 1631, .s 31]⟩
  (.iteB 0 46 (j4)
  (.len 2 eI a0.F_L <| .len 2 eI a0.F_V <| .ret 3 ((a0.F_L.length : Int) == (a0.F_V.length : Int)))
  (.ret 9 false))
  fun j5 => .ret 24 (0, 0, [], [], a0.F_Scale, a0.F_Wide, a0.F_Lev, a0.F_Neg, j5))
  (.ite 8 23 (a0.F_Scheme = 2)
  (.join 13 4 (γ := Bool) ⟨fun x => [(62, bB x)], [4, 2, 1], fun _ => [], [.s 1631, .s 31, .s 15]⟩
  (.iteB 0 58 (j1)
  (.ret 5 (decide (a0.F_Wide > 0)))
  (.ret 5 false))
  fun j6 => .join 1 4 (γ := Bool) ⟨fun x => [(67, bB x)], [4, 2, 1], fun _ => [], [.s 1631, .s 31, .s 15]⟩
  (.iteB 0 63 (j6)
  (.ret 5 (decide (a0.F_Wide ≤ 8)))
  (.ret 5 false))
  fun j7 => .join 1 7 (γ := Bool) ⟨fun x => [(75, bB x)], [4, 2, 1], fun _ => [], [.s 1631, .s 31, .s 15]⟩
  (.iteB 0 68 (j7)
  (.len 2 eU a0.F_Lev <| .ret 5 ((a0.F_Lev.length : Int) == a0.F_Dim))
  (.ret 8 false))
  fun j8 => .join 1 6 (γ := Bool) ⟨fun x => [(82, bB x)], [4, 2, 1], fun _ => [], [.s 1631, .s 31, .s 15]⟩
  (.iteB 0 76 (j8)
  (.call 3 (ok_slices_ContainsFunc_uint64_uint64_frame_bare_1 a0.F_Lev a0.F_Scheme a0.F_Dim a0.F_L a0.F_V a0.F_Scale a0.F_Wide a0.F_Lev a0.F_Neg) nl_press_bare fun r9 => .ret 3 (!r9))
  (.ret 7 false))
  fun j10 => .join 14 4 (γ := Bool) ⟨fun x => [(90, bB x)], [4, 2, 1], fun _ => [], [.s 1631, .s 31, .s 15]⟩
  (.iteB 0 86 (j10)
  (.ret 5 (decide (a0.F_Scale ≥ 0)))
  (.ret 5 false))
  fun j11 => .join 1 7 (γ := Bool) ⟨fun x => [(98, bB x)], [4, 2], fun _ => [], [.s 1631, .s 31]⟩
  (.iteB 0 91 (j11)
  (.len 2 eB a0.F_Neg <| .ret 5 ((a0.F_Neg.length : Int) == a0.F_Dim))
  (.ret 8 false))
  fun j12 => .ret 20 (0, 0, a0.F_L, a0.F_V, 0, 0, [], [], j12))
  (.ite 7 25 (a0.F_Scheme = 3)
  (.join 15 4 (γ := Bool) ⟨fun x => [(90, bB x)], [4, 2, 1], fun _ => [], [.s 1631, .s 31, .s 15]⟩
  (.iteB 0 86 (j1)
  (.ret 5 (decide (a0.F_Scale ≥ 0)))
  (.ret 5 false))
  fun j13 => .join 1 7 (γ := Bool) ⟨fun x => [(98, bB x)], [4, 2], fun _ => [], [.s 1631, .s 31]⟩
  (.iteB 0 91 (j13)
  (.len 2 eB a0.F_Neg <| .ret 5 ((a0.F_Neg.length : Int) == a0.F_Dim))
  (.ret 8 false))
  fun j14 => .ret 20 (0, 0, a0.F_L, a0.F_V, 0, a0.F_Wide, a0.F_Lev, [], j14))
  (.ret 26 (0, 0, a0.F_L, a0.F_V, a0.F_Scale, a0.F_Wide, a0.F_Lev, a0.F_Neg, false))))))
noncomputable abbrev F_slices_Equal_int_int : Fe := .of Tryz.prog 132 en_press_bare
def S_slices_Equal_int_int_l0 (a0 : List Int) (a1 : List Int) (x0 : Int) : St := ⟨[(13, nI x0), (12, nI (a0.length : Int)), (0, lI a0), (1, lI a1)], []⟩
def E_slices_Equal_int_int_l0 (a0 : List Int) (a1 : List Int) (x : Unit) : St := ⟨[], []⟩
theorem ok_slices_Equal_int_int_l0 (a0 : List Int) (a1 : List Int) : ∀ (x0 : Int), Ok (M_slices_Equal_int_int_l0 a0 a1 x0) (LR F_slices_Equal_int_int (.exit 0) (E_slices_Equal_int_int_l0 a0 a1) 132 0 (S_slices_Equal_int_int_l0 a0 a1 x0)) := by
 refine M_slices_Equal_int_int_l0.partial_correctness a0 a1 _ ?_
 intro f IH x0
 exact Tr.lpR (F := F_slices_Equal_int_int) (X := Int)
  (.ite 6 14 (x0 < (a0.length : Int))
   (.idx 13 eI a0 x0 <| .idx 3 eI a1 x0 <| .iteN 3 24 ((at' a0 x0) = (at' a1 x0))
   (.ret 9 (.inl false))
   (.again 7 (IntKind.i64.wrap (x0 + 1))))
   (.ret 4 (.inr ()))) _ fun x r => IH x r
theorem ok_slices_Equal_int_int (a0 : List Int) (a1 : List Int) : HS 132 (M_slices_Equal_int_int a0 a1) [.lst (List.map (D.int .i64) a0), .lst (List.map (D.int .i64) a1)] en_press_bare := Tr.fn (F := F_slices_Equal_int_int)
 (.len 8 eI a0 <| .len 1 eI a1 <| .iteN 2 10 ((a0.length : Int) = (a1.length : Int))
  (.ret 7 false)
  (.len 6 eI a0 <| .loopR 4 id ⟨_, _, _, _, _, ok_slices_Equal_int_int_l0 a0 a1 0⟩ fun j1 => .ret 6 true))
noncomputable abbrev F_slices_Equal_int64_int64 : Fe := .of Tryz.prog 47 en_press_bare
def S_slices_Equal_int64_int64_l0 (a0 : List Int) (a1 : List Int) (x0 : Int) : St := ⟨[(13, nI x0), (12, nI (a0.length : Int)), (0, lI a0), (1, lI a1)], []⟩
def E_slices_Equal_int64_int64_l0 (a0 : List Int) (a1 : List Int) (x : Unit) : St := ⟨[], []⟩
theorem ok_slices_Equal_int64_int64_l0 (a0 : List Int) (a1 : List Int) : ∀ (x0 : Int), Ok (M_slices_Equal_int64_int64_l0 a0 a1 x0) (LR F_slices_Equal_int64_int64 (.exit 0) (E_slices_Equal_int64_int64_l0 a0 a1) 47 0 (S_slices_Equal_int64_int64_l0 a0 a1 x0)) := by
 refine M_slices_Equal_int64_int64_l0.partial_correctness a0 a1 _ ?_
 intro f IH x0
 exact Tr.lpR (F := F_slices_Equal_int64_int64) (X := Int)
  (.ite 6 14 (x0 < (a0.length : Int))
   (.idx 13 eI a0 x0 <| .idx 3 eI a1 x0 <| .iteN 3 24 ((at' a0 x0) = (at' a1 x0))
   (.ret 9 (.inl false))
   (.again 7 (IntKind.i64.wrap (x0 + 1))))
   (.ret 4 (.inr ()))) _ fun x r => IH x r
theorem ok_slices_Equal_int64_int64 (a0 : List Int) (a1 : List Int) : HS 47 (M_slices_Equal_int64_int64 a0 a1) [.lst (List.map (D.int .i64) a0), .lst (List.map (D.int .i64) a1)] en_press_bare := Tr.fn (F := F_slices_Equal_int64_int64)
 (.len 8 eI a0 <| .len 1 eI a1 <| .iteN 2 10 ((a0.length : Int) = (a1.length : Int))
  (.ret 7 false)
  (.len 6 eI a0 <| .loopR 4 id ⟨_, _, _, _, _, ok_slices_Equal_int64_int64_l0 a0 a1 0⟩ fun j1 => .ret 6 true))
noncomputable abbrev F_slices_Equal_uint64_uint64 : Fe := .of Tryz.prog 155 en_press_bare
def S_slices_Equal_uint64_uint64_l0 (a0 : List Int) (a1 : List Int) (x0 : Int) : St := ⟨[(13, nI x0), (12, nI (a0.length : Int)), (0, lU a0), (1, lU a1)], []⟩
def E_slices_Equal_uint64_uint64_l0 (a0 : List Int) (a1 : List Int) (x : Unit) : St := ⟨[], []⟩
theorem ok_slices_Equal_uint64_uint64_l0 (a0 : List Int) (a1 : List Int) : ∀ (x0 : Int), Ok (M_slices_Equal_uint64_uint64_l0 a0 a1 x0) (LR F_slices_Equal_uint64_uint64 (.exit 0) (E_slices_Equal_uint64_uint64_l0 a0 a1) 155 0 (S_slices_Equal_uint64_uint64_l0 a0 a1 x0)) := by
 refine M_slices_Equal_uint64_uint64_l0.partial_correctness a0 a1 _ ?_
 intro f IH x0
 exact Tr.lpR (F := F_slices_Equal_uint64_uint64) (X := Int)
  (.ite 6 14 (x0 < (a0.length : Int))
   (.idx 13 eU a0 x0 <| .idx 3 eU a1 x0 <| .iteN 3 24 ((at' a0 x0) = (at' a1 x0))
   (.ret 9 (.inl false))
   (.again 7 (IntKind.i64.wrap (x0 + 1))))
   (.ret 4 (.inr ()))) _ fun x r => IH x r
theorem ok_slices_Equal_uint64_uint64 (a0 : List Int) (a1 : List Int) : HS 155 (M_slices_Equal_uint64_uint64 a0 a1) [.lst (List.map (D.int .u64) a0), .lst (List.map (D.int .u64) a1)] en_press_bare := Tr.fn (F := F_slices_Equal_uint64_uint64)
 (.len 8 eU a0 <| .len 1 eU a1 <| .iteN 2 10 ((a0.length : Int) = (a1.length : Int))
  (.ret 7 false)
  (.len 6 eU a0 <| .loopR 4 id ⟨_, _, _, _, _, ok_slices_Equal_uint64_uint64_l0 a0 a1 0⟩ fun j1 => .ret 6 true))
noncomputable abbrev F_slices_Equal_bool_bool : Fe := .of Tryz.prog 145 en_press_bare
def S_slices_Equal_bool_bool_l0 (a0 : List Bool) (a1 : List Bool) (x0 : Int) : St := ⟨[(13, nI x0), (12, nI (a0.length : Int)), (0, lB a0), (1, lB a1)], []⟩
def E_slices_Equal_bool_bool_l0 (a0 : List Bool) (a1 : List Bool) (x : Unit) : St := ⟨[], []⟩
theorem ok_slices_Equal_bool_bool_l0 (a0 : List Bool) (a1 : List Bool) : ∀ (x0 : Int), Ok (M_slices_Equal_bool_bool_l0 a0 a1 x0) (LR F_slices_Equal_bool_bool (.exit 0) (E_slices_Equal_bool_bool_l0 a0 a1) 145 0 (S_slices_Equal_bool_bool_l0 a0 a1 x0)) := by
 refine M_slices_Equal_bool_bool_l0.partial_correctness a0 a1 _ ?_
 intro f IH x0
 exact Tr.lpR (F := F_slices_Equal_bool_bool) (X := Int)
  (.ite 6 14 (x0 < (a0.length : Int))
   (.idx 13 eB a0 x0 <| .idx 3 eB a1 x0 <| .iteN 3 24 ((at' a0 x0) = (at' a1 x0))
   (.ret 9 (.inl false))
   (.again 7 (IntKind.i64.wrap (x0 + 1))))
   (.ret 4 (.inr ()))) _ fun x r => IH x r
theorem ok_slices_Equal_bool_bool (a0 : List Bool) (a1 : List Bool) : HS 145 (M_slices_Equal_bool_bool a0 a1) [.lst (List.map D.bool a0), .lst (List.map D.bool a1)] en_press_bare := Tr.fn (F := F_slices_Equal_bool_bool)
 (.len 8 eB a0 <| .len 1 eB a1 <| .iteN 2 10 ((a0.length : Int) = (a1.length : Int))
  (.ret 7 false)
  (.len 6 eB a0 <| .loopR 4 id ⟨_, _, _, _, _, ok_slices_Equal_bool_bool_l0 a0 a1 0⟩ fun j1 => .ret 6 true))
noncomputable abbrev F_frame_same : Fe := .of Tryz.prog 101 en_press_bare
theorem ok_frame_same (a0 : T_api_Sent) (a1 : T_api_Sent) : HS 101 (M_frame_same a0 a1) [.agg [.int .i64 a0.F_Scheme, .int .i64 a0.F_Dim, .lst (List.map (D.int .i64) a0.F_L), .lst (List.map (D.int .i64) a0.F_V), .int .i64 a0.F_Scale, .int .i64 a0.F_Wide, .lst (List.map (D.int .u64) a0.F_Lev), .lst (List.map D.bool a0.F_Neg)], .agg [.int .i64 a1.F_Scheme, .int .i64 a1.F_Dim, .lst (List.map (D.int .i64) a1.F_L), .lst (List.map (D.int .i64) a1.F_V), .int .i64 a1.F_Scale, .int .i64 a1.F_Wide, .lst (List.map (D.int .u64) a1.F_Lev), .lst (List.map D.bool a1.F_Neg)]] en_press_bare := Tr.fn (F := F_frame_same)
 (.join 28 6 (γ := Bool) ⟨fun x => [(30, bB x)], [3, 2], fun _ => [], [.s 31, .s 15]⟩
  (.iteP 0 24 (show (([a0.F_Scheme, a0.F_Dim, a0.F_Scale, a0.F_Wide] : List Int) == [a1.F_Scheme, a1.F_Dim, a1.F_Scale, a1.F_Wide]) = decide (([a0.F_Scheme, a0.F_Dim, a0.F_Scale, a0.F_Wide] : List Int) = [a1.F_Scheme, a1.F_Dim, a1.F_Scale, a1.F_Wide]) from decL)
  (.call 4 (ok_slices_Equal_int_int a0.F_L a1.F_L) nl_press_bare fun r1 => .ret 2 r1)
  (.ret 7 false))
  fun j2 => .join 1 6 (γ := Bool) ⟨fun x => [(37, bB x)], [3, 2], fun _ => [], [.s 31, .s 15]⟩
  (.iteB 0 31 (j2)
  (.call 4 (ok_slices_Equal_int64_int64 a0.F_V a1.F_V) nl_press_bare fun r3 => .ret 2 r3)
  (.ret 7 false))
  fun j4 => .join 1 6 (γ := Bool) ⟨fun x => [(44, bB x)], [3, 2], fun _ => [], [.s 31, .s 15]⟩
  (.iteB 0 38 (j4)
  (.call 4 (ok_slices_Equal_uint64_uint64 a0.F_Lev a1.F_Lev) nl_press_bare fun r5 => .ret 2 r5)
  (.ret 7 false))
  fun j6 => .join 1 6 (γ := Bool) ⟨fun x => [(51, bB x)], [], fun _ => [], []⟩
  (.iteB 0 45 (j6)
  (.call 4 (ok_slices_Equal_bool_bool a0.F_Neg a1.F_Neg) nl_press_bare fun r7 => .ret 2 r7)
  (.ret 7 false))
  fun j8 => .ret 3 j8)
noncomputable abbrev F_frame_May : Fe := .of Tryz.prog 42 en_press_bare
theorem ok_frame_May (a0 : T_api_Sent) : HS 42 (M_frame_May a0) [.agg [.int .i64 a0.F_Scheme, .int .i64 a0.F_Dim, .lst (List.map (D.int .i64) a0.F_L), .lst (List.map (D.int .i64) a0.F_V), .int .i64 a0.F_Scale, .int .i64 a0.F_Wide, .lst (List.map (D.int .u64) a0.F_Lev), .lst (List.map D.bool a0.F_Neg)]] en_press_bare := Tr.fn (F := F_frame_May)
 (.callZ 8 (ok_frame_bare a0) fun r1 => .join 11 4 (γ := Bool) ⟨fun x => [(15, bB x)], [], fun _ => [], []⟩
  (.iteB 0 11 (r1.2.2.2.2.2.2.2.2)
  (.call 2 (ok_frame_same (⟨r1.1, r1.2.1, r1.2.2.1, r1.2.2.2.1, r1.2.2.2.2.1, r1.2.2.2.2.2.1, r1.2.2.2.2.2.2.1, r1.2.2.2.2.2.2.2.1⟩ : T_api_Sent) (⟨0, 0, [], [], 0, 0, [], []⟩ : T_api_Sent)) nl_press_bare fun r2 => .ret 2 r2)
  (.ret 5 false))
  fun j3 => .ret 3 j3)
noncomputable abbrev F_press_ways_1 : Fe := .of Tryz.prog 71 en_vec_each_vec_Add_1
theorem ok_press_ways_1 (a0 : T_api_Sent) : HS 71 (M_press_ways_1 a0) [.agg [.int .i64 a0.F_Scheme, .int .i64 a0.F_Dim, .lst (List.map (D.int .i64) a0.F_L), .lst (List.map (D.int .i64) a0.F_V), .int .i64 a0.F_Scale, .int .i64 a0.F_Wide, .lst (List.map (D.int .u64) a0.F_Lev), .lst (List.map D.bool a0.F_Neg)]] en_vec_each_vec_Add_1 := Tr.fn (F := F_press_ways_1)
 (.call 10 (ok_slices_Clone_int64_int64 a0.F_V) nl_slices_Clone_int64_int64 fun r1 => .ret 4 (r1, 0))
noncomputable abbrev F_index_Spread : Fe := .of Tryz.prog 78 en_vec_each_vec_Add_1
def S_index_Spread_l0 (a1 : List Int) (a2 : List Int) (x0 : Int) (x1 : List Int) : St := ⟨[(29, nI x0), (28, nI (a1.length : Int)), (27, lI a1), (9, sI (.h 0) x1), (2, lI a2)], []⟩
def E_index_Spread_l0 (a1 : List Int) (a2 : List Int) (x : (List Int)) : St := ⟨[(9, sI (.h 1) x)], []⟩
theorem ok_index_Spread_l0 (a1 : List Int) (a2 : List Int) : ∀ (x0 : Int) (x1 : List Int), Ok (M_index_Spread_l0 a1 a2 x0 x1) (LN F_index_Spread (.exit 1) (E_index_Spread_l0 a1 a2) 78 0 (S_index_Spread_l0 a1 a2 x0 x1)) := by
 refine M_index_Spread_l0.partial_correctness a1 a2 _ ?_
 intro f IH x0 x1
 exact Tr.lpN (F := F_index_Spread) (X := Int × (List Int))
  (.ite 6 30 (x0 < (a1.length : Int))
   (.idx 7 eI a1 x0 <| .idx 9 eI a2 x0 <| .idx 1 eI x1 (at' a1 x0) <| .sto 0 [9] eI x1 (at' a1 x0) (at' a2 x0) <| .let_ (x1.set (Int.toNat (at' a1 x0)) (at' a2 x0) : List Int) fun y4 => .again 6 (IntKind.i64.wrap (x0 + 1), y4))
   (.ret 4 x1)) _ fun x r => IH x.1 x.2 r
theorem ok_index_Spread (a0 : Int) (a1 : List Int) (a2 : List Int) : HS 78 (M_index_Spread a0 a1 a2) [.int .i64 a0, .lst (List.map (D.int .i64) a1), .lst (List.map (D.int .i64) a2)] en_vec_each_vec_Add_1 := Tr.fn (F := F_index_Spread)
 (.call 10 (ok_index_Check a0 a1) nl_vec_pair fun r1 => .iteN 9 15 (r1 = 0)
  (.ret 10 ([], r1))
  (.len 4 eI a1 <| .len 1 eI a2 <| .iteN 3 19 ((a1.length : Int) = (a2.length : Int))
  (.ret 9 ([], 4))
  (.mk 6 eI 8 0 a0 a0 <| .let_ (List.replicate (Int.toNat a0) 0 : List Int) fun y2 => .len 6 eI a1 <| .loop 4 ⟨_, _, _, _, _, ok_index_Spread_l0 a1 a2 0 y2⟩ fun j6 => .ret 8 (j6, 0))))
noncomputable abbrev F_press_ways_5 : Fe := .of Tryz.prog 77 en_vec_each_vec_Add_1
theorem ok_press_ways_5 (a0 : T_api_Sent) : HS 77 (M_press_ways_5 a0) [.agg [.int .i64 a0.F_Scheme, .int .i64 a0.F_Dim, .lst (List.map (D.int .i64) a0.F_L), .lst (List.map (D.int .i64) a0.F_V), .int .i64 a0.F_Scale, .int .i64 a0.F_Wide, .lst (List.map (D.int .u64) a0.F_Lev), .lst (List.map D.bool a0.F_Neg)]] en_vec_each_vec_Add_1 := Tr.fn (F := F_press_ways_5)
 (.call 14 (ok_index_Spread a0.F_Dim a0.F_L a0.F_V) nl_vec_each_vec_Add_1 fun r1 => .ret 6 (r1.1, r1.2))
noncomputable abbrev F_quant_Value : Fe := .of Tryz.prog 138 en_fix_Add
theorem ok_quant_Value (a0 : Int) (a1 : Int) (a2 : Int) : HS 138 (M_quant_Value a0 a1 a2) [.int .u64 a0, .int .i64 a1, .int .i64 a2] en_fix_Add := Tr.fn (F := F_quant_Value)
 (.call 8 (ok_quant_Steps a2) nl_quant_Steps fun r1 => .join 12 3 (γ := Bool) ⟨fun x => [(24, bB x)], [8, 0, 1], fun _ => [], []⟩
  (.iteN 0 21 (r1.2 = 0)
  (.ret 4 true)
  (.ret 4 (decide (a1 < 0))))
  fun j2 => .join 1 4 (γ := Bool) ⟨fun x => [(29, bB x)], [8, 0, 1], fun _ => [], []⟩
  (.iteB 0 25 (j2)
  (.ret 5 true)
  (.ret 5 (decide (a0 > r1.1))))
  fun j3 => .iteB 1 29 (j3)
  (.ret 8 (0, 1))
  (.call 7 (ok_math_bits_Mul64 (IntKind.u64.wrap a1) a0) nl_math_bits_Mul64 fun r4 => .call 11 (ok_math_bits_Div64 r4.1 r4.2 r1.1) nl_math_bits_Mul64 fun r5 => .ret 14 (IntKind.i64.wrap r5.1, 0)))
noncomputable abbrev F_quant_Loosen : Fe := .of Tryz.prog 84 en_vec_each_vec_Add_1
def S_quant_Loosen_l0 (a0 : T_api_Sent) (x0 : Int) (x1 : List Int) : St := ⟨[(23, nI x0), (22, nI (a0.F_Lev.length : Int)), (21, lU a0.F_Lev), (4, sI (.h 0) x1), (1, .ptr (.s 15) 0)], [(.s 15, [nI a0.F_Scheme, nI a0.F_Dim, lI a0.F_L, lI a0.F_V, nI a0.F_Scale, nI a0.F_Wide, lU a0.F_Lev, lB a0.F_Neg])]⟩
def E_quant_Loosen_l0 (a0 : T_api_Sent) (x : (List Int)) : St := ⟨[(4, sI (.h 1) x)], []⟩
theorem ok_quant_Loosen_l0 (a0 : T_api_Sent) : ∀ (x0 : Int) (x1 : List Int), Ok (M_quant_Loosen_l0 a0 x0 x1) (LR F_quant_Loosen (.exit 0) (E_quant_Loosen_l0 a0) 84 0 (S_quant_Loosen_l0 a0 x0 x1)) := by
 refine M_quant_Loosen_l0.partial_correctness a0 _ ?_
 intro f IH x0 x1
 exact Tr.lpR (F := F_quant_Loosen) (X := Int × (List Int))
  (.ite 6 24 (x0 < (a0.F_Lev.length : Int))
   (.idx 7 eU a0.F_Lev x0 <| .call 11 (ok_quant_Value (at' a0.F_Lev x0) a0.F_Scale a0.F_Wide) nl_fix_Add fun r5 => .iteN 12 38 (r5.2 = 0)
   (.ret 12 (.inl ([], r5.2)))
   (.idx 7 eI x1 x0 <| .sto 0 [4] eI x1 x0 r5.1 <| .let_ (x1.set (Int.toNat x0) r5.1 : List Int) fun y6 => .idx 6 eB a0.F_Neg x0 <| .iteB 2 48 (at' a0.F_Neg x0)
   (.idx 6 eI y6 x0 <| .sto 0 [4] eI y6 x0 (IntKind.i64.wrap (0 - r5.1)) <| .let_ (y6.set (Int.toNat x0) (IntKind.i64.wrap (0 - r5.1)) : List Int) fun y8 => .again 6 (IntKind.i64.wrap (x0 + 1), y8))
   (.again 7 (IntKind.i64.wrap (x0 + 1), y6))))
   (.ret 4 (.inr x1))) _ fun x r => IH x.1 x.2 r
theorem ok_quant_Loosen (a0 : T_api_Sent) : HS 84 (M_quant_Loosen a0) [.agg [.int .i64 a0.F_Scheme, .int .i64 a0.F_Dim, .lst (List.map (D.int .i64) a0.F_L), .lst (List.map (D.int .i64) a0.F_V), .int .i64 a0.F_Scale, .int .i64 a0.F_Wide, .lst (List.map (D.int .u64) a0.F_Lev), .lst (List.map D.bool a0.F_Neg)]] en_vec_each_vec_Add_1 := Tr.fn (F := F_quant_Loosen)
 (.call 10 (ok_frame_May a0) nl_press_bare fun r1 => .join 2 4 (γ := Bool) ⟨fun x => [(16, bB x)], [1], fun _ => [], [.s 15]⟩
  (.iteX 0 12 (r1)
  (.ret 5 true)
  (.ret 5 (a0.F_Scheme != 2)))
  fun j2 => .iteB 1 16 (j2)
  (.ret 8 ([], 1))
  (.mk 6 eI 8 0 a0.F_Dim a0.F_Dim <| .let_ (List.replicate (Int.toNat a0.F_Dim) 0 : List Int) fun y3 => .len 7 eU a0.F_Lev <| .loopR 4 id ⟨_, _, _, _, _, ok_quant_Loosen_l0 a0 0 y3⟩ fun j10 => .ret 8 (j10, 0)))
noncomputable abbrev F_sign_Loosen_1_c : Fe := .of Tryz.prog 144 en_vec_pair
theorem ok_sign_Loosen_1_c (a0 : Bool) (a1 : Int) (a2 : Int) (a3 : List Int) (a4 : List Int) (a5 : Int) (a6 : Int) (a7 : List Int) (a8 : List Bool) : HS 144 (M_sign_Loosen_1_c a0 a1 a2 a3 a4 a5 a6 a7 a8) [.bool a0, .cp [.int .i64 a1, .int .i64 a2, .lst (List.map (D.int .i64) a3), .lst (List.map (D.int .i64) a4), .int .i64 a5, .int .i64 a6, .lst (List.map (D.int .u64) a7), .lst (List.map D.bool a8)] 0] en_vec_pair := Tr.fn (F := F_sign_Loosen_1_c)
 (.iteB 9 4 (a0)
  (.ret 10 (IntKind.i64.wrap (0 - a5)))
  (.ret 9 a5))
noncomputable abbrev F_sign_each_bool_int64_sign_Loosen_1 : Fe := .of Tryz.prog 143 en_slices_Clone_int64_int64
def S_sign_each_bool_int64_sign_Loosen_1_l0 (a0 : List Bool) (a1 : Int) (a2 : Int) (a3 : List Int) (a4 : List Int) (a5 : Int) (a6 : Int) (a7 : List Int) (a8 : List Bool) (x0 : Int) (x1 : List Int) : St := ⟨[(13, nI x0), (12, nI (a0.length : Int)), (11, lB a0), (5, sI (.h 0) x1), (1, .d (.clo (.func 144) [] [.cp [.int .i64 a1, .int .i64 a2, .lst (List.map (D.int .i64) a3), .lst (List.map (D.int .i64) a4), .int .i64 a5, .int .i64 a6, .lst (List.map (D.int .u64) a7), .lst (List.map D.bool a8)] 0]))], []⟩
def E_sign_each_bool_int64_sign_Loosen_1_l0 (a0 : List Bool) (a1 : Int) (a2 : Int) (a3 : List Int) (a4 : List Int) (a5 : Int) (a6 : Int) (a7 : List Int) (a8 : List Bool) (x : (List Int)) : St := ⟨[(5, sI (.h 1) x)], []⟩
theorem ok_sign_each_bool_int64_sign_Loosen_1_l0 (a0 : List Bool) (a1 : Int) (a2 : Int) (a3 : List Int) (a4 : List Int) (a5 : Int) (a6 : Int) (a7 : List Int) (a8 : List Bool) : ∀ (x0 : Int) (x1 : List Int), Ok (M_sign_each_bool_int64_sign_Loosen_1_l0 a0 a1 a2 a3 a4 a5 a6 a7 a8 x0 x1) (LN F_sign_each_bool_int64_sign_Loosen_1 (.exit 0) (E_sign_each_bool_int64_sign_Loosen_1_l0 a0 a1 a2 a3 a4 a5 a6 a7 a8) 143 0 (S_sign_each_bool_int64_sign_Loosen_1_l0 a0 a1 a2 a3 a4 a5 a6 a7 a8 x0 x1)) := by
 refine M_sign_each_bool_int64_sign_Loosen_1_l0.partial_correctness a0 a1 a2 a3 a4 a5 a6 a7 a8 _ ?_
 intro f IH x0 x1
 exact Tr.lpN (F := F_sign_each_bool_int64_sign_Loosen_1) (X := Int × (List Int))
  (.ite 6 14 (x0 < (a0.length : Int))
   (.idx 6 eB a0 x0 <| .call 7 (ok_sign_Loosen_1_c (at' a0 x0) a1 a2 a3 a4 a5 a6 a7 a8) nl_vec_pair fun r3 => .app 1 eI 8 x1 [r3] <| .again 7 (IntKind.i64.wrap (x0 + 1), x1 ++ [r3]))
   (.ret 4 x1)) _ fun x r => IH x.1 x.2 r
theorem ok_sign_each_bool_int64_sign_Loosen_1 (a0 : List Bool) (a1 : Int) (a2 : Int) (a3 : List Int) (a4 : List Int) (a5 : Int) (a6 : Int) (a7 : List Int) (a8 : List Bool) : HS 143 (M_sign_each_bool_int64_sign_Loosen_1 a0 a1 a2 a3 a4 a5 a6 a7 a8) [.lst (List.map D.bool a0), .clo (.func 144) [] [.cp [.int .i64 a1, .int .i64 a2, .lst (List.map (D.int .i64) a3), .lst (List.map (D.int .i64) a4), .int .i64 a5, .int .i64 a6, .lst (List.map (D.int .u64) a7), .lst (List.map D.bool a8)] 0]] en_slices_Clone_int64_int64 := Tr.fn (F := F_sign_each_bool_int64_sign_Loosen_1)
 (.len 7 eB a0 <| .mk 0 eI 8 0 0 (a0.length : Int) <| .let_ (List.replicate (Int.toNat 0) 0 : List Int) fun y1 => .len 6 eB a0 <| .loop 4 ⟨_, _, _, _, _, ok_sign_each_bool_int64_sign_Loosen_1_l0 a0 a1 a2 a3 a4 a5 a6 a7 a8 0 y1⟩ fun j4 => .ret 7 j4)
noncomputable abbrev F_sign_Loosen : Fe := .of Tryz.prog 89 en_vec_each_vec_Add_1
theorem ok_sign_Loosen (a0 : T_api_Sent) : HS 89 (M_sign_Loosen a0) [.agg [.int .i64 a0.F_Scheme, .int .i64 a0.F_Dim, .lst (List.map (D.int .i64) a0.F_L), .lst (List.map (D.int .i64) a0.F_V), .int .i64 a0.F_Scale, .int .i64 a0.F_Wide, .lst (List.map (D.int .u64) a0.F_Lev), .lst (List.map D.bool a0.F_Neg)]] en_vec_each_vec_Add_1 := Tr.fn (F := F_sign_Loosen)
 (.call 10 (ok_frame_May a0) nl_press_bare fun r1 => .join 2 4 (γ := Bool) ⟨fun x => [(11, bB x)], [1], fun _ => [], [.s 15]⟩
  (.iteX 0 7 (r1)
  (.ret 5 true)
  (.ret 5 (a0.F_Scheme != 3)))
  fun j2 => .iteB 1 11 (j2)
  (.ret 8 ([], 1))
  (.call 7 (ok_sign_each_bool_int64_sign_Loosen_1 a0.F_Neg a0.F_Scheme a0.F_Dim a0.F_L a0.F_V a0.F_Scale a0.F_Wide a0.F_Lev a0.F_Neg) nl_slices_Clone_int64_int64 fun r3 => .ret 4 (r3, 0)))
noncomputable abbrev F_press_Loosen : Fe := .of Tryz.prog 19 en_vec_each_vec_Add_1
theorem ok_press_Loosen (a0 : T_api_Sent) : HS 19 (M_press_Loosen a0) [.agg [.int .i64 a0.F_Scheme, .int .i64 a0.F_Dim, .lst (List.map (D.int .i64) a0.F_L), .lst (List.map (D.int .i64) a0.F_V), .int .i64 a0.F_Scale, .int .i64 a0.F_Wide, .lst (List.map (D.int .u64) a0.F_Lev), .lst (List.map D.bool a0.F_Neg)]] en_vec_each_vec_Add_1 := Tr.fn (F := F_press_Loosen)
 (.call 10 (ok_frame_May a0) nl_press_bare fun r1 => .iteX 2 6 (r1)
  (.ret 8 ([], 1))
  (.callG 7 [] [] ok_press_ways fun r2 => .hold 1 [] <| .cas 1 10 (a0.F_Scheme = (0 : Int)) (.d (.agg [.clo (.func 69) [] [], .clo (.func 70) [] [], .clo (.func 71) [] [], .clo (.func 73) [] []])) (.d (lookD a0.F_Scheme [(1, .agg [.clo (.func 74) [] [], .clo (.func 75) [] [], .clo (.func 77) [] [], .clo (.func 79) [] []]), (2, .agg [.clo (.func 81) [] [], .clo (.func 82) [] [], .clo (.func 84) [] [], .clo (.func 85) [] []]), (3, .agg [.clo (.func 69) [] [], .clo (.func 87) [] [], .clo (.func 89) [] [], .clo (.func 90) [] []])] (.agg [.nilfn, .nilfn, .nilfn, .nilfn]))) (.d (lookD a0.F_Scheme [(0, .agg [.clo (.func 69) [] [], .clo (.func 70) [] [], .clo (.func 71) [] [], .clo (.func 73) [] []]), (1, .agg [.clo (.func 74) [] [], .clo (.func 75) [] [], .clo (.func 77) [] [], .clo (.func 79) [] []]), (2, .agg [.clo (.func 81) [] [], .clo (.func 82) [] [], .clo (.func 84) [] [], .clo (.func 85) [] []]), (3, .agg [.clo (.func 69) [] [], .clo (.func 87) [] [], .clo (.func 89) [] [], .clo (.func 90) [] []])] (.agg [.nilfn, .nilfn, .nilfn, .nilfn]))) lookD_t lookD_f
  (.call 1 (ok_press_ways_1 a0) nl_vec_each_vec_Add_1 fun r3 => .ret 7 (r3.1, r3.2))
  (.cas 0 10 (a0.F_Scheme = (1 : Int)) (.d (.agg [.clo (.func 74) [] [], .clo (.func 75) [] [], .clo (.func 77) [] [], .clo (.func 79) [] []])) (.d (lookD a0.F_Scheme [(2, .agg [.clo (.func 81) [] [], .clo (.func 82) [] [], .clo (.func 84) [] [], .clo (.func 85) [] []]), (3, .agg [.clo (.func 69) [] [], .clo (.func 87) [] [], .clo (.func 89) [] [], .clo (.func 90) [] []])] (.agg [.nilfn, .nilfn, .nilfn, .nilfn]))) (.d (lookD a0.F_Scheme [(1, .agg [.clo (.func 74) [] [], .clo (.func 75) [] [], .clo (.func 77) [] [], .clo (.func 79) [] []]), (2, .agg [.clo (.func 81) [] [], .clo (.func 82) [] [], .clo (.func 84) [] [], .clo (.func 85) [] []]), (3, .agg [.clo (.func 69) [] [], .clo (.func 87) [] [], .clo (.func 89) [] [], .clo (.func 90) [] []])] (.agg [.nilfn, .nilfn, .nilfn, .nilfn]))) lookD_t lookD_f
  (.call 1 (ok_press_ways_5 a0) nl_vec_each_vec_Add_1 fun r4 => .ret 7 (r4.1, r4.2))
  (.cas 0 10 (a0.F_Scheme = (2 : Int)) (.d (.agg [.clo (.func 81) [] [], .clo (.func 82) [] [], .clo (.func 84) [] [], .clo (.func 85) [] []])) (.d (lookD a0.F_Scheme [(3, .agg [.clo (.func 69) [] [], .clo (.func 87) [] [], .clo (.func 89) [] [], .clo (.func 90) [] []])] (.agg [.nilfn, .nilfn, .nilfn, .nilfn]))) (.d (lookD a0.F_Scheme [(2, .agg [.clo (.func 81) [] [], .clo (.func 82) [] [], .clo (.func 84) [] [], .clo (.func 85) [] []]), (3, .agg [.clo (.func 69) [] [], .clo (.func 87) [] [], .clo (.func 89) [] [], .clo (.func 90) [] []])] (.agg [.nilfn, .nilfn, .nilfn, .nilfn]))) lookD_t lookD_f
  (.call 1 (ok_quant_Loosen a0) nl_vec_each_vec_Add_1 fun r5 => .ret 7 (r5.1, r5.2))
  (.cas 0 10 (a0.F_Scheme = (3 : Int)) (.d (.agg [.clo (.func 69) [] [], .clo (.func 87) [] [], .clo (.func 89) [] [], .clo (.func 90) [] []])) (.d (lookD a0.F_Scheme [] (.agg [.nilfn, .nilfn, .nilfn, .nilfn]))) (.d (lookD a0.F_Scheme [(3, .agg [.clo (.func 69) [] [], .clo (.func 87) [] [], .clo (.func 89) [] [], .clo (.func 90) [] []])] (.agg [.nilfn, .nilfn, .nilfn, .nilfn]))) lookD_t lookD_f
  (.call 1 (ok_sign_Loosen a0) nl_vec_each_vec_Add_1 fun r6 => .ret 7 (r6.1, r6.2))
  (.halt))))))
noncomputable abbrev F_vec_Sub_1_c_c : Fe := .of Tryz.prog 102 en_fix_Add
theorem ok_vec_Sub_1_c_c (a0 : Int) (a1 : List Int) (a2 : List Int) : HS 102 (M_vec_Sub_1_c_c a0 a1 a2) [.int .i64 a0, .cp [.lst (List.map (D.int .i64) a1)] 0, .cp [.lst (List.map (D.int .i64) a2)] 0] en_fix_Add := Tr.fn (F := F_vec_Sub_1_c_c)
 (.idx 9 eI a1 a0 <| .idx 3 eI a2 a0 <| .call 1 (ok_fix_Sub (at' a1 a0) (at' a2 a0)) nl_fix_Add fun r1 => .ret 6 (r1.1, r1.2))
noncomputable abbrev F_vec_each_vec_Sub_1 : Fe := .of Tryz.prog 58 en_vec_each_vec_Add_1
def S_vec_each_vec_Sub_1_l0 (a1 : List Int) (a2 : List Int) (y1 : List Int) (x0 : Int) (x1 : List Int) : St := ⟨[(13, nI x0), (12, nI (y1.length : Int)), (6, sI (.h 0) x1), (1, .d (.clo (.func 102) [] [.cp [.lst (List.map (D.int .i64) a1)] 0, .cp [.lst (List.map (D.int .i64) a2)] 0]))], []⟩
def E_vec_each_vec_Sub_1_l0 (a1 : List Int) (a2 : List Int) (y1 : List Int) (x : (List Int)) : St := ⟨[(6, sI (.h 1) x)], []⟩
theorem ok_vec_each_vec_Sub_1_l0 (a1 : List Int) (a2 : List Int) (y1 : List Int) : ∀ (x0 : Int) (x1 : List Int), Ok (M_vec_each_vec_Sub_1_l0 a1 a2 y1 x0 x1) (LR F_vec_each_vec_Sub_1 (.exit 0) (E_vec_each_vec_Sub_1_l0 a1 a2 y1) 58 0 (S_vec_each_vec_Sub_1_l0 a1 a2 y1 x0 x1)) := by
 refine M_vec_each_vec_Sub_1_l0.partial_correctness a1 a2 y1 _ ?_
 intro f IH x0 x1
 exact Tr.lpR (F := F_vec_each_vec_Sub_1) (X := Int × (List Int))
  (.ite 6 14 (x0 < (y1.length : Int))
   (.call 19 (ok_vec_Sub_1_c_c x0 a1 a2) nl_fix_Add fun r3 => .idx 3 eI x1 x0 <| .sto 0 [6] eI x1 x0 r3.1 <| .let_ (x1.set (Int.toNat x0) r3.1 : List Int) fun y4 => .iteN 7 26 (r3.2 = 0)
   (.ret 11 (.inl ([], r3.2)))
   (.again 7 (IntKind.i64.wrap (x0 + 1), y4)))
   (.ret 4 (.inr x1))) _ fun x r => IH x.1 x.2 r
theorem ok_vec_each_vec_Sub_1 (a0 : Int) (a1 : List Int) (a2 : List Int) : HS 58 (M_vec_each_vec_Sub_1 a0 a1 a2) [.int .i64 a0, .clo (.func 102) [] [.cp [.lst (List.map (D.int .i64) a1)] 0, .cp [.lst (List.map (D.int .i64) a2)] 0]] en_vec_each_vec_Add_1 := Tr.fn (F := F_vec_each_vec_Sub_1)
 (.mk 8 eI 8 0 a0 a0 <| .let_ (List.replicate (Int.toNat a0) 0 : List Int) fun y1 => .len 6 eI y1 <| .loopR 4 id ⟨_, _, _, _, _, ok_vec_each_vec_Sub_1_l0 a1 a2 y1 0 y1⟩ fun j6 => .ret 8 (j6, 0))
noncomputable abbrev F_vec_Sub : Fe := .of Tryz.prog 43 en_vec_each_vec_Add_1
theorem ok_vec_Sub (a0 : List Int) (a1 : List Int) : HS 43 (M_vec_Sub a0 a1) [.lst (List.map (D.int .i64) a0), .lst (List.map (D.int .i64) a1)] en_vec_each_vec_Add_1 := Tr.fn (F := F_vec_Sub)
 (.call 12 (ok_vec_pair a0 a1) nl_vec_pair fun r1 => .iteN 7 11 (r1 = 0)
  (.ret 9 ([], r1))
  (.len 5 eI a0 <| .call 1 (ok_vec_each_vec_Sub_1 (a0.length : Int) a0 a1) nl_vec_each_vec_Add_1 fun r2 => .ret 6 (r2.1, r2.2)))
noncomputable abbrev F_press_Left : Fe := .of Tryz.prog 20 en_vec_each_vec_Add_1
theorem ok_press_Left (a0 : List Int) (a1 : T_api_Sent) : HS 20 (M_press_Left a0 a1) [.lst (List.map (D.int .i64) a0), .agg [.int .i64 a1.F_Scheme, .int .i64 a1.F_Dim, .lst (List.map (D.int .i64) a1.F_L), .lst (List.map (D.int .i64) a1.F_V), .int .i64 a1.F_Scale, .int .i64 a1.F_Wide, .lst (List.map (D.int .u64) a1.F_Lev), .lst (List.map D.bool a1.F_Neg)]] en_vec_each_vec_Add_1 := Tr.fn (F := F_press_Left)
 (.call 9 (ok_press_Loosen a1) nl_vec_each_vec_Add_1 fun r1 => .iteN 12 14 (r1.2 = 0)
  (.ret 9 ([], r1.2))
  (.call 6 (ok_vec_Sub a0 r1.1) nl_vec_each_vec_Add_1 fun r2 => .ret 6 (r2.1, r2.2)))
def en_press_Round (v : Int × Int × (List Int) × (List Int) × Int × Int × (List Int) × (List Bool) × (List Int) × Int) : PV := .tup [.d (.agg [.int .i64 v.1, .int .i64 v.2.1, .lst (List.map (D.int .i64) v.2.2.1), .lst (List.map (D.int .i64) v.2.2.2.1), .int .i64 v.2.2.2.2.1, .int .i64 v.2.2.2.2.2.1, .lst (List.map (D.int .u64) v.2.2.2.2.2.2.1), .lst (List.map D.bool v.2.2.2.2.2.2.2.1)]), sI (.s 0) v.2.2.2.2.2.2.2.2.1, nI v.2.2.2.2.2.2.2.2.2]
noncomputable abbrev F_press_Round : Fe := .of Tryz.prog 13 en_press_Round
theorem ok_press_Round (a0 : T_api_How) (a1 : List Int) (a2 : List Int) (a3 : Int) (a4 : List Int) : HS 13 (M_press_Round a0 a1 a2 a3 a4) [.agg [.int .i64 a0.F_Scheme, .int .i64 a0.F_K, .int .i64 a0.F_Wide], .lst (List.map (D.int .i64) a1), .lst (List.map (D.int .i64) a2), .int .u64 a3, .lst (List.map (D.int .i64) a4)] en_press_Round := Tr.fn (F := F_press_Round)
 (.call 11 (ok_vec_Add a1 a2) nl_vec_each_vec_Add_1 fun r1 => .join 12 0 (γ := Int × Int × Int × (List Int) × (List Int) × Int × Int × (List Int) × (List Bool)) ⟨fun x => [(12, nI x.1)], [13, 11, 10], fun x => [(.s 31, [nI x.2.1, nI x.2.2.1, sI (.h 0) x.2.2.2.1, sI (.h 1) x.2.2.2.2.1, nI x.2.2.2.2.2.1, nI x.2.2.2.2.2.2.1, sU (.h 2) x.2.2.2.2.2.2.2.1, sB (.h 3) x.2.2.2.2.2.2.2.2])], []⟩
  (.ite 0 21 (r1.2 = 0)
  (.call 6 (ok_press_Press a0 r1.1 a3 a4) nl_press_Press fun r2 => .ret 6 (r2.2.2.2.2.2.2.2.2, r2.1, r2.2.1, r2.2.2.1, r2.2.2.2.1, r2.2.2.2.2.1, r2.2.2.2.2.2.1, r2.2.2.2.2.2.2.1, r2.2.2.2.2.2.2.2.1))
  (.ret 2 (r1.2, 0, 0, [], [], 0, 0, [], [])))
  fun j3 => .ite 6 31 (j3.1 = 0)
  (.call 4 (ok_press_Left r1.1 (⟨j3.2.1, j3.2.2.1, j3.2.2.2.1, j3.2.2.2.2.1, j3.2.2.2.2.2.1, j3.2.2.2.2.2.2.1, j3.2.2.2.2.2.2.2.1, j3.2.2.2.2.2.2.2.2⟩ : T_api_Sent)) nl_vec_each_vec_Add_1 fun r4 => .iteN 12 39 (r4.2 = 0)
  (.ret 11 (0, 0, [], [], 0, 0, [], [], [], r4.2))
  (.ret 11 (j3.2.1, j3.2.2.1, j3.2.2.2.1, j3.2.2.2.2.1, j3.2.2.2.2.2.1, j3.2.2.2.2.2.2.1, j3.2.2.2.2.2.2.2.1, j3.2.2.2.2.2.2.2.2, r4.1, 0)))
  (.iteN 8 39 (j3.1 = 0)
  (.ret 11 (0, 0, [], [], 0, 0, [], [], [], j3.1))
  (.ret 11 (j3.2.1, j3.2.2.1, j3.2.2.2.1, j3.2.2.2.2.1, j3.2.2.2.2.2.1, j3.2.2.2.2.2.2.1, j3.2.2.2.2.2.2.2.1, j3.2.2.2.2.2.2.2.2, [], 0))))
noncomputable abbrev F_thrumref02_Same : Fe := .of Tryz.prog 16 en_press_bare
def S_thrumref02_Same_l0 (a0 : List Int) (a1 : List Int) (x0 : Int) : St := ⟨[(13, nI x0), (12, nI (a0.length : Int)), (0, lI a0), (1, lI a1)], []⟩
def E_thrumref02_Same_l0 (a0 : List Int) (a1 : List Int) (x : Unit) : St := ⟨[], []⟩
theorem ok_thrumref02_Same_l0 (a0 : List Int) (a1 : List Int) : ∀ (x0 : Int), Ok (M_thrumref02_Same_l0 a0 a1 x0) (LR F_thrumref02_Same (.exit 0) (E_thrumref02_Same_l0 a0 a1) 16 0 (S_thrumref02_Same_l0 a0 a1 x0)) := by
 refine M_thrumref02_Same_l0.partial_correctness a0 a1 _ ?_
 intro f IH x0
 exact Tr.lpR (F := F_thrumref02_Same) (X := Int)
  (.ite 6 14 (x0 < (a0.length : Int))
   (.idx 13 eI a0 x0 <| .idx 3 eI a1 x0 <| .iteN 3 24 ((at' a0 x0) = (at' a1 x0))
   (.ret 9 (.inl false))
   (.again 7 (IntKind.i64.wrap (x0 + 1))))
   (.ret 4 (.inr ()))) _ fun x r => IH x r
theorem ok_thrumref02_Same (a0 : List Int) (a1 : List Int) : HS 16 (M_thrumref02_Same a0 a1) [.lst (List.map (D.int .i64) a0), .lst (List.map (D.int .i64) a1)] en_press_bare := Tr.fn (F := F_thrumref02_Same)
 (.len 8 eI a0 <| .len 1 eI a1 <| .iteN 2 10 ((a0.length : Int) = (a1.length : Int))
  (.ret 7 false)
  (.len 6 eI a0 <| .loopR 4 id ⟨_, _, _, _, _, ok_thrumref02_Same_l0 a0 a1 0⟩ fun j1 => .ret 6 true))
noncomputable abbrev F_thrumlaw12_live : Fe := .of Tryz.prog 9 en_press_bare
theorem ok_thrumlaw12_live : HS 9 M_thrumlaw12_live [] en_press_bare := Tr.fn (F := F_thrumlaw12_live)
 (.callZ 9 (ok_press_Round (⟨1, 1, 0⟩ : T_api_How) [3, -5] [0, 0] 1 []) fun r1 => .join 14 5 (γ := Bool) ⟨fun x => [(19, bB x)], [2, 1], fun _ => [], [.s 1743]⟩
  (.ite 0 14 (r1.2.2.2.2.2.2.2.2.2 = 0)
  (.len 2 eI r1.2.2.1 <| .ret 3 ((r1.2.2.1.length : Int) == 1))
  (.ret 6 false))
  fun j2 => .join 1 6 (γ := Bool) ⟨fun x => [(26, bB x)], [2, 1], fun _ => [], [.s 1743]⟩
  (.iteB 0 20 (j2)
  (.idx 2 eI r1.2.2.1 0 <| .ret 4 ((at' r1.2.2.1 0) == 1))
  (.ret 7 false))
  fun j3 => .join 1 5 (γ := Bool) ⟨fun x => [(32, bB x)], [2], fun _ => [], []⟩
  (.iteB 0 27 (j3)
  (.call 3 (ok_thrumref02_Same r1.2.2.2.1 [-5]) nl_press_bare fun r4 => .ret 2 r4)
  (.ret 6 false))
  fun j5 => .join 1 4 (γ := Bool) ⟨fun x => [(37, bB x)], [], fun _ => [], []⟩
  (.iteB 0 33 (j5)
  (.call 2 (ok_thrumref02_Same r1.2.2.2.2.2.2.2.2.1 [3, 0]) nl_press_bare fun r6 => .ret 2 r6)
  (.ret 5 false))
  fun j7 => .ret 3 j7)
noncomputable abbrev F_thrumlaw12_few : Fe := .of Tryz.prog 10 en_press_bare
def S_thrumlaw12_few_l0 (a0 : List Int) (a1 : List (List Int)) (x0 : Int) : St := ⟨[(9, nI x0), (8, nI (a1.length : Int)), (7, .d (.lst (List.map (enL (D.int .i64)) a1))), (0, lI a0), (1, .d (.lst (List.map (enL (D.int .i64)) a1)))], []⟩
def E_thrumlaw12_few_l0 (a0 : List Int) (a1 : List (List Int)) (x : Unit) : St := ⟨[(0, lI a0), (1, .d (.lst (List.map (enL (D.int .i64)) a1)))], []⟩
theorem ok_thrumlaw12_few_l0 (a0 : List Int) (a1 : List (List Int)) : ∀ (x0 : Int), Ok (M_thrumlaw12_few_l0 a0 a1 x0) (LR F_thrumlaw12_few (.exit 0) (E_thrumlaw12_few_l0 a0 a1) 10 0 (S_thrumlaw12_few_l0 a0 a1 x0)) := by
 refine M_thrumlaw12_few_l0.partial_correctness a0 a1 _ ?_
 intro f IH x0
 exact Tr.lpR (F := F_thrumlaw12_few) (X := Int)
  (.ite 6 10 (x0 < (a1.length : Int))
   (.idx 6 (eL eI) a1 x0 <| .len 6 eI (at' a1 x0) <| .join 2 4 (γ := Bool) ⟨fun x => [(20, bB x)], [6, 9, 8, 7, 0, 1], fun _ => [], []⟩
   (.ite 0 16 (((at' a1 x0).length : Int) > 200)
   (.len 1 eI (at' a1 x0) <| .ret 3 (decide (((at' a1 x0).length : Int) ≤ 4096)))
   (.ret 5 false))
   fun j1 => .join 1 4 (γ := Bool) ⟨fun x => [(25, bB x)], [9, 8, 7, 0, 1], fun _ => [], []⟩
   (.iteB 0 21 (j1)
   (.ret 5 true)
   (.len 1 eI (at' a1 x0) <| .ret 3 (decide (((at' a1 x0).length : Int) > 5000))))
   fun j2 => .iteB 1 25 (j2)
   (.ret 9 (.inl false))
   (.again 7 (IntKind.i64.wrap (x0 + 1))))
   (.ret 4 (.inr ()))) _ fun x r => IH x r
theorem ok_thrumlaw12_few (a0 : List Int) (a1 : List (List Int)) : HS 10 (M_thrumlaw12_few a0 a1) [.lst (List.map (D.int .i64) a0), .lst (List.map (enL (D.int .i64)) a1)] en_press_bare := Tr.fn (F := F_thrumlaw12_few)
 (.len 8 (eL eI) a1 <| .loopR 4 id ⟨_, _, _, _, _, ok_thrumlaw12_few_l0 a0 a1 0⟩ fun j3 => .len 4 eI a0 <| .join 2 4 (γ := Bool) ⟨fun x => [(34, bB x)], [], fun _ => [], []⟩
  (.ite 0 30 ((a0.length : Int) ≤ 50)
  (.len 1 (eL eI) a1 <| .ret 3 (decide ((a1.length : Int) ≤ 30)))
  (.ret 5 false))
  fun j4 => .ret 3 j4)
noncomputable abbrev F_thrumref12_Check : Fe := .of Tryz.prog 18 en_vec_pair
theorem ok_thrumref12_Check (a0 : T_api_How) (a1 : Int) : HS 18 (M_thrumref12_Check a0 a1) [.agg [.int .i64 a0.F_Scheme, .int .i64 a0.F_K, .int .i64 a0.F_Wide], .int .i64 a1] en_vec_pair := Tr.fn (F := F_thrumref12_Check)
 (.join 10 3 (γ := Bool) ⟨fun x => [(11, bB x)], [2, 1], fun _ => [], [.s 15]⟩
  (.ite 0 8 (a1 ≥ 1)
  (.ret 4 (decide (a1 ≤ 4096)))
  (.ret 4 false))
  fun j1 => .join 15 0 (γ := Bool) ⟨fun x => [(14, bB x)], [13, 5, 2, 1], fun _ => [], [.s 15]⟩
  (.ite 0 14 (a0.F_Scheme = 0)
  (.ret 2 true)
  (.ret 5 (a0.F_Scheme == 3)))
  fun j2 => .iteB 0 14 (j2)
  (.join 4 4 (γ := Bool) ⟨fun x => [(22, bB x)], [2], fun _ => [], [.s 15]⟩
  (.iteB 0 18 (j1)
  (.ret 5 (a0.F_K == 0))
  (.ret 5 false))
  fun j3 => .join 1 4 (γ := Bool) ⟨fun x => [(27, bB x)], [], fun _ => [], []⟩
  (.iteB 0 23 (j3)
  (.ret 5 (a0.F_Wide == 0))
  (.ret 5 false))
  fun j4 => .iteX 9 66 (j4)
  (.ret 7 1)
  (.ret 7 0))
  (.ite 6 28 (a0.F_Scheme = 1)
  (.join 4 4 (γ := Bool) ⟨fun x => [(35, bB x)], [2, 1], fun _ => [], [.s 15]⟩
  (.iteB 0 31 (j1)
  (.ret 5 (decide (a0.F_K ≥ 0)))
  (.ret 5 false))
  fun j5 => .join 1 5 (γ := Bool) ⟨fun x => [(41, bB x)], [2], fun _ => [], [.s 15]⟩
  (.iteB 0 36 (j5)
  (.ret 6 (decide (a0.F_K ≤ a1)))
  (.ret 6 false))
  fun j6 => .join 1 4 (γ := Bool) ⟨fun x => [(46, bB x)], [], fun _ => [], []⟩
  (.iteB 0 42 (j6)
  (.ret 5 (a0.F_Wide == 0))
  (.ret 5 false))
  fun j7 => .iteX 9 66 (j7)
  (.ret 7 1)
  (.ret 7 0))
  (.ite 6 47 (a0.F_Scheme = 2)
  (.join 4 4 (γ := Bool) ⟨fun x => [(54, bB x)], [2], fun _ => [], [.s 15]⟩
  (.iteB 0 50 (j1)
  (.ret 5 (a0.F_K == 0))
  (.ret 5 false))
  fun j8 => .join 1 4 (γ := Bool) ⟨fun x => [(59, bB x)], [2], fun _ => [], [.s 15]⟩
  (.iteB 0 55 (j8)
  (.ret 5 (decide (a0.F_Wide ≥ 1)))
  (.ret 5 false))
  fun j9 => .join 1 4 (γ := Bool) ⟨fun x => [(64, bB x)], [], fun _ => [], []⟩
  (.iteB 0 60 (j9)
  (.ret 5 (decide (a0.F_Wide ≤ 8)))
  (.ret 5 false))
  fun j10 => .iteX 9 66 (j10)
  (.ret 7 1)
  (.ret 7 0))
  (.ret 18 1))))
noncomputable abbrev F_thrumref09_Size : Fe := .of Tryz.prog 149 en_topk_size
theorem ok_thrumref09_Size (a0 : Int) : HS 149 (M_thrumref09_Size a0) [.int .i64 a0] en_topk_size := Tr.fn (F := F_thrumref09_Size)
 (.ite 10 4 (a0 < 0)
  (.ret 12 (IntKind.u64.wrap ((IntKind.u64.wrap (IntKind.i64.wrap (0 - (IntKind.i64.wrap (a0 + 1))))) + 1)))
  (.ret 9 (IntKind.u64.wrap a0)))
noncomputable abbrev F_thrumref09_Ahead : Fe := .of Tryz.prog 186 en_press_bare
theorem ok_thrumref09_Ahead (a0 : List Int) (a1 : Int) (a2 : Int) : HS 186 (M_thrumref09_Ahead a0 a1 a2) [.lst (List.map (D.int .i64) a0), .int .i64 a1, .int .i64 a2] en_press_bare := Tr.fn (F := F_thrumref09_Ahead)
 (.idx 8 eI a0 a1 <| .call 1 (ok_thrumref09_Size (at' a0 a1)) nl_topk_size fun r1 => .idx 6 eI a0 a2 <| .call 1 (ok_thrumref09_Size (at' a0 a2)) nl_topk_size fun r2 => .ite 8 22 (r1 > r2)
  (.ret 12 true)
  (.ite 4 26 (r1 = r2)
  (.ret 8 (decide (a1 < a2)))
  (.ret 8 false)))
noncomputable abbrev F_thrumref09_Order : Fe := .of Tryz.prog 146 en_vec_each_vec_Add_1
def S_thrumref09_Order_l1 (a0 : List Int) (x0 : Int) (x1 : List Int) (x0_ : Int) (x1_ : Int) : St := ⟨[(21, nI x0_), (20, nI (a0.length : Int)), (6, nI x1_), (5, nI x0), (16, nI x0), (15, nI (a0.length : Int)), (4, sI (.h 0) x1), (0, lI a0)], []⟩
def E_thrumref09_Order_l1 (a0 : List Int) (x0 : Int) (x1 : List Int) (x : Int) : St := ⟨[(6, nI x), (5, nI x0), (16, nI x0), (15, nI (a0.length : Int)), (4, sI (.h 0) x1), (0, lI a0)], []⟩
theorem ok_thrumref09_Order_l1 (a0 : List Int) (x0 : Int) (x1 : List Int) : ∀ (x0_ : Int) (x1_ : Int), Ok (M_thrumref09_Order_l1 a0 x0 x1 x0_ x1_) (LN F_thrumref09_Order (.exit 2) (E_thrumref09_Order_l1 a0 x0 x1) 146 1 (S_thrumref09_Order_l1 a0 x0 x1 x0_ x1_)) := by
 refine M_thrumref09_Order_l1.partial_correctness a0 x0 x1 _ ?_
 intro f IH x0_ x1_
 exact Tr.lpN (F := F_thrumref09_Order) (X := Int × Int)
  (.ite 6 22 (x0_ < (a0.length : Int))
   (.call 14 (ok_thrumref09_Ahead a0 x0_ x0) nl_press_bare fun r3 => .iteB 1 27 (r3)
   (.again 11 (IntKind.i64.wrap (x0_ + 1), IntKind.i64.wrap (x1_ + 1)))
   (.again 7 (IntKind.i64.wrap (x0_ + 1), x1_)))
   (.ret 4 x1_)) _ fun x r => IH x.1 x.2 r
def S_thrumref09_Order_l0 (a0 : List Int) (x0 : Int) (x1 : List Int) : St := ⟨[(16, nI x0), (15, nI (a0.length : Int)), (4, sI (.h 0) x1), (0, lI a0)], []⟩
def E_thrumref09_Order_l0 (a0 : List Int) (x : (List Int)) : St := ⟨[(4, sI (.h 1) x)], []⟩
theorem ok_thrumref09_Order_l0 (a0 : List Int) : ∀ (x0 : Int) (x1 : List Int), Ok (M_thrumref09_Order_l0 a0 x0 x1) (LN F_thrumref09_Order (.exit 0) (E_thrumref09_Order_l0 a0) 146 0 (S_thrumref09_Order_l0 a0 x0 x1)) := by
 refine M_thrumref09_Order_l0.partial_correctness a0 _ ?_
 intro f IH x0 x1
 exact Tr.lpN (F := F_thrumref09_Order) (X := Int × (List Int))
  (.ite 6 17 (x0 < (a0.length : Int))
   (.len 17 eI a0 <| .loop 4 ⟨_, _, _, _, _, ok_thrumref09_Order_l1 a0 x0 x1 0 0⟩ fun j4 => .idx 5 eI x1 j4 <| .sto 0 [4] eI x1 j4 x0 <| .again 6 (IntKind.i64.wrap (x0 + 1), x1.set (Int.toNat j4) x0))
   (.ret 4 x1)) _ fun x r => IH x.1 x.2 r
theorem ok_thrumref09_Order (a0 : List Int) : HS 146 (M_thrumref09_Order a0) [.lst (List.map (D.int .i64) a0)] en_vec_each_vec_Add_1 := Tr.fn (F := F_thrumref09_Order)
 (.len 9 eI a0 <| .ite 2 10 ((a0.length : Int) > 4096)
  (.ret 8 ([], 3))
  (.len 5 eI a0 <| .mk 0 eI 8 0 (a0.length : Int) (a0.length : Int) <| .let_ (List.replicate (Int.toNat (a0.length : Int)) 0 : List Int) fun y1 => .len 6 eI a0 <| .loop 4 ⟨_, _, _, _, _, ok_thrumref09_Order_l0 a0 0 y1⟩ fun j5 => .ret 8 (j5, 0)))
noncomputable abbrev F_thrumref06_in : Fe := .of Tryz.prog 187 en_press_bare
def S_thrumref06_in_l0 (a0 : List Int) (a1 : Int) (x0 : Int) : St := ⟨[(9, nI x0), (8, nI (a0.length : Int)), (7, lI a0), (1, nI a1)], []⟩
def E_thrumref06_in_l0 (a0 : List Int) (a1 : Int) (x : Unit) : St := ⟨[], []⟩
theorem ok_thrumref06_in_l0 (a0 : List Int) (a1 : Int) : ∀ (x0 : Int), Ok (M_thrumref06_in_l0 a0 a1 x0) (LR F_thrumref06_in (.exit 0) (E_thrumref06_in_l0 a0 a1) 187 0 (S_thrumref06_in_l0 a0 a1 x0)) := by
 refine M_thrumref06_in_l0.partial_correctness a0 a1 _ ?_
 intro f IH x0
 exact Tr.lpR (F := F_thrumref06_in) (X := Int)
  (.ite 6 10 (x0 < (a0.length : Int))
   (.idx 6 eI a0 x0 <| .ite 9 15 ((at' a0 x0) = a1)
   (.ret 9 (.inl true))
   (.again 7 (IntKind.i64.wrap (x0 + 1))))
   (.ret 4 (.inr ()))) _ fun x r => IH x r
theorem ok_thrumref06_in (a0 : List Int) (a1 : Int) : HS 187 (M_thrumref06_in a0 a1) [.lst (List.map (D.int .i64) a0), .int .i64 a1] en_press_bare := Tr.fn (F := F_thrumref06_in)
 (.len 8 eI a0 <| .loopR 4 id ⟨_, _, _, _, _, ok_thrumref06_in_l0 a0 a1 0⟩ fun j1 => .ret 6 false)
noncomputable abbrev F_thrumref06_Merge : Fe := .of Tryz.prog 147 en_slices_Clone_int64_int64
def S_thrumref06_Merge_l2 (a0 : List (List Int)) (x0 : Int) (x0_ : Int) (x1_ : List Int) (x0__ : Int) (x1__ : List Int) : St := ⟨[(30, nI x0__), (29, nI (x1_.length : Int)), (28, sI (.h 1) x1_), (8, sI (.h 2) x1__), (7, nI (at' (at' a0 x0) x0_)), (21, nI x0_), (20, nI ((at' a0 x0).length : Int)), (19, lI (at' a0 x0)), (15, nI x0), (14, nI (a0.length : Int)), (13, .d (.lst (List.map (enL (D.int .i64)) a0))), (3, sI (.h 1) x1_)], []⟩
def E_thrumref06_Merge_l2 (a0 : List (List Int)) (x0 : Int) (x0_ : Int) (x1_ : List Int) (x : (List Int)) : St := ⟨[(8, sI (.h 3) x), (7, nI (at' (at' a0 x0) x0_)), (21, nI x0_), (20, nI ((at' a0 x0).length : Int)), (19, lI (at' a0 x0)), (15, nI x0), (14, nI (a0.length : Int)), (13, .d (.lst (List.map (enL (D.int .i64)) a0))), (3, sI (.h 1) x1_)], []⟩
theorem ok_thrumref06_Merge_l2 (a0 : List (List Int)) (x0 : Int) (x0_ : Int) (x1_ : List Int) : ∀ (x0__ : Int) (x1__ : List Int), Ok (M_thrumref06_Merge_l2 a0 x0 x0_ x1_ x0__ x1__) (LN F_thrumref06_Merge (.exit 4) (E_thrumref06_Merge_l2 a0 x0 x0_ x1_) 147 2 (S_thrumref06_Merge_l2 a0 x0 x0_ x1_ x0__ x1__)) := by
 refine M_thrumref06_Merge_l2.partial_correctness a0 x0 x0_ x1_ _ ?_
 intro f IH x0__ x1__
 exact Tr.lpN (F := F_thrumref06_Merge) (X := Int × (List Int))
  (.ite 6 31 (x0__ < (x1_.length : Int))
   (.idx 6 eI x1_ x0__ <| .ite 9 36 ((at' x1_ x0__) < (at' (at' a0 x0) x0_))
   (.app 5 eI 8 x1__ [at' x1_ x0__] <| .again 7 (IntKind.i64.wrap (x0__ + 1), x1__ ++ [at' x1_ x0__]))
   (.again 7 (IntKind.i64.wrap (x0__ + 1), x1__)))
   (.ret 4 x1__)) _ fun x r => IH x.1 x.2 r
def S_thrumref06_Merge_l3 (a0 : List (List Int)) (x0 : Int) (x0_ : Int) (x1_ : List Int) (x0__ : Int) (x1__ : List Int) : St := ⟨[(48, nI x0__), (47, nI (x1_.length : Int)), (46, sI (.h 1) x1_), (8, sI (.h 2) x1__), (7, nI (at' (at' a0 x0) x0_)), (21, nI x0_), (20, nI ((at' a0 x0).length : Int)), (19, lI (at' a0 x0)), (15, nI x0), (14, nI (a0.length : Int)), (13, .d (.lst (List.map (enL (D.int .i64)) a0)))], []⟩
def E_thrumref06_Merge_l3 (a0 : List (List Int)) (x0 : Int) (x0_ : Int) (x1_ : List Int) (x : (List Int)) : St := ⟨[(8, sI (.h 3) x), (21, nI x0_), (20, nI ((at' a0 x0).length : Int)), (19, lI (at' a0 x0)), (15, nI x0), (14, nI (a0.length : Int)), (13, .d (.lst (List.map (enL (D.int .i64)) a0)))], []⟩
theorem ok_thrumref06_Merge_l3 (a0 : List (List Int)) (x0 : Int) (x0_ : Int) (x1_ : List Int) : ∀ (x0__ : Int) (x1__ : List Int), Ok (M_thrumref06_Merge_l3 a0 x0 x0_ x1_ x0__ x1__) (LN F_thrumref06_Merge (.exit 6) (E_thrumref06_Merge_l3 a0 x0 x0_ x1_) 147 3 (S_thrumref06_Merge_l3 a0 x0 x0_ x1_ x0__ x1__)) := by
 refine M_thrumref06_Merge_l3.partial_correctness a0 x0 x0_ x1_ _ ?_
 intro f IH x0__ x1__
 exact Tr.lpN (F := F_thrumref06_Merge) (X := Int × (List Int))
  (.ite 6 49 (x0__ < (x1_.length : Int))
   (.idx 6 eI x1_ x0__ <| .ite 9 54 ((at' x1_ x0__) > (at' (at' a0 x0) x0_))
   (.app 5 eI 8 x1__ [at' x1_ x0__] <| .again 7 (IntKind.i64.wrap (x0__ + 1), x1__ ++ [at' x1_ x0__]))
   (.again 7 (IntKind.i64.wrap (x0__ + 1), x1__)))
   (.ret 4 x1__)) _ fun x r => IH x.1 x.2 r
def S_thrumref06_Merge_l1 (a0 : List (List Int)) (x0 : Int) (x0_ : Int) (x1_ : List Int) : St := ⟨[(21, nI x0_), (20, nI ((at' a0 x0).length : Int)), (19, lI (at' a0 x0)), (15, nI x0), (14, nI (a0.length : Int)), (13, .d (.lst (List.map (enL (D.int .i64)) a0))), (3, sI (.h 1) x1_)], []⟩
def E_thrumref06_Merge_l1 (a0 : List (List Int)) (x0 : Int) (x : (List Int)) : St := ⟨[(15, nI x0), (14, nI (a0.length : Int)), (13, .d (.lst (List.map (enL (D.int .i64)) a0))), (3, sI (.h 2) x)], []⟩
theorem ok_thrumref06_Merge_l1 (a0 : List (List Int)) (x0 : Int) : ∀ (x0_ : Int) (x1_ : List Int), Ok (M_thrumref06_Merge_l1 a0 x0 x0_ x1_) (LN F_thrumref06_Merge (.exit 2) (E_thrumref06_Merge_l1 a0 x0) 147 1 (S_thrumref06_Merge_l1 a0 x0 x0_ x1_)) := by
 refine M_thrumref06_Merge_l1.partial_correctness a0 x0 _ ?_
 intro f IH x0_ x1_
 exact Tr.lpN (F := F_thrumref06_Merge) (X := Int × (List Int))
  (.ite 6 22 (x0_ < ((at' a0 x0).length : Int))
   (.idx 6 eI (at' a0 x0) x0_ <| .call 8 (ok_thrumref06_in x1_ (at' (at' a0 x0) x0_)) nl_press_bare fun r1 => .iteB 1 27 (r1)
   (.again 8 (IntKind.i64.wrap (x0_ + 1), x1_))
   (.len 10 eI x1_ <| .loop 4 ⟨_, _, _, _, _, ok_thrumref06_Merge_l2 a0 x0 x0_ x1_ 0 []⟩ fun j2 => .app 6 eI 8 j2 [at' (at' a0 x0) x0_] <| .let_ (j2 ++ [at' (at' a0 x0) x0_] : List Int) fun y3 => .len 6 eI x1_ <| .loop 4 ⟨_, _, _, _, _, ok_thrumref06_Merge_l3 a0 x0 x0_ x1_ 0 y3⟩ fun j5 => .again 10 (IntKind.i64.wrap (x0_ + 1), j5)))
   (.ret 4 x1_)) _ fun x r => IH x.1 x.2 r
def S_thrumref06_Merge_l0 (a0 : List (List Int)) (x0 : Int) (x1 : List Int) : St := ⟨[(15, nI x0), (14, nI (a0.length : Int)), (13, .d (.lst (List.map (enL (D.int .i64)) a0))), (3, sI (.h 0) x1)], []⟩
def E_thrumref06_Merge_l0 (a0 : List (List Int)) (x : (List Int)) : St := ⟨[(3, sI (.h 1) x)], []⟩
theorem ok_thrumref06_Merge_l0 (a0 : List (List Int)) : ∀ (x0 : Int) (x1 : List Int), Ok (M_thrumref06_Merge_l0 a0 x0 x1) (LN F_thrumref06_Merge (.exit 0) (E_thrumref06_Merge_l0 a0) 147 0 (S_thrumref06_Merge_l0 a0 x0 x1)) := by
 refine M_thrumref06_Merge_l0.partial_correctness a0 _ ?_
 intro f IH x0 x1
 exact Tr.lpN (F := F_thrumref06_Merge) (X := Int × (List Int))
  (.ite 6 16 (x0 < (a0.length : Int))
   (.idx 6 (eL eI) a0 x0 <| .len 6 eI (at' a0 x0) <| .loop 4 ⟨_, _, _, _, _, ok_thrumref06_Merge_l1 a0 x0 0 x1⟩ fun j6 => .again 6 (IntKind.i64.wrap (x0 + 1), j6))
   (.ret 4 x1)) _ fun x r => IH x.1 x.2 r
theorem ok_thrumref06_Merge (a0 : List (List Int)) : HS 147 (M_thrumref06_Merge a0) [.lst (List.map (enL (D.int .i64)) a0)] en_slices_Clone_int64_int64 := Tr.fn (F := F_thrumref06_Merge)
 (.len 12 (eL eI) a0 <| .loop 4 ⟨_, _, _, _, _, ok_thrumref06_Merge_l0 a0 0 []⟩ fun j7 => .ret 7 j7)
noncomputable abbrev F_thrumref09_Pick : Fe := .of Tryz.prog 92 en_vec_each_vec_Add_1
theorem ok_thrumref09_Pick (a0 : Int) (a1 : List Int) : HS 92 (M_thrumref09_Pick a0 a1) [.int .i64 a0, .lst (List.map (D.int .i64) a1)] en_vec_each_vec_Add_1 := Tr.fn (F := F_thrumref09_Pick)
 (.call 8 (ok_thrumref09_Order a1) nl_vec_each_vec_Add_1 fun r1 => .iteN 12 14 (r1.2 = 0)
  (.ret 9 ([], r1.2))
  (.join 8 5 (γ := Bool) ⟨fun x => [(23, bB x)], [6, 0], fun _ => [], []⟩
  (.ite 0 18 (a0 < 0)
  (.ret 6 true)
  (.len 2 eI a1 <| .ret 3 (decide (a0 > (a1.length : Int)))))
  fun j2 => .iteB 1 23 (j2)
  (.ret 8 ([], 1))
  (.cut 6 eI r1.1 none (some a0) <| .call 1 (ok_thrumref06_Merge [cut' r1.1 none (some a0)]) nl_slices_Clone_int64_int64 fun r3 => .ret 4 (r3, 0))))
def en_thrumref09_Press (v : Int × Int × (List Int) × (List Int) × Int × Int × Int) : PV := .tup [.d (.agg [.int .i64 v.1, .int .i64 v.2.1, .lst (List.map (D.int .i64) v.2.2.1), .lst (List.map (D.int .i64) v.2.2.2.1), .int .i64 v.2.2.2.2.1, .int .i64 v.2.2.2.2.2.1, .lst [], .lst []]), nI v.2.2.2.2.2.2]
noncomputable abbrev F_thrumref09_Press : Fe := .of Tryz.prog 35 en_thrumref09_Press
def S_thrumref09_Press_l0 (a1 : List Int) (r1 : (List Int) × Int) (x0 : Int) (x1 : List Int) : St := ⟨[(31, nI x0), (30, nI (r1.1.length : Int)), (29, sI (.s 4832) r1.1), (8, .ptr (.s 9679) 0), (4, .ptr (.s 15) 0), (1, lI a1)], [(.s 9679, [nI 1, nI (a1.length : Int), sI (.s 4832) r1.1, sI (.h 0) x1, nI 0, nI 0, .nils, .nils]), (.s 15, [nI 0, nI 0, .nils, .nils, nI 0, nI 0, .nils, .nils])]⟩
def E_thrumref09_Press_l0 (a1 : List Int) (r1 : (List Int) × Int) (x : (List Int)) : St := ⟨[(8, .ptr (.s 9679) 0), (4, .ptr (.s 15) 0)], [(.s 9679, [nI 1, nI (a1.length : Int), sI (.s 4832) r1.1, sI (.h 1) x, nI 0, nI 0, .nils, .nils]), (.s 15, [nI 0, nI 0, .nils, .nils, nI 0, nI 0, .nils, .nils])]⟩
theorem ok_thrumref09_Press_l0 (a1 : List Int) (r1 : (List Int) × Int) : ∀ (x0 : Int) (x1 : List Int), Ok (M_thrumref09_Press_l0 a1 r1 x0 x1) (LN F_thrumref09_Press (.exit 0) (E_thrumref09_Press_l0 a1 r1) 35 0 (S_thrumref09_Press_l0 a1 r1 x0 x1)) := by
 refine M_thrumref09_Press_l0.partial_correctness a1 r1 _ ?_
 intro f IH x0 x1
 exact Tr.lpN (F := F_thrumref09_Press) (X := Int × (List Int))
  (.ite 6 32 (x0 < (r1.1.length : Int))
   (.idx 6 eI r1.1 x0 <| .idx 8 eI a1 (at' r1.1 x0) <| .hold 3 [] <| .app 0 eI 8 x1 [at' a1 (at' r1.1 x0)] <| .let_ (x1 ++ [at' a1 (at' r1.1 x0)] : List Int) fun y2 => .again 9 (IntKind.i64.wrap (x0 + 1), y2))
   (.ret 4 x1)) _ fun x r => IH x.1 x.2 r
theorem ok_thrumref09_Press (a0 : Int) (a1 : List Int) : HS 35 (M_thrumref09_Press a0 a1) [.int .i64 a0, .lst (List.map (D.int .i64) a1)] en_thrumref09_Press := Tr.fn (F := F_thrumref09_Press)
 (.len 9 eI a1 <| .ite 2 13 ((a1.length : Int) = 0)
  (.ret 9 (0, 0, [], [], 0, 0, 1))
  (.call 6 (ok_thrumref09_Pick a0 a1) nl_vec_each_vec_Add_1 fun r1 => .iteN 12 22 (r1.2 = 0)
  (.ret 10 (0, 0, [], [], 0, 0, r1.2))
  (.len 5 eI a1 <| .len 9 eI r1.1 <| .loop 4 ⟨_, _, _, _, _, ok_thrumref09_Press_l0 a1 r1 0 []⟩ fun j4 => .ret 8 (1, (a1.length : Int), r1.1, j4, 0, 0, 0))))
noncomputable abbrev F_thrumref10_Steps : Fe := .of Tryz.prog 93 en_quant_Steps
theorem ok_thrumref10_Steps (a0 : Int) : HS 93 (M_thrumref10_Steps a0) [.int .i64 a0] en_quant_Steps := Tr.fn (F := F_thrumref10_Steps)
 (.join 11 3 (γ := Bool) ⟨fun x => [(9, bB x)], [0], fun _ => [], []⟩
  (.ite 0 6 (a0 < 1)
  (.ret 4 true)
  (.ret 4 (decide (a0 > 8))))
  fun j1 => .iteB 1 9 (j1)
  (.ret 8 (0, 1))
  (.rd 5 (0 ≤ a0) (nU (sShl .u64 1 a0)) <| .ret 5 (IntKind.u64.wrap ((sShl .u64 1 a0) - 1), 0)))
noncomputable abbrev F_thrumref01_Sub : Fe := .of Tryz.prog 108 en_fix_Add
theorem ok_thrumref01_Sub (a0 : Int) (a1 : Int) : HS 108 (M_thrumref01_Sub a0 a1) [.int .i64 a0, .int .i64 a1] en_fix_Add := Tr.fn (F := F_thrumref01_Sub)
 (.join 11 5 (γ := Bool) ⟨fun x => [(13, bB x)], [0, 1], fun _ => [], []⟩
  (.ite 0 8 (a1 < 0)
  (.ret 6 (decide (a0 > (IntKind.i64.wrap (9223372036854775807 + a1)))))
  (.ret 6 false))
  fun j1 => .iteB 1 14 (j1)
  (.ret 18 (0, 2))
  (.ite 3 17 (a1 > 0)
  (.ite 7 23 (a0 < (IntKind.i64.wrap ((-9223372036854775808) + a1)))
  (.ret 8 (0, 2))
  (.ret 11 (IntKind.i64.wrap (a0 - a1), 0)))
  (.ret 18 (IntKind.i64.wrap (a0 - a1), 0))))
noncomputable abbrev F_thrumref01_Neg : Fe := .of Tryz.prog 188 en_fix_Add
theorem ok_thrumref01_Neg (a0 : Int) : HS 188 (M_thrumref01_Neg a0) [.int .i64 a0] en_fix_Add := Tr.fn (F := F_thrumref01_Neg)
 (.call 8 (ok_thrumref01_Sub 0 a0) nl_fix_Add fun r1 => .ret 6 (r1.1, r1.2))
noncomputable abbrev F_thrumref01_Abs : Fe := .of Tryz.prog 148 en_fix_Add
theorem ok_thrumref01_Abs (a0 : Int) : HS 148 (M_thrumref01_Abs a0) [.int .i64 a0] en_fix_Add := Tr.fn (F := F_thrumref01_Abs)
 (.ite 11 5 (a0 < 0)
  (.call 4 (ok_thrumref01_Neg a0) nl_fix_Add fun r1 => .ret 7 (r1.1, r1.2))
  (.ret 9 (a0, 0)))
noncomputable abbrev F_thrumref02_Most : Fe := .of Tryz.prog 94 en_fix_Add
def S_thrumref02_Most_l0 (a0 : List Int) (x0 : Int) (x1 : Int) : St := ⟨[(14, nI x0), (13, nI (a0.length : Int)), (12, lI a0), (4, nI x1)], []⟩
def E_thrumref02_Most_l0 (a0 : List Int) (x : Int) : St := ⟨[(4, nI x)], []⟩
theorem ok_thrumref02_Most_l0 (a0 : List Int) : ∀ (x0 : Int) (x1 : Int), Ok (M_thrumref02_Most_l0 a0 x0 x1) (LR F_thrumref02_Most (.exit 0) (E_thrumref02_Most_l0 a0) 94 0 (S_thrumref02_Most_l0 a0 x0 x1)) := by
 refine M_thrumref02_Most_l0.partial_correctness a0 _ ?_
 intro f IH x0 x1
 exact Tr.lpR (F := F_thrumref02_Most) (X := Int × Int)
  (.ite 6 15 (x0 < (a0.length : Int))
   (.idx 6 eI a0 x0 <| .call 6 (ok_thrumref01_Abs (at' a0 x0)) nl_fix_Add fun r1 => .iteN 12 24 (r1.2 = 0)
   (.ret 12 (.inl (0, r1.2)))
   (.again 13 (IntKind.i64.wrap (x0 + 1), if r1.1 > x1 then r1.1 else x1)))
   (.ret 4 (.inr x1))) _ fun x r => IH x.1 x.2 r
theorem ok_thrumref02_Most (a0 : List Int) : HS 94 (M_thrumref02_Most a0) [.lst (List.map (D.int .i64) a0)] en_fix_Add := Tr.fn (F := F_thrumref02_Most)
 (.len 9 eI a0 <| .ite 2 11 ((a0.length : Int) > 4096)
  (.ret 8 (0, 3))
  (.len 10 eI a0 <| .loopR 4 id ⟨_, _, _, _, _, ok_thrumref02_Most_l0 a0 0 0⟩ fun j2 => .ret 8 (j2, 0)))
noncomputable abbrev F_thrumref10_Level : Fe := .of Tryz.prog 95 en_quant_Level
def S_thrumref10_Level_l0 (a0 : Int) (a1 : Int) (r1 : Int × Int) (x0 : Int) (x1 : Int) (x2 : Int) : St := ⟨[(34, nU x0), (33, nU r1.1), (12, nU x1), (11, nU x2), (0, nI a0), (1, nI a1)], []⟩
def E_thrumref10_Level_l0 (a0 : Int) (a1 : Int) (r1 : Int × Int) (x : Int × Int) : St := ⟨[(12, nU x.1), (11, nU x.2)], []⟩
theorem ok_thrumref10_Level_l0 (a0 : Int) (a1 : Int) (r1 : Int × Int) : ∀ (x0 : Int) (x1 : Int) (x2 : Int), Ok (M_thrumref10_Level_l0 a0 a1 r1 x0 x1 x2) (LN F_thrumref10_Level (.exit 0) (E_thrumref10_Level_l0 a0 a1 r1) 95 0 (S_thrumref10_Level_l0 a0 a1 r1 x0 x1 x2)) := by
 refine M_thrumref10_Level_l0.partial_correctness a0 a1 r1 _ ?_
 intro f IH x0 x1 x2
 exact Tr.lpN (F := F_thrumref10_Level) (X := Int × Int × Int)
  (.ite 6 35 (x0 < r1.1)
   (.call 8 (ok_thrumref09_Size a0) nl_topk_size fun r5 => .ite 10 43 ((IntKind.u64.wrap (x1 + r5)) ≥ (IntKind.u64.wrap a1))
   (.let_ (IntKind.u64.wrap ((IntKind.u64.wrap (x1 + r5)) - (IntKind.u64.wrap a1)) : Int) fun y6 => .again 19 (IntKind.u64.wrap (x0 + 1), y6, IntKind.u64.wrap (x2 + 1)))
   (.again 7 (IntKind.u64.wrap (x0 + 1), IntKind.u64.wrap (x1 + r5), x2)))
   (.ret 4 (x1, x2))) _ fun x r => IH x.1 x.2.1 x.2.2 r
theorem ok_thrumref10_Level (a0 : Int) (a1 : Int) (a2 : Int) : HS 95 (M_thrumref10_Level a0 a1 a2) [.int .i64 a0, .int .i64 a1, .int .i64 a2] en_quant_Level := Tr.fn (F := F_thrumref10_Level)
 (.call 9 (ok_thrumref10_Steps a2) nl_quant_Steps fun r1 => .join 12 3 (γ := Bool) ⟨fun x => [(23, bB x)], [9, 0, 1], fun _ => [], []⟩
  (.iteN 0 20 (r1.2 = 0)
  (.ret 4 true)
  (.ret 4 (decide (a1 < 0))))
  fun j2 => .join 1 6 (γ := Bool) ⟨fun x => [(30, bB x)], [9, 0, 1], fun _ => [], []⟩
  (.iteB 0 24 (j2)
  (.ret 7 true)
  (.call 1 (ok_thrumref09_Size a0) nl_topk_size fun r3 => .ret 5 (decide (r3 > (IntKind.u64.wrap a1)))))
  fun j4 => .iteB 1 30 (j4)
  (.ret 9 (0, 0, 1))
  (.ite 8 32 (a1 = 0)
  (.ret 9 (0, 0, 0))
  (.loop 18 ⟨_, _, _, _, _, ok_thrumref10_Level_l0 a0 a1 r1 0 0 0⟩ fun j8 => .ret 10 (j8.2, j8.1, 0))))
noncomputable abbrev F_thrumref08_At : Fe := .of Tryz.prog 150 en_topk_size
def S_thrumref08_At_l0 (a1 : List Int) (x0 : Int) (x1 : Int) : St := ⟨[(11, nI x0), (10, nI (a1.length : Int)), (9, lI a1), (5, nU x1)], []⟩
def E_thrumref08_At_l0 (a1 : List Int) (x : Int) : St := ⟨[(5, nU x)], []⟩
theorem ok_thrumref08_At_l0 (a1 : List Int) : ∀ (x0 : Int) (x1 : Int), Ok (M_thrumref08_At_l0 a1 x0 x1) (LN F_thrumref08_At (.exit 0) (E_thrumref08_At_l0 a1) 150 0 (S_thrumref08_At_l0 a1 x0 x1)) := by
 refine M_thrumref08_At_l0.partial_correctness a1 _ ?_
 intro f IH x0 x1
 exact Tr.lpN (F := F_thrumref08_At) (X := Int × Int)
  (.ite 6 12 (x0 < (a1.length : Int))
   (.idx 6 eI a1 x0 <| .let_ (bXor .u64 (IntKind.u64.wrap ((bXor .u64 x1 (IntKind.u64.wrap (at' a1 x0))) * 11400714819323198485)) (sShr .u64 (IntKind.u64.wrap ((bXor .u64 x1 (IntKind.u64.wrap (at' a1 x0))) * 11400714819323198485)) 29) : Int) fun y1 => .again 29 (IntKind.i64.wrap (x0 + 1), y1))
   (.ret 4 x1)) _ fun x r => IH x.1 x.2 r
theorem ok_thrumref08_At (a0 : Int) (a1 : List Int) : HS 150 (M_thrumref08_At a0 a1) [.int .u64 a0, .lst (List.map (D.int .i64) a1)] en_topk_size := Tr.fn (F := F_thrumref08_At)
 (.len 13 eI a1 <| .loop 4 ⟨_, _, _, _, _, ok_thrumref08_At_l0 a1 0 a0⟩ fun j3 => .ret 16 (bXor .u64 (IntKind.u64.wrap (j3 * 13787848793156543929)) (sShr .u64 (IntKind.u64.wrap (j3 * 13787848793156543929)) 32)))
noncomputable abbrev F_thrumref08_Below : Fe := .of Tryz.prog 96 en_quant_Steps
theorem ok_thrumref08_Below (a0 : Int) (a1 : Int) (a2 : List Int) : HS 96 (M_thrumref08_Below a0 a1 a2) [.int .u64 a0, .int .u64 a1, .lst (List.map (D.int .i64) a2)] en_quant_Steps := Tr.fn (F := F_thrumref08_Below)
 (.ite 11 9 (a0 = 0)
  (.ret 8 (0, 1))
  (.call 6 (ok_thrumref08_At a1 a2) nl_topk_size fun r1 => .rd 1 (a0 ≠ 0) (nU (Int.tmod r1 a0)) <| .ret 4 (Int.tmod r1 a0, 0)))
def en_thrumref10_Press (v : Int × Int × Int × Int × (List Int) × (List Bool) × Int) : PV := .tup [.d (.agg [.int .i64 v.1, .int .i64 v.2.1, .lst [], .lst [], .int .i64 v.2.2.1, .int .i64 v.2.2.2.1, .lst (List.map (D.int .u64) v.2.2.2.2.1), .lst (List.map D.bool v.2.2.2.2.2.1)]), nI v.2.2.2.2.2.2]
noncomputable abbrev F_thrumref10_Press : Fe := .of Tryz.prog 36 en_thrumref10_Press
def S_thrumref10_Press_l0 (a0 : List Int) (a1 : Int) (a2 : Int) (a3 : List Int) (r3 : Int × Int) (x0 : Int) (x1 : List Int) (x2 : List Bool) : St := ⟨[(51, nI x0), (50, nI (a0.length : Int)), (49, lI a0), (14, .ptr (.s 11295) 0), (12, nI r3.1), (8, .ptr (.s 15) 0), (1, nI a1), (2, nU a2), (3, lI a3)], [(.s 11295, [nI 2, nI (a0.length : Int), .nils, .nils, nI r3.1, nI a1, sU (.h 0) x1, sB (.h 1) x2]), (.s 15, [nI 0, nI 0, .nils, .nils, nI 0, nI 0, .nils, .nils])]⟩
def E_thrumref10_Press_l0 (a0 : List Int) (a1 : Int) (a2 : Int) (a3 : List Int) (r3 : Int × Int) (x : (List Int) × (List Bool)) : St := ⟨[(14, .ptr (.s 11295) 0), (8, .ptr (.s 15) 0)], [(.s 11295, [nI 2, nI (a0.length : Int), .nils, .nils, nI r3.1, nI a1, sU (.h 2) x.1, sB (.h 3) x.2]), (.s 15, [nI 0, nI 0, .nils, .nils, nI 0, nI 0, .nils, .nils])]⟩
theorem ok_thrumref10_Press_l0 (a0 : List Int) (a1 : Int) (a2 : Int) (a3 : List Int) (r3 : Int × Int) : ∀ (x0 : Int) (x1 : List Int) (x2 : List Bool), Ok (M_thrumref10_Press_l0 a0 a1 a2 a3 r3 x0 x1 x2) (LN F_thrumref10_Press (.exit 0) (E_thrumref10_Press_l0 a0 a1 a2 a3 r3) 36 0 (S_thrumref10_Press_l0 a0 a1 a2 a3 r3 x0 x1 x2)) := by
 refine M_thrumref10_Press_l0.partial_correctness a0 a1 a2 a3 r3 _ ?_
 intro f IH x0 x1 x2
 exact Tr.lpN (F := F_thrumref10_Press) (X := Int × (List Int) × (List Bool))
  (.ite 6 52 (x0 < (a0.length : Int))
   (.idx 7 eI a0 x0 <| .call 9 (ok_thrumref10_Level (at' a0 x0) r3.1 a1) nl_quant_Level fun r4 => .join 14 0 (γ := Int) ⟨fun x => [(17, nU x)], [16, 51, 50, 49, 14, 12, 8, 1, 2, 3], fun _ => [], [.s 11295, .s 15]⟩
   (.ite 0 65 (r4.2.1 > 0)
   (.appN 7 eI 8 a3 <| .app 2 eI 8 a3 [x0] <| .call 0 (ok_thrumref08_Below (IntKind.u64.wrap r3.1) a2 (a3 ++ [x0])) nl_quant_Steps fun r5 => .ite 12 80 (r5.1 < r4.2.1)
   (.ret 6 (IntKind.u64.wrap (r4.1 + 1)))
   (.ret 2 r4.1))
   (.ret 2 r4.1))
   fun j6 => .app 6 eU 8 x1 [j6] <| .app 9 eB 1 x2 [decide ((at' a0 x0) < 0)] <| .let_ (x2 ++ [decide ((at' a0 x0) < 0)] : List Bool) fun y7 => .again 8 (IntKind.i64.wrap (x0 + 1), x1 ++ [j6], y7))
   (.ret 4 (x1, x2))) _ fun x r => IH x.1 x.2.1 x.2.2 r
theorem ok_thrumref10_Press (a0 : List Int) (a1 : Int) (a2 : Int) (a3 : List Int) : HS 36 (M_thrumref10_Press a0 a1 a2 a3) [.lst (List.map (D.int .i64) a0), .int .i64 a1, .int .u64 a2, .lst (List.map (D.int .i64) a3)] en_thrumref10_Press := Tr.fn (F := F_thrumref10_Press)
 (.call 9 (ok_thrumref10_Steps a1) nl_quant_Steps fun r1 => .join 11 4 (γ := Bool) ⟨fun x => [(33, bB x)], [8, 0, 1, 2, 3], fun _ => [], [.s 15]⟩
  (.iteN 0 29 (r1.2 = 0)
  (.ret 5 true)
  (.len 1 eI a0 <| .ret 3 ((a0.length : Int) == 0)))
  fun j2 => .iteB 1 33 (j2)
  (.ret 9 (0, 0, 0, 0, [], [], 1))
  (.call 5 (ok_thrumref02_Most a0) nl_fix_Add fun r3 => .iteN 12 41 (r3.2 = 0)
  (.ret 10 (0, 0, 0, 0, [], [], r3.2))
  (.len 5 eI a0 <| .len 10 eI a0 <| .loop 4 ⟨_, _, _, _, _, ok_thrumref10_Press_l0 a0 a1 a2 a3 r3 0 [] []⟩ fun j9 => .ret 8 (2, (a0.length : Int), r3.1, a1, j9.1, j9.2, 0))))
noncomputable abbrev F_thrumref01_Add : Fe := .of Tryz.prog 99 en_fix_Add
theorem ok_thrumref01_Add (a0 : Int) (a1 : Int) : HS 99 (M_thrumref01_Add a0 a1) [.int .i64 a0, .int .i64 a1] en_fix_Add := Tr.fn (F := F_thrumref01_Add)
 (.join 11 5 (γ := Bool) ⟨fun x => [(13, bB x)], [0, 1], fun _ => [], []⟩
  (.ite 0 8 (a1 > 0)
  (.ret 6 (decide (a0 > (IntKind.i64.wrap (9223372036854775807 - a1)))))
  (.ret 6 false))
  fun j1 => .iteB 1 14 (j1)
  (.ret 18 (0, 2))
  (.ite 3 17 (a1 < 0)
  (.ite 7 23 (a0 < (IntKind.i64.wrap ((-9223372036854775808) - a1)))
  (.ret 8 (0, 2))
  (.ret 11 (IntKind.i64.wrap (a0 + a1), 0)))
  (.ret 18 (IntKind.i64.wrap (a0 + a1), 0))))
noncomputable abbrev F_thrumref02_Size : Fe := .of Tryz.prog 151 en_fix_Add
def S_thrumref02_Size_l0 (a0 : List Int) (x0 : Int) (x1 : Int) : St := ⟨[(14, nI x0), (13, nI (a0.length : Int)), (12, lI a0), (4, nI x1)], []⟩
def E_thrumref02_Size_l0 (a0 : List Int) (x : Int) : St := ⟨[(4, nI x)], []⟩
theorem ok_thrumref02_Size_l0 (a0 : List Int) : ∀ (x0 : Int) (x1 : Int), Ok (M_thrumref02_Size_l0 a0 x0 x1) (LR F_thrumref02_Size (.exit 0) (E_thrumref02_Size_l0 a0) 151 0 (S_thrumref02_Size_l0 a0 x0 x1)) := by
 refine M_thrumref02_Size_l0.partial_correctness a0 _ ?_
 intro f IH x0 x1
 exact Tr.lpR (F := F_thrumref02_Size) (X := Int × Int)
  (.ite 6 15 (x0 < (a0.length : Int))
   (.idx 6 eI a0 x0 <| .call 6 (ok_thrumref01_Abs (at' a0 x0)) nl_fix_Add fun r1 => .iteN 12 24 (r1.2 = 0)
   (.ret 12 (.inl (0, r1.2)))
   (.call 6 (ok_thrumref01_Add x1 r1.1) nl_fix_Add fun r2 => .iteN 11 33 (r2.2 = 0)
   (.ret 11 (.inl (0, r2.2)))
   (.again 7 (IntKind.i64.wrap (x0 + 1), r2.1))))
   (.ret 4 (.inr x1))) _ fun x r => IH x.1 x.2 r
theorem ok_thrumref02_Size (a0 : List Int) : HS 151 (M_thrumref02_Size a0) [.lst (List.map (D.int .i64) a0)] en_fix_Add := Tr.fn (F := F_thrumref02_Size)
 (.len 9 eI a0 <| .ite 2 11 ((a0.length : Int) > 4096)
  (.ret 8 (0, 3))
  (.len 10 eI a0 <| .loopR 4 id ⟨_, _, _, _, _, ok_thrumref02_Size_l0 a0 0 0⟩ fun j3 => .ret 8 (j3, 0)))
noncomputable abbrev F_thrumref11_Mean : Fe := .of Tryz.prog 97 en_fix_Add
theorem ok_thrumref11_Mean (a0 : List Int) : HS 97 (M_thrumref11_Mean a0) [.lst (List.map (D.int .i64) a0)] en_fix_Add := Tr.fn (F := F_thrumref11_Mean)
 (.len 9 eI a0 <| .ite 2 8 ((a0.length : Int) = 0)
  (.ret 8 (0, 1))
  (.call 5 (ok_thrumref02_Size a0) nl_fix_Add fun r1 => .iteN 12 15 (r1.2 = 0)
  (.ret 9 (0, r1.2))
  (.len 6 eI a0 <| .rd 0 ((a0.length : Int) ≠ 0) (nI (IntKind.i64.wrap (Int.tdiv r1.1 (a0.length : Int)))) <| .ret 4 (IntKind.i64.wrap (Int.tdiv r1.1 (a0.length : Int)), 0))))
def en_thrumref11_Press (v : Int × Int × Int × Int × (List Bool) × Int) : PV := .tup [.d (.agg [.int .i64 v.1, .int .i64 v.2.1, .lst [], .lst [], .int .i64 v.2.2.1, .int .i64 v.2.2.2.1, .lst [], .lst (List.map D.bool v.2.2.2.2.1)]), nI v.2.2.2.2.2]
noncomputable abbrev F_thrumref11_Press : Fe := .of Tryz.prog 37 en_thrumref11_Press
def S_thrumref11_Press_l0 (a0 : List Int) (r1 : Int × Int) (x0 : Int) (x1 : List Bool) : St := ⟨[(24, nI x0), (23, nI (a0.length : Int)), (22, lI a0), (6, .ptr (.s 6479) 0), (2, .ptr (.s 15) 0)], [(.s 6479, [nI 3, nI (a0.length : Int), .nils, .nils, nI r1.1, nI 0, .nils, sB (.h 0) x1]), (.s 15, [nI 0, nI 0, .nils, .nils, nI 0, nI 0, .nils, .nils])]⟩
def E_thrumref11_Press_l0 (a0 : List Int) (r1 : Int × Int) (x : (List Bool)) : St := ⟨[(6, .ptr (.s 6479) 0), (2, .ptr (.s 15) 0)], [(.s 6479, [nI 3, nI (a0.length : Int), .nils, .nils, nI r1.1, nI 0, .nils, sB (.h 1) x]), (.s 15, [nI 0, nI 0, .nils, .nils, nI 0, nI 0, .nils, .nils])]⟩
theorem ok_thrumref11_Press_l0 (a0 : List Int) (r1 : Int × Int) : ∀ (x0 : Int) (x1 : List Bool), Ok (M_thrumref11_Press_l0 a0 r1 x0 x1) (LN F_thrumref11_Press (.exit 0) (E_thrumref11_Press_l0 a0 r1) 37 0 (S_thrumref11_Press_l0 a0 r1 x0 x1)) := by
 refine M_thrumref11_Press_l0.partial_correctness a0 r1 _ ?_
 intro f IH x0 x1
 exact Tr.lpN (F := F_thrumref11_Press) (X := Int × (List Bool))
  (.ite 6 25 (x0 < (a0.length : Int))
   (.idx 6 eI a0 x0 <| .app 9 eB 1 x1 [decide ((at' a0 x0) < 0)] <| .let_ (x1 ++ [decide ((at' a0 x0) < 0)] : List Bool) fun y2 => .again 8 (IntKind.i64.wrap (x0 + 1), y2))
   (.ret 4 x1)) _ fun x r => IH x.1 x.2 r
theorem ok_thrumref11_Press (a0 : List Int) : HS 37 (M_thrumref11_Press a0) [.lst (List.map (D.int .i64) a0)] en_thrumref11_Press := Tr.fn (F := F_thrumref11_Press)
 (.call 8 (ok_thrumref11_Mean a0) nl_fix_Add fun r1 => .iteN 12 15 (r1.2 = 0)
  (.ret 10 (0, 0, 0, 0, [], r1.2))
  (.len 5 eI a0 <| .len 9 eI a0 <| .loop 4 ⟨_, _, _, _, _, ok_thrumref11_Press_l0 a0 r1 0 []⟩ fun j4 => .ret 8 (3, (a0.length : Int), r1.1, 0, j4, 0)))
def en_thrumref12_Press (v : Int × Int × (List Int) × (List Int) × Int × Int × (List Int) × (List Bool) × Int) : PV := .tup [.d (.agg [.int .i64 v.1, .int .i64 v.2.1, .lst (List.map (D.int .i64) v.2.2.1), .lst (List.map (D.int .i64) v.2.2.2.1), .int .i64 v.2.2.2.2.1, .int .i64 v.2.2.2.2.2.1, .lst (List.map (D.int .u64) v.2.2.2.2.2.2.1), .lst (List.map D.bool v.2.2.2.2.2.2.2.1)]), nI v.2.2.2.2.2.2.2.2]
noncomputable abbrev F_thrumref12_Press : Fe := .of Tryz.prog 12 en_thrumref12_Press
theorem ok_thrumref12_Press (a0 : T_api_How) (a1 : List Int) (a2 : Int) (a3 : List Int) : HS 12 (M_thrumref12_Press a0 a1 a2 a3) [.agg [.int .i64 a0.F_Scheme, .int .i64 a0.F_K, .int .i64 a0.F_Wide], .lst (List.map (D.int .i64) a1), .int .u64 a2, .lst (List.map (D.int .i64) a3)] en_thrumref12_Press := Tr.fn (F := F_thrumref12_Press)
 (.len 10 eI a1 <| .ite 2 13 ((a1.length : Int) > 4096)
  (.ret 9 (0, 0, [], [], 0, 0, [], [], 3))
  (.len 7 eI a1 <| .call 0 (ok_thrumref12_Check a0 (a1.length : Int)) nl_vec_pair fun r1 => .iteN 7 20 (r1 = 0)
  (.ret 10 (0, 0, [], [], 0, 0, [], [], r1))
  (.ite 14 25 (a0.F_Scheme = 1)
  (.callZ 6 (ok_thrumref09_Press a0.F_K a1) fun r2 => .ret 8 (r2.1, r2.2.1, r2.2.2.1, r2.2.2.2.1, r2.2.2.2.2.1, r2.2.2.2.2.2.1, [], [], r2.2.2.2.2.2.2))
  (.ite 6 33 (a0.F_Scheme = 2)
  (.callZ 8 (ok_thrumref10_Press a1 a0.F_Wide a2 a3) fun r3 => .ret 8 (r3.1, r3.2.1, [], [], r3.2.2.1, r3.2.2.2.1, r3.2.2.2.2.1, r3.2.2.2.2.2.1, r3.2.2.2.2.2.2))
  (.ite 6 43 (a0.F_Scheme = 3)
  (.callZ 4 (ok_thrumref11_Press a1) fun r4 => .ret 8 (r4.1, r4.2.1, [], [], r4.2.2.1, r4.2.2.2.1, [], r4.2.2.2.2.1, r4.2.2.2.2.2))
  (.len 6 eI a1 <| .appN 1 eI 8 a1 <| .ret 5 (0, (a1.length : Int), [], a1, 0, 0, [], [], 0)))))))
noncomputable abbrev F_thrumref02_two : Fe := .of Tryz.prog 98 en_vec_pair
theorem ok_thrumref02_two (a0 : List Int) (a1 : List Int) : HS 98 (M_thrumref02_two a0 a1) [.lst (List.map (D.int .i64) a0), .lst (List.map (D.int .i64) a1)] en_vec_pair := Tr.fn (F := F_thrumref02_two)
 (.len 8 eI a0 <| .join 2 4 (γ := Bool) ⟨fun x => [(12, bB x)], [0, 1], fun _ => [], []⟩
  (.ite 0 8 ((a0.length : Int) > 4096)
  (.ret 5 true)
  (.len 1 eI a1 <| .ret 3 (decide ((a1.length : Int) > 4096))))
  fun j1 => .iteB 1 12 (j1)
  (.ret 7 3)
  (.len 6 eI a0 <| .len 1 eI a1 <| .iteN 2 17 ((a0.length : Int) = (a1.length : Int))
  (.ret 7 4)
  (.ret 7 0)))
noncomputable abbrev F_thrumref02_Add : Fe := .of Tryz.prog 38 en_vec_each_vec_Add_1
def S_thrumref02_Add_l0 (a0 : List Int) (a1 : List Int) (x0 : Int) (x1 : List Int) : St := ⟨[(19, nI x0), (18, nI (a0.length : Int)), (7, sI (.h 0) x1), (0, lI a0), (1, lI a1)], []⟩
def E_thrumref02_Add_l0 (a0 : List Int) (a1 : List Int) (x : (List Int)) : St := ⟨[(7, sI (.h 1) x)], []⟩
theorem ok_thrumref02_Add_l0 (a0 : List Int) (a1 : List Int) : ∀ (x0 : Int) (x1 : List Int), Ok (M_thrumref02_Add_l0 a0 a1 x0 x1) (LR F_thrumref02_Add (.exit 0) (E_thrumref02_Add_l0 a0 a1) 38 0 (S_thrumref02_Add_l0 a0 a1 x0 x1)) := by
 refine M_thrumref02_Add_l0.partial_correctness a0 a1 _ ?_
 intro f IH x0 x1
 exact Tr.lpR (F := F_thrumref02_Add) (X := Int × (List Int))
  (.ite 6 20 (x0 < (a0.length : Int))
   (.idx 13 eI a0 x0 <| .idx 3 eI a1 x0 <| .call 1 (ok_thrumref01_Add (at' a0 x0) (at' a1 x0)) nl_fix_Add fun r2 => .iteN 12 35 (r2.2 = 0)
   (.ret 12 (.inl ([], r2.2)))
   (.app 6 eI 8 x1 [r2.1] <| .again 7 (IntKind.i64.wrap (x0 + 1), x1 ++ [r2.1])))
   (.ret 4 (.inr x1))) _ fun x r => IH x.1 x.2 r
theorem ok_thrumref02_Add (a0 : List Int) (a1 : List Int) : HS 38 (M_thrumref02_Add a0 a1) [.lst (List.map (D.int .i64) a0), .lst (List.map (D.int .i64) a1)] en_vec_each_vec_Add_1 := Tr.fn (F := F_thrumref02_Add)
 (.call 10 (ok_thrumref02_two a0 a1) nl_vec_pair fun r1 => .iteN 7 15 (r1 = 0)
  (.ret 9 ([], r1))
  (.len 10 eI a0 <| .loopR 4 id ⟨_, _, _, _, _, ok_thrumref02_Add_l0 a0 a1 0 []⟩ fun j3 => .ret 8 (j3, 0)))
noncomputable abbrev F_thrumref06_rises : Fe := .of Tryz.prog 156 en_press_bare
def S_thrumref06_rises_l0 (a0 : List Int) (x0 : Int) : St := ⟨[(3, nI x0), (0, lI a0)], []⟩
def E_thrumref06_rises_l0 (a0 : List Int) (x : Unit) : St := ⟨[], []⟩
theorem ok_thrumref06_rises_l0 (a0 : List Int) : ∀ (x0 : Int), Ok (M_thrumref06_rises_l0 a0 x0) (LR F_thrumref06_rises (.exit 0) (E_thrumref06_rises_l0 a0) 156 0 (S_thrumref06_rises_l0 a0 x0)) := by
 refine M_thrumref06_rises_l0.partial_correctness a0 _ ?_
 intro f IH x0
 exact Tr.lpR (F := F_thrumref06_rises) (X := Int)
  (.len 6 eI a0 <| .ite 2 7 (x0 < (a0.length : Int))
   (.idx 8 eI a0 x0 <| .idx 4 eI a0 (IntKind.i64.wrap (x0 - 1)) <| .ite 3 19 ((at' a0 x0) ≤ (at' a0 (IntKind.i64.wrap (x0 - 1))))
   (.ret 9 (.inl false))
   (.again 8 (IntKind.i64.wrap (x0 + 1))))
   (.ret 4 (.inr ()))) _ fun x r => IH x r
theorem ok_thrumref06_rises (a0 : List Int) : HS 156 (M_thrumref06_rises a0) [.lst (List.map (D.int .i64) a0)] en_press_bare := Tr.fn (F := F_thrumref06_rises)
 (.loopR 11 id ⟨_, _, _, _, _, ok_thrumref06_rises_l0 a0 1⟩ fun j1 => .ret 6 true)
noncomputable abbrev F_thrumref06_Check : Fe := .of Tryz.prog 105 en_vec_pair
def S_thrumref06_Check_l0 (a0 : Int) (a1 : List Int) (x0 : Int) : St := ⟨[(20, nI x0), (19, nI (a1.length : Int)), (18, lI a1), (0, nI a0)], []⟩
def E_thrumref06_Check_l0 (a0 : Int) (a1 : List Int) (x : Unit) : St := ⟨[], []⟩
theorem ok_thrumref06_Check_l0 (a0 : Int) (a1 : List Int) : ∀ (x0 : Int), Ok (M_thrumref06_Check_l0 a0 a1 x0) (LR F_thrumref06_Check (.exit 0) (E_thrumref06_Check_l0 a0 a1) 105 0 (S_thrumref06_Check_l0 a0 a1 x0)) := by
 refine M_thrumref06_Check_l0.partial_correctness a0 a1 _ ?_
 intro f IH x0
 exact Tr.lpR (F := F_thrumref06_Check) (X := Int)
  (.ite 6 21 (x0 < (a1.length : Int))
   (.idx 6 eI a1 x0 <| .join 8 4 (γ := Bool) ⟨fun x => [(30, bB x)], [20, 19, 18, 0], fun _ => [], []⟩
   (.ite 0 26 ((at' a1 x0) < 0)
   (.ret 5 true)
   (.ret 5 (decide ((at' a1 x0) ≥ a0))))
   fun j4 => .iteB 1 30 (j4)
   (.ret 9 (.inl 1))
   (.again 7 (IntKind.i64.wrap (x0 + 1))))
   (.ret 4 (.inr ()))) _ fun x r => IH x r
theorem ok_thrumref06_Check (a0 : Int) (a1 : List Int) : HS 105 (M_thrumref06_Check a0 a1) [.int .i64 a0, .lst (List.map (D.int .i64) a1)] en_vec_pair := Tr.fn (F := F_thrumref06_Check)
 (.join 10 3 (γ := Bool) ⟨fun x => [(12, bB x)], [0, 1], fun _ => [], []⟩
  (.ite 0 9 (a0 < 1)
  (.ret 4 true)
  (.ret 4 (decide (a0 > 4096))))
  fun j1 => .join 1 4 (γ := Bool) ⟨fun x => [(17, bB x)], [0, 1], fun _ => [], []⟩
  (.iteB 0 13 (j1)
  (.ret 5 true)
  (.call 1 (ok_thrumref06_rises a1) nl_press_bare fun r2 => .ret 3 (!r2)))
  fun j3 => .iteB 1 17 (j3)
  (.ret 7 1)
  (.len 6 eI a1 <| .loopR 4 id ⟨_, _, _, _, _, ok_thrumref06_Check_l0 a0 a1 0⟩ fun j5 => .ret 6 0))
noncomputable abbrev F_thrumref05_Width : Fe := .of Tryz.prog 106 en_vec_pair
def S_thrumref05_Width_l0 (x0 : Int) (x1 : Int) : St := ⟨[(3, nI x0), (0, nU x1)], []⟩
def E_thrumref05_Width_l0 (x : Int) : St := ⟨[(3, nI x)], []⟩
theorem ok_thrumref05_Width_l0 : ∀ (x0 : Int) (x1 : Int), Ok (M_thrumref05_Width_l0 x0 x1) (LN F_thrumref05_Width (.exit 0) E_thrumref05_Width_l0 106 0 (S_thrumref05_Width_l0 x0 x1)) := by
 refine M_thrumref05_Width_l0.partial_correctness _ ?_
 intro f IH x0 x1
 exact Tr.lpN (F := F_thrumref05_Width) (X := Int × Int)
  (.ite 7 5 (x1 > 0)
   (.again 15 (IntKind.i64.wrap (x0 + 1), IntKind.u64.wrap (Int.tdiv x1 2)))
   (.ret 4 x0)) _ fun x r => IH x.1 x.2 r
theorem ok_thrumref05_Width (a0 : Int) : HS 106 (M_thrumref05_Width a0) [.int .u64 a0] en_vec_pair := Tr.fn (F := F_thrumref05_Width)
 (.loop 11 ⟨_, _, _, _, _, ok_thrumref05_Width_l0 0 a0⟩ fun j1 => .ret 7 j1)
noncomputable abbrev F_thrumref07_May : Fe := .of Tryz.prog 48 en_press_bare
def S_thrumref07_May_l0 (a0 : T_api_Sent) (j2 : Bool) (x0 : Int) : St := ⟨[(110, nI x0), (109, nI (a0.F_Lev.length : Int)), (108, lU a0.F_Lev), (3, bB j2), (1, .ptr (.s 15) 0)], [(.s 15, [nI a0.F_Scheme, nI a0.F_Dim, lI a0.F_L, lI a0.F_V, nI a0.F_Scale, nI a0.F_Wide, lU a0.F_Lev, lB a0.F_Neg])]⟩
def E_thrumref07_May_l0 (a0 : T_api_Sent) (j2 : Bool) (x : Unit) : St := ⟨[(3, bB j2), (1, .ptr (.s 15) 0)], [(.s 15, [nI a0.F_Scheme, nI a0.F_Dim, lI a0.F_L, lI a0.F_V, nI a0.F_Scale, nI a0.F_Wide, lU a0.F_Lev, lB a0.F_Neg])]⟩
theorem ok_thrumref07_May_l0 (a0 : T_api_Sent) (j2 : Bool) : ∀ (x0 : Int), Ok (M_thrumref07_May_l0 a0 j2 x0) (LR F_thrumref07_May (.exit 1) (E_thrumref07_May_l0 a0 j2) 48 0 (S_thrumref07_May_l0 a0 j2 x0)) := by
 refine M_thrumref07_May_l0.partial_correctness a0 j2 _ ?_
 intro f IH x0
 exact Tr.lpR (F := F_thrumref07_May) (X := Int)
  (.ite 6 111 (x0 < (a0.F_Lev.length : Int))
   (.idx 6 eU a0.F_Lev x0 <| .call 8 (ok_thrumref05_Width (at' a0.F_Lev x0)) nl_vec_pair fun r14 => .hold 1 [] <| .ite 3 118 (r14 > a0.F_Wide)
   (.ret 9 (.inl false))
   (.again 7 (IntKind.i64.wrap (x0 + 1))))
   (.ret 4 (.inr ()))) _ fun x r => IH x r
theorem ok_thrumref07_May (a0 : T_api_Sent) : HS 48 (M_thrumref07_May a0) [.agg [.int .i64 a0.F_Scheme, .int .i64 a0.F_Dim, .lst (List.map (D.int .i64) a0.F_L), .lst (List.map (D.int .i64) a0.F_V), .int .i64 a0.F_Scale, .int .i64 a0.F_Wide, .lst (List.map (D.int .u64) a0.F_Lev), .lst (List.map D.bool a0.F_Neg)]] en_press_bare := Tr.fn (F := F_thrumref07_May)
 (.join 12 4 (γ := Bool) ⟨fun x => [(15, bB x)], [1], fun _ => [], [.s 15]⟩
  (.ite 0 11 (a0.F_Dim < 1)
  (.ret 5 true)
  (.ret 5 (decide (a0.F_Dim > 4096))))
  fun j1 => .iteB 1 15 (j1)
  (.ret 7 false)
  (.len 6 eI a0.F_L <| .join 2 5 (γ := Bool) ⟨fun x => [(25, bB x)], [1], fun _ => [], [.s 15]⟩
  (.ite 0 20 ((a0.F_L.length : Int) = 0)
  (.len 2 eI a0.F_V <| .ret 3 ((a0.F_V.length : Int) == 0))
  (.ret 6 false))
  fun j2 => .join 8 5 (γ := Bool) ⟨fun x => [(34, bB x)], [3, 1], fun _ => [], [.s 15]⟩
  (.ite 0 29 (a0.F_Wide = 0)
  (.len 2 eU a0.F_Lev <| .ret 3 ((a0.F_Lev.length : Int) == 0))
  (.ret 6 false))
  fun j3 => .join 8 5 (γ := Bool) ⟨fun x => [(43, bB x)], [4, 3, 1], fun _ => [], [.s 15]⟩
  (.ite 0 38 (a0.F_Scale = 0)
  (.len 2 eB a0.F_Neg <| .ret 3 ((a0.F_Neg.length : Int) == 0))
  (.ret 6 false))
  fun j4 => .ite 14 46 (a0.F_Scheme = 0)
  (.len 5 eI a0.F_L <| .join 2 7 (γ := Bool) ⟨fun x => [(59, bB x)], [5, 4], fun _ => [], []⟩
  (.ite 0 52 ((a0.F_L.length : Int) = 0)
  (.len 2 eI a0.F_V <| .ret 5 ((a0.F_V.length : Int) == a0.F_Dim))
  (.ret 8 false))
  fun j5 => .join 1 2 (γ := Bool) ⟨fun x => [(62, bB x)], [5], fun _ => [], []⟩
  (.iteB 0 60 (j5)
  (.ret 3 j3)
  (.ret 3 false))
  fun j6 => .join 1 2 (γ := Bool) ⟨fun x => [(65, bB x)], [], fun _ => [], []⟩
  (.iteB 0 63 (j6)
  (.ret 3 j4)
  (.ret 3 false))
  fun j7 => .ret 5 j7)
  (.ite 6 66 (a0.F_Scheme = 1)
  (.call 7 (ok_thrumref06_Check a0.F_Dim a0.F_L) nl_vec_pair fun r8 => .join 2 8 (γ := Bool) ⟨fun x => [(82, bB x)], [5, 4], fun _ => [], []⟩
  (.ite 0 74 (r8 = 0)
  (.len 2 eI a0.F_V <| .len 2 eI a0.F_L <| .ret 3 ((a0.F_V.length : Int) == (a0.F_L.length : Int)))
  (.ret 9 false))
  fun j9 => .join 1 2 (γ := Bool) ⟨fun x => [(85, bB x)], [5], fun _ => [], []⟩
  (.iteB 0 83 (j9)
  (.ret 3 j3)
  (.ret 3 false))
  fun j10 => .join 1 2 (γ := Bool) ⟨fun x => [(88, bB x)], [], fun _ => [], []⟩
  (.iteB 0 86 (j10)
  (.ret 3 j4)
  (.ret 3 false))
  fun j11 => .ret 5 j11)
  (.ite 6 89 (a0.F_Scheme = 2)
  (.join 8 4 (γ := Bool) ⟨fun x => [(98, bB x)], [3, 1], fun _ => [], [.s 15]⟩
  (.ite 0 94 (a0.F_Wide < 1)
  (.ret 5 true)
  (.ret 5 (decide (a0.F_Wide > 8))))
  fun j12 => .join 1 7 (γ := Bool) ⟨fun x => [(106, bB x)], [3, 1], fun _ => [], [.s 15]⟩
  (.iteB 0 99 (j12)
  (.ret 8 true)
  (.len 2 eU a0.F_Lev <| .ret 5 ((a0.F_Lev.length : Int) != a0.F_Dim)))
  fun j13 => .iteB 1 106 (j13)
  (.ret 9 false)
  (.len 7 eU a0.F_Lev <| .loopR 4 id ⟨_, _, _, _, _, ok_thrumref07_May_l0 a0 j2 0⟩ fun j15 => .join 5 4 (γ := Bool) ⟨fun x => [(125, bB x)], [1], fun _ => [], [.s 15]⟩
  (.iteB 0 121 (j2)
  (.ret 5 (decide (a0.F_Scale ≥ 0)))
  (.ret 5 false))
  fun j16 => .join 1 7 (γ := Bool) ⟨fun x => [(133, bB x)], [], fun _ => [], []⟩
  (.iteB 0 126 (j16)
  (.len 2 eB a0.F_Neg <| .ret 5 ((a0.F_Neg.length : Int) == a0.F_Dim))
  (.ret 8 false))
  fun j17 => .ret 5 j17))
  (.ite 6 134 (a0.F_Scheme = 3)
  (.join 5 2 (γ := Bool) ⟨fun x => [(139, bB x)], [1], fun _ => [], [.s 15]⟩
  (.iteB 0 137 (j2)
  (.ret 3 j3)
  (.ret 3 false))
  fun j18 => .join 1 4 (γ := Bool) ⟨fun x => [(144, bB x)], [1], fun _ => [], [.s 15]⟩
  (.iteB 0 140 (j18)
  (.ret 5 (decide (a0.F_Scale ≥ 0)))
  (.ret 5 false))
  fun j19 => .join 1 7 (γ := Bool) ⟨fun x => [(152, bB x)], [], fun _ => [], []⟩
  (.iteB 0 145 (j19)
  (.len 2 eB a0.F_Neg <| .ret 5 ((a0.F_Neg.length : Int) == a0.F_Dim))
  (.ret 8 false))
  fun j20 => .ret 5 j20)
  (.ret 8 false))))))
noncomputable abbrev F_thrumref10_Value : Fe := .of Tryz.prog 107 en_fix_Add
theorem ok_thrumref10_Value (a0 : Int) (a1 : Int) (a2 : Int) : HS 107 (M_thrumref10_Value a0 a1 a2) [.int .u64 a0, .int .i64 a1, .int .i64 a2] en_fix_Add := Tr.fn (F := F_thrumref10_Value)
 (.call 8 (ok_thrumref10_Steps a2) nl_quant_Steps fun r1 => .join 12 3 (γ := Bool) ⟨fun x => [(22, bB x)], [8, 0, 1], fun _ => [], []⟩
  (.iteN 0 19 (r1.2 = 0)
  (.ret 4 true)
  (.ret 4 (decide (a1 < 0))))
  fun j2 => .join 1 4 (γ := Bool) ⟨fun x => [(27, bB x)], [8, 0, 1], fun _ => [], []⟩
  (.iteB 0 23 (j2)
  (.ret 5 true)
  (.ret 5 (decide (a0 > r1.1))))
  fun j3 => .iteB 1 27 (j3)
  (.ret 8 (0, 1))
  (.rd 7 (r1.1 ≠ 0) (nU (IntKind.u64.wrap (Int.tdiv (IntKind.u64.wrap a1) r1.1))) <| .rd 7 (r1.1 ≠ 0) (nU (Int.tmod (IntKind.u64.wrap a1) r1.1)) <| .let_ (IntKind.u64.wrap ((Int.tmod (IntKind.u64.wrap a1) r1.1) * a0) : Int) fun y4 => .let_ (IntKind.u64.wrap ((IntKind.u64.wrap (Int.tdiv (IntKind.u64.wrap a1) r1.1)) * a0) : Int) fun y6 => .rd 11 (r1.1 ≠ 0) (nU (IntKind.u64.wrap (Int.tdiv y4 r1.1))) <| .ret 6 (IntKind.i64.wrap (IntKind.u64.wrap (y6 + (IntKind.u64.wrap (Int.tdiv y4 r1.1)))), 0)))
noncomputable abbrev F_thrumref10_Loosen : Fe := .of Tryz.prog 49 en_vec_each_vec_Add_1
def S_thrumref10_Loosen_l0 (a0 : T_api_Sent) (x0 : Int) (x1 : List Int) : St := ⟨[(20, nI x0), (19, nI (a0.F_Lev.length : Int)), (18, lU a0.F_Lev), (4, sI (.h 0) x1), (1, .ptr (.s 15) 0)], [(.s 15, [nI a0.F_Scheme, nI a0.F_Dim, lI a0.F_L, lI a0.F_V, nI a0.F_Scale, nI a0.F_Wide, lU a0.F_Lev, lB a0.F_Neg])]⟩
def E_thrumref10_Loosen_l0 (a0 : T_api_Sent) (x : (List Int)) : St := ⟨[(4, sI (.h 1) x)], []⟩
theorem ok_thrumref10_Loosen_l0 (a0 : T_api_Sent) : ∀ (x0 : Int) (x1 : List Int), Ok (M_thrumref10_Loosen_l0 a0 x0 x1) (LN F_thrumref10_Loosen (.exit 0) (E_thrumref10_Loosen_l0 a0) 49 0 (S_thrumref10_Loosen_l0 a0 x0 x1)) := by
 refine M_thrumref10_Loosen_l0.partial_correctness a0 _ ?_
 intro f IH x0 x1
 exact Tr.lpN (F := F_thrumref10_Loosen) (X := Int × (List Int))
  (.ite 6 21 (x0 < (a0.F_Lev.length : Int))
   (.idx 7 eU a0.F_Lev x0 <| .call 11 (ok_thrumref10_Value (at' a0.F_Lev x0) a0.F_Scale a0.F_Wide) nl_fix_Add fun r3 => .idx 12 eB a0.F_Neg x0 <| .iteB 2 38 (at' a0.F_Neg x0)
   (.app 10 eI 8 x1 [IntKind.i64.wrap (0 - r3.1)] <| .let_ (x1 ++ [IntKind.i64.wrap (0 - r3.1)] : List Int) fun y4 => .again 7 (IntKind.i64.wrap (x0 + 1), y4))
   (.app 6 eI 8 x1 [r3.1] <| .again 7 (IntKind.i64.wrap (x0 + 1), x1 ++ [r3.1])))
   (.ret 4 x1)) _ fun x r => IH x.1 x.2 r
theorem ok_thrumref10_Loosen (a0 : T_api_Sent) : HS 49 (M_thrumref10_Loosen a0) [.agg [.int .i64 a0.F_Scheme, .int .i64 a0.F_Dim, .lst (List.map (D.int .i64) a0.F_L), .lst (List.map (D.int .i64) a0.F_V), .int .i64 a0.F_Scale, .int .i64 a0.F_Wide, .lst (List.map (D.int .u64) a0.F_Lev), .lst (List.map D.bool a0.F_Neg)]] en_vec_each_vec_Add_1 := Tr.fn (F := F_thrumref10_Loosen)
 (.call 10 (ok_thrumref07_May a0) nl_press_bare fun r1 => .join 2 4 (γ := Bool) ⟨fun x => [(16, bB x)], [1], fun _ => [], [.s 15]⟩
  (.iteX 0 12 (r1)
  (.ret 5 true)
  (.ret 5 (a0.F_Scheme != 2)))
  fun j2 => .iteB 1 16 (j2)
  (.ret 8 ([], 1))
  (.len 11 eU a0.F_Lev <| .loop 4 ⟨_, _, _, _, _, ok_thrumref10_Loosen_l0 a0 0 []⟩ fun j6 => .ret 8 (j6, 0)))
noncomputable abbrev F_thrumref11_Loosen : Fe := .of Tryz.prog 50 en_vec_each_vec_Add_1
def S_thrumref11_Loosen_l0 (a0 : T_api_Sent) (x0 : Int) (x1 : List Int) : St := ⟨[(18, nI x0), (17, nI (a0.F_Neg.length : Int)), (16, lB a0.F_Neg), (4, sI (.h 0) x1), (1, .ptr (.s 15) 0)], [(.s 15, [nI a0.F_Scheme, nI a0.F_Dim, lI a0.F_L, lI a0.F_V, nI a0.F_Scale, nI a0.F_Wide, lU a0.F_Lev, lB a0.F_Neg])]⟩
def E_thrumref11_Loosen_l0 (a0 : T_api_Sent) (x : (List Int)) : St := ⟨[(4, sI (.h 1) x)], []⟩
theorem ok_thrumref11_Loosen_l0 (a0 : T_api_Sent) : ∀ (x0 : Int) (x1 : List Int), Ok (M_thrumref11_Loosen_l0 a0 x0 x1) (LN F_thrumref11_Loosen (.exit 0) (E_thrumref11_Loosen_l0 a0) 50 0 (S_thrumref11_Loosen_l0 a0 x0 x1)) := by
 refine M_thrumref11_Loosen_l0.partial_correctness a0 _ ?_
 intro f IH x0 x1
 exact Tr.lpN (F := F_thrumref11_Loosen) (X := Int × (List Int))
  (.ite 6 19 (x0 < (a0.F_Neg.length : Int))
   (.idx 6 eB a0.F_Neg x0 <| .iteB 7 22 (at' a0.F_Neg x0)
   (.app 7 eI 8 x1 [IntKind.i64.wrap (0 - a0.F_Scale)] <| .let_ (x1 ++ [IntKind.i64.wrap (0 - a0.F_Scale)] : List Int) fun y3 => .again 7 (IntKind.i64.wrap (x0 + 1), y3))
   (.app 6 eI 8 x1 [a0.F_Scale] <| .again 7 (IntKind.i64.wrap (x0 + 1), x1 ++ [a0.F_Scale])))
   (.ret 4 x1)) _ fun x r => IH x.1 x.2 r
theorem ok_thrumref11_Loosen (a0 : T_api_Sent) : HS 50 (M_thrumref11_Loosen a0) [.agg [.int .i64 a0.F_Scheme, .int .i64 a0.F_Dim, .lst (List.map (D.int .i64) a0.F_L), .lst (List.map (D.int .i64) a0.F_V), .int .i64 a0.F_Scale, .int .i64 a0.F_Wide, .lst (List.map (D.int .u64) a0.F_Lev), .lst (List.map D.bool a0.F_Neg)]] en_vec_each_vec_Add_1 := Tr.fn (F := F_thrumref11_Loosen)
 (.call 10 (ok_thrumref07_May a0) nl_press_bare fun r1 => .join 2 4 (γ := Bool) ⟨fun x => [(14, bB x)], [1], fun _ => [], [.s 15]⟩
  (.iteX 0 10 (r1)
  (.ret 5 true)
  (.ret 5 (a0.F_Scheme != 3)))
  fun j2 => .iteB 1 14 (j2)
  (.ret 8 ([], 1))
  (.len 11 eB a0.F_Neg <| .loop 4 ⟨_, _, _, _, _, ok_thrumref11_Loosen_l0 a0 0 []⟩ fun j5 => .ret 8 (j5, 0)))
noncomputable abbrev F_thrumref12_Loosen : Fe := .of Tryz.prog 24 en_vec_each_vec_Add_1
def S_thrumref12_Loosen_l0 (a0 : T_api_Sent) (x0 : Int) (x1 : List Int) : St := ⟨[(20, nI x0), (19, nI (a0.F_L.length : Int)), (18, lI a0.F_L), (4, sI (.h 0) x1), (1, .ptr (.s 15) 0)], [(.s 15, [nI a0.F_Scheme, nI a0.F_Dim, lI a0.F_L, lI a0.F_V, nI a0.F_Scale, nI a0.F_Wide, lU a0.F_Lev, lB a0.F_Neg])]⟩
def E_thrumref12_Loosen_l0 (a0 : T_api_Sent) (x : (List Int)) : St := ⟨[(4, sI (.h 1) x)], []⟩
theorem ok_thrumref12_Loosen_l0 (a0 : T_api_Sent) : ∀ (x0 : Int) (x1 : List Int), Ok (M_thrumref12_Loosen_l0 a0 x0 x1) (LN F_thrumref12_Loosen (.exit 1) (E_thrumref12_Loosen_l0 a0) 24 0 (S_thrumref12_Loosen_l0 a0 x0 x1)) := by
 refine M_thrumref12_Loosen_l0.partial_correctness a0 _ ?_
 intro f IH x0 x1
 exact Tr.lpN (F := F_thrumref12_Loosen) (X := Int × (List Int))
  (.ite 6 21 (x0 < (a0.F_L.length : Int))
   (.idx 7 eI a0.F_L x0 <| .idx 10 eI a0.F_V x0 <| .idx 1 eI x1 (at' a0.F_L x0) <| .sto 0 [4] eI x1 (at' a0.F_L x0) (at' a0.F_V x0) <| .let_ (x1.set (Int.toNat (at' a0.F_L x0)) (at' a0.F_V x0) : List Int) fun y4 => .again 6 (IntKind.i64.wrap (x0 + 1), y4))
   (.ret 4 x1)) _ fun x r => IH x.1 x.2 r
theorem ok_thrumref12_Loosen (a0 : T_api_Sent) : HS 24 (M_thrumref12_Loosen a0) [.agg [.int .i64 a0.F_Scheme, .int .i64 a0.F_Dim, .lst (List.map (D.int .i64) a0.F_L), .lst (List.map (D.int .i64) a0.F_V), .int .i64 a0.F_Scale, .int .i64 a0.F_Wide, .lst (List.map (D.int .u64) a0.F_Lev), .lst (List.map D.bool a0.F_Neg)]] en_vec_each_vec_Add_1 := Tr.fn (F := F_thrumref12_Loosen)
 (.call 10 (ok_thrumref07_May a0) nl_press_bare fun r1 => .iteX 2 9 (r1)
  (.ret 8 ([], 1))
  (.ite 14 12 (a0.F_Scheme = 1)
  (.mk 5 eI 8 0 a0.F_Dim a0.F_Dim <| .let_ (List.replicate (Int.toNat a0.F_Dim) 0 : List Int) fun y2 => .len 7 eI a0.F_L <| .loop 4 ⟨_, _, _, _, _, ok_thrumref12_Loosen_l0 a0 0 y2⟩ fun j6 => .ret 10 (j6, 0))
  (.ite 6 35 (a0.F_Scheme = 2)
  (.call 4 (ok_thrumref10_Loosen a0) nl_vec_each_vec_Add_1 fun r7 => .ret 8 (r7.1, r7.2))
  (.ite 6 41 (a0.F_Scheme = 3)
  (.call 4 (ok_thrumref11_Loosen a0) nl_vec_each_vec_Add_1 fun r8 => .ret 8 (r8.1, r8.2))
  (.appN 7 eI 8 a0.F_V <| .ret 4 (a0.F_V, 0))))))
noncomputable abbrev F_thrumref02_Sub : Fe := .of Tryz.prog 51 en_vec_each_vec_Add_1
def S_thrumref02_Sub_l0 (a0 : List Int) (a1 : List Int) (x0 : Int) (x1 : List Int) : St := ⟨[(19, nI x0), (18, nI (a0.length : Int)), (7, sI (.h 0) x1), (0, lI a0), (1, lI a1)], []⟩
def E_thrumref02_Sub_l0 (a0 : List Int) (a1 : List Int) (x : (List Int)) : St := ⟨[(7, sI (.h 1) x)], []⟩
theorem ok_thrumref02_Sub_l0 (a0 : List Int) (a1 : List Int) : ∀ (x0 : Int) (x1 : List Int), Ok (M_thrumref02_Sub_l0 a0 a1 x0 x1) (LR F_thrumref02_Sub (.exit 0) (E_thrumref02_Sub_l0 a0 a1) 51 0 (S_thrumref02_Sub_l0 a0 a1 x0 x1)) := by
 refine M_thrumref02_Sub_l0.partial_correctness a0 a1 _ ?_
 intro f IH x0 x1
 exact Tr.lpR (F := F_thrumref02_Sub) (X := Int × (List Int))
  (.ite 6 20 (x0 < (a0.length : Int))
   (.idx 13 eI a0 x0 <| .idx 3 eI a1 x0 <| .call 1 (ok_thrumref01_Sub (at' a0 x0) (at' a1 x0)) nl_fix_Add fun r2 => .iteN 12 35 (r2.2 = 0)
   (.ret 12 (.inl ([], r2.2)))
   (.app 6 eI 8 x1 [r2.1] <| .again 7 (IntKind.i64.wrap (x0 + 1), x1 ++ [r2.1])))
   (.ret 4 (.inr x1))) _ fun x r => IH x.1 x.2 r
theorem ok_thrumref02_Sub (a0 : List Int) (a1 : List Int) : HS 51 (M_thrumref02_Sub a0 a1) [.lst (List.map (D.int .i64) a0), .lst (List.map (D.int .i64) a1)] en_vec_each_vec_Add_1 := Tr.fn (F := F_thrumref02_Sub)
 (.call 10 (ok_thrumref02_two a0 a1) nl_vec_pair fun r1 => .iteN 7 15 (r1 = 0)
  (.ret 9 ([], r1))
  (.len 10 eI a0 <| .loopR 4 id ⟨_, _, _, _, _, ok_thrumref02_Sub_l0 a0 a1 0 []⟩ fun j3 => .ret 8 (j3, 0)))
noncomputable abbrev F_thrumref12_Left : Fe := .of Tryz.prog 25 en_vec_each_vec_Add_1
theorem ok_thrumref12_Left (a0 : List Int) (a1 : T_api_Sent) : HS 25 (M_thrumref12_Left a0 a1) [.lst (List.map (D.int .i64) a0), .agg [.int .i64 a1.F_Scheme, .int .i64 a1.F_Dim, .lst (List.map (D.int .i64) a1.F_L), .lst (List.map (D.int .i64) a1.F_V), .int .i64 a1.F_Scale, .int .i64 a1.F_Wide, .lst (List.map (D.int .u64) a1.F_Lev), .lst (List.map D.bool a1.F_Neg)]] en_vec_each_vec_Add_1 := Tr.fn (F := F_thrumref12_Left)
 (.call 9 (ok_thrumref12_Loosen a1) nl_vec_each_vec_Add_1 fun r1 => .iteN 12 14 (r1.2 = 0)
  (.ret 9 ([], r1.2))
  (.call 6 (ok_thrumref02_Sub a0 r1.1) nl_vec_each_vec_Add_1 fun r2 => .ret 6 (r2.1, r2.2)))
noncomputable abbrev F_thrumref12_Round : Fe := .of Tryz.prog 14 en_press_Round
theorem ok_thrumref12_Round (a0 : T_api_How) (a1 : List Int) (a2 : List Int) (a3 : Int) (a4 : List Int) : HS 14 (M_thrumref12_Round a0 a1 a2 a3 a4) [.agg [.int .i64 a0.F_Scheme, .int .i64 a0.F_K, .int .i64 a0.F_Wide], .lst (List.map (D.int .i64) a1), .lst (List.map (D.int .i64) a2), .int .u64 a3, .lst (List.map (D.int .i64) a4)] en_press_Round := Tr.fn (F := F_thrumref12_Round)
 (.call 11 (ok_thrumref02_Add a1 a2) nl_vec_each_vec_Add_1 fun r1 => .iteN 12 24 (r1.2 = 0)
  (.ret 11 (0, 0, [], [], 0, 0, [], [], [], r1.2))
  (.callZ 8 (ok_thrumref12_Press a0 r1.1 a3 a4) fun r2 => .iteN 13 36 (r2.2.2.2.2.2.2.2.2 = 0)
  (.ret 11 (0, 0, [], [], 0, 0, [], [], [], r2.2.2.2.2.2.2.2.2))
  (.call 6 (ok_thrumref12_Left r1.1 (⟨r2.1, r2.2.1, r2.2.2.1, r2.2.2.2.1, r2.2.2.2.2.1, r2.2.2.2.2.2.1, r2.2.2.2.2.2.2.1, r2.2.2.2.2.2.2.2.1⟩ : T_api_Sent)) nl_vec_each_vec_Add_1 fun r3 => .iteN 12 46 (r3.2 = 0)
  (.ret 11 (0, 0, [], [], 0, 0, [], [], [], r3.2))
  (.ret 11 (r2.1, r2.2.1, r2.2.2.1, r2.2.2.2.1, r2.2.2.2.2.1, r2.2.2.2.2.2.1, r2.2.2.2.2.2.2.1, r2.2.2.2.2.2.2.2.1, r3.1, 0)))))
noncomputable abbrev F_thrumref06_Equal : Fe := .of Tryz.prog 39 en_press_bare
def S_thrumref06_Equal_l0 (a0 : List Int) (a1 : List Int) (x0 : Int) : St := ⟨[(13, nI x0), (12, nI (a0.length : Int)), (0, lI a0), (1, lI a1)], []⟩
def E_thrumref06_Equal_l0 (a0 : List Int) (a1 : List Int) (x : Unit) : St := ⟨[], []⟩
theorem ok_thrumref06_Equal_l0 (a0 : List Int) (a1 : List Int) : ∀ (x0 : Int), Ok (M_thrumref06_Equal_l0 a0 a1 x0) (LR F_thrumref06_Equal (.exit 0) (E_thrumref06_Equal_l0 a0 a1) 39 0 (S_thrumref06_Equal_l0 a0 a1 x0)) := by
 refine M_thrumref06_Equal_l0.partial_correctness a0 a1 _ ?_
 intro f IH x0
 exact Tr.lpR (F := F_thrumref06_Equal) (X := Int)
  (.ite 6 14 (x0 < (a0.length : Int))
   (.idx 13 eI a0 x0 <| .idx 3 eI a1 x0 <| .iteN 3 24 ((at' a0 x0) = (at' a1 x0))
   (.ret 9 (.inl false))
   (.again 7 (IntKind.i64.wrap (x0 + 1))))
   (.ret 4 (.inr ()))) _ fun x r => IH x r
theorem ok_thrumref06_Equal (a0 : List Int) (a1 : List Int) : HS 39 (M_thrumref06_Equal a0 a1) [.lst (List.map (D.int .i64) a0), .lst (List.map (D.int .i64) a1)] en_press_bare := Tr.fn (F := F_thrumref06_Equal)
 (.len 8 eI a0 <| .len 1 eI a1 <| .iteN 2 10 ((a0.length : Int) = (a1.length : Int))
  (.ret 7 false)
  (.len 6 eI a0 <| .loopR 4 id ⟨_, _, _, _, _, ok_thrumref06_Equal_l0 a0 a1 0⟩ fun j1 => .ret 6 true))
noncomputable abbrev F_thrumref03_SameNumbers : Fe := .of Tryz.prog 40 en_press_bare
def S_thrumref03_SameNumbers_l0 (a0 : List Int) (a1 : List Int) (x0 : Int) : St := ⟨[(13, nI x0), (12, nI (a0.length : Int)), (0, lU a0), (1, lU a1)], []⟩
def E_thrumref03_SameNumbers_l0 (a0 : List Int) (a1 : List Int) (x : Unit) : St := ⟨[], []⟩
theorem ok_thrumref03_SameNumbers_l0 (a0 : List Int) (a1 : List Int) : ∀ (x0 : Int), Ok (M_thrumref03_SameNumbers_l0 a0 a1 x0) (LR F_thrumref03_SameNumbers (.exit 0) (E_thrumref03_SameNumbers_l0 a0 a1) 40 0 (S_thrumref03_SameNumbers_l0 a0 a1 x0)) := by
 refine M_thrumref03_SameNumbers_l0.partial_correctness a0 a1 _ ?_
 intro f IH x0
 exact Tr.lpR (F := F_thrumref03_SameNumbers) (X := Int)
  (.ite 6 14 (x0 < (a0.length : Int))
   (.idx 13 eU a0 x0 <| .idx 3 eU a1 x0 <| .iteN 3 24 ((at' a0 x0) = (at' a1 x0))
   (.ret 9 (.inl false))
   (.again 7 (IntKind.i64.wrap (x0 + 1))))
   (.ret 4 (.inr ()))) _ fun x r => IH x r
theorem ok_thrumref03_SameNumbers (a0 : List Int) (a1 : List Int) : HS 40 (M_thrumref03_SameNumbers a0 a1) [.lst (List.map (D.int .u64) a0), .lst (List.map (D.int .u64) a1)] en_press_bare := Tr.fn (F := F_thrumref03_SameNumbers)
 (.len 8 eU a0 <| .len 1 eU a1 <| .iteN 2 10 ((a0.length : Int) = (a1.length : Int))
  (.ret 7 false)
  (.len 6 eU a0 <| .loopR 4 id ⟨_, _, _, _, _, ok_thrumref03_SameNumbers_l0 a0 a1 0⟩ fun j1 => .ret 6 true))
noncomputable abbrev F_thrumref05_SameSigns : Fe := .of Tryz.prog 41 en_press_bare
def S_thrumref05_SameSigns_l0 (a0 : List Bool) (a1 : List Bool) (x0 : Int) : St := ⟨[(13, nI x0), (12, nI (a0.length : Int)), (0, lB a0), (1, lB a1)], []⟩
def E_thrumref05_SameSigns_l0 (a0 : List Bool) (a1 : List Bool) (x : Unit) : St := ⟨[], []⟩
theorem ok_thrumref05_SameSigns_l0 (a0 : List Bool) (a1 : List Bool) : ∀ (x0 : Int), Ok (M_thrumref05_SameSigns_l0 a0 a1 x0) (LR F_thrumref05_SameSigns (.exit 0) (E_thrumref05_SameSigns_l0 a0 a1) 41 0 (S_thrumref05_SameSigns_l0 a0 a1 x0)) := by
 refine M_thrumref05_SameSigns_l0.partial_correctness a0 a1 _ ?_
 intro f IH x0
 exact Tr.lpR (F := F_thrumref05_SameSigns) (X := Int)
  (.ite 6 14 (x0 < (a0.length : Int))
   (.idx 13 eB a0 x0 <| .idx 3 eB a1 x0 <| .iteN 3 24 ((at' a0 x0) = (at' a1 x0))
   (.ret 9 (.inl false))
   (.again 7 (IntKind.i64.wrap (x0 + 1))))
   (.ret 4 (.inr ()))) _ fun x r => IH x r
theorem ok_thrumref05_SameSigns (a0 : List Bool) (a1 : List Bool) : HS 41 (M_thrumref05_SameSigns a0 a1) [.lst (List.map D.bool a0), .lst (List.map D.bool a1)] en_press_bare := Tr.fn (F := F_thrumref05_SameSigns)
 (.len 8 eB a0 <| .len 1 eB a1 <| .iteN 2 10 ((a0.length : Int) = (a1.length : Int))
  (.ret 7 false)
  (.len 6 eB a0 <| .loopR 4 id ⟨_, _, _, _, _, ok_thrumref05_SameSigns_l0 a0 a1 0⟩ fun j1 => .ret 6 true))
noncomputable abbrev F_thrumref07_SameSent : Fe := .of Tryz.prog 15 en_press_bare
theorem ok_thrumref07_SameSent (a0 : T_api_Sent) (a1 : T_api_Sent) : HS 15 (M_thrumref07_SameSent a0 a1) [.agg [.int .i64 a0.F_Scheme, .int .i64 a0.F_Dim, .lst (List.map (D.int .i64) a0.F_L), .lst (List.map (D.int .i64) a0.F_V), .int .i64 a0.F_Scale, .int .i64 a0.F_Wide, .lst (List.map (D.int .u64) a0.F_Lev), .lst (List.map D.bool a0.F_Neg)], .agg [.int .i64 a1.F_Scheme, .int .i64 a1.F_Dim, .lst (List.map (D.int .i64) a1.F_L), .lst (List.map (D.int .i64) a1.F_V), .int .i64 a1.F_Scale, .int .i64 a1.F_Wide, .lst (List.map (D.int .u64) a1.F_Lev), .lst (List.map D.bool a1.F_Neg)]] en_press_bare := Tr.fn (F := F_thrumref07_SameSent)
 (.join 14 6 (γ := Bool) ⟨fun x => [(16, bB x)], [3, 2], fun _ => [], [.s 31, .s 15]⟩
  (.ite 0 10 (a0.F_Scheme = a1.F_Scheme)
  (.ret 7 (a0.F_Dim == a1.F_Dim))
  (.ret 7 false))
  fun j1 => .join 1 6 (γ := Bool) ⟨fun x => [(23, bB x)], [3, 2], fun _ => [], [.s 31, .s 15]⟩
  (.iteB 0 17 (j1)
  (.call 4 (ok_thrumref06_Equal a0.F_L a1.F_L) nl_press_bare fun r2 => .ret 2 r2)
  (.ret 7 false))
  fun j3 => .join 1 6 (γ := Bool) ⟨fun x => [(30, bB x)], [3, 2], fun _ => [], [.s 31, .s 15]⟩
  (.iteB 0 24 (j3)
  (.call 4 (ok_thrumref02_Same a0.F_V a1.F_V) nl_press_bare fun r4 => .ret 2 r4)
  (.ret 7 false))
  fun j5 => .join 1 6 (γ := Bool) ⟨fun x => [(37, bB x)], [3, 2], fun _ => [], [.s 31, .s 15]⟩
  (.iteB 0 31 (j5)
  (.ret 7 (a0.F_Scale == a1.F_Scale))
  (.ret 7 false))
  fun j6 => .join 1 6 (γ := Bool) ⟨fun x => [(44, bB x)], [3, 2], fun _ => [], [.s 31, .s 15]⟩
  (.iteB 0 38 (j6)
  (.ret 7 (a0.F_Wide == a1.F_Wide))
  (.ret 7 false))
  fun j7 => .join 1 6 (γ := Bool) ⟨fun x => [(51, bB x)], [3, 2], fun _ => [], [.s 31, .s 15]⟩
  (.iteB 0 45 (j7)
  (.call 4 (ok_thrumref03_SameNumbers a0.F_Lev a1.F_Lev) nl_press_bare fun r8 => .ret 2 r8)
  (.ret 7 false))
  fun j9 => .join 1 6 (γ := Bool) ⟨fun x => [(58, bB x)], [], fun _ => [], []⟩
  (.iteB 0 52 (j9)
  (.call 4 (ok_thrumref05_SameSigns a0.F_Neg a1.F_Neg) nl_press_bare fun r10 => .ret 2 r10)
  (.ret 7 false))
  fun j11 => .ret 3 j11)
noncomputable abbrev F_thrumlaw12_PressPresses : Fe := .of Tryz.prog 3 en_press_bare
def S_thrumlaw12_PressPresses_l0 (a0 : T_api_How) (a1 : List Int) (a5 : Int) (r1 : Bool) (r3 : Int × Int × (List Int) × (List Int) × Int × Int × (List Int) × (List Bool) × Int) (x0 : Int) (x1 : List Int) : St := ⟨[(103, nI x0), (102, nI (r3.2.2.2.1.length : Int)), (15, .ptr (.s 11343) 0), (14, sI (.s 9631) a1), (13, bB r1), (6, .ptr (.s 15) 0), (1, lI a1), (5, nI a5)], [(.s 11343, [nI r3.1, nI r3.2.1, sI (.s 11264) r3.2.2.1, sI (.h 0) x1, nI r3.2.2.2.2.1, nI r3.2.2.2.2.2.1, sU (.s 11266) r3.2.2.2.2.2.2.1, sB (.s 11267) r3.2.2.2.2.2.2.2.1]), (.s 15, [nI a0.F_Scheme, nI a0.F_K, nI a0.F_Wide])]⟩
def E_thrumlaw12_PressPresses_l0 (a0 : T_api_How) (a1 : List Int) (a5 : Int) (r1 : Bool) (r3 : Int × Int × (List Int) × (List Int) × Int × Int × (List Int) × (List Bool) × Int) (x : Unit) : St := ⟨[(14, sI (.s 9631) a1), (13, bB r1), (6, .ptr (.s 15) 0), (1, lI a1), (5, nI a5)], [(.s 15, [nI a0.F_Scheme, nI a0.F_K, nI a0.F_Wide])]⟩
theorem ok_thrumlaw12_PressPresses_l0 (a0 : T_api_How) (a1 : List Int) (a5 : Int) (r1 : Bool) (r3 : Int × Int × (List Int) × (List Int) × Int × Int × (List Int) × (List Bool) × Int) : ∀ (x0 : Int) (x1 : List Int), Ok (M_thrumlaw12_PressPresses_l0 a0 a1 a5 r1 r3 x0 x1) (LN F_thrumlaw12_PressPresses (.exit 0) (E_thrumlaw12_PressPresses_l0 a0 a1 a5 r1 r3) 3 0 (S_thrumlaw12_PressPresses_l0 a0 a1 a5 r1 r3 x0 x1)) := by
 refine M_thrumlaw12_PressPresses_l0.partial_correctness a0 a1 a5 r1 r3 _ ?_
 intro f IH x0 x1
 exact Tr.lpN (F := F_thrumlaw12_PressPresses) (X := Int × (List Int))
  (.ite 6 104 (x0 < (r3.2.2.2.1.length : Int))
   (.idx 13 eI x1 x0 <| .idx 2 eI x1 x0 <| .sto 0 [] eI x1 x0 (IntKind.i64.wrap ((at' x1 x0) + 1)) <| .let_ (x1.set (Int.toNat x0) (IntKind.i64.wrap ((at' x1 x0) + 1)) : List Int) fun y14 => .again 6 (IntKind.i64.wrap (x0 + 1), y14))
   (.ret 4 ())) _ fun x r => IH x.1 x.2 r
theorem ok_thrumlaw12_PressPresses (a0 : T_api_How) (a1 : List Int) (a2 : List Int) (a3 : Int) (a4 : List Int) (a5 : Int) : HS 3 (M_thrumlaw12_PressPresses a0 a1 a2 a3 a4 a5) [.agg [.int .i64 a0.F_Scheme, .int .i64 a0.F_K, .int .i64 a0.F_Wide], .lst (List.map (D.int .i64) a1), .lst (List.map (D.int .i64) a2), .int .u64 a3, .lst (List.map (D.int .i64) a4), .int .i64 a5] en_press_bare := Tr.fn (F := F_thrumlaw12_PressPresses)
 (.call 7 ok_thrumlaw12_live nl_press_bare fun r1 => .iteX 8 28 (r1)
  (.ret 7 false)
  (.call 9 (ok_thrumlaw12_few a4 [a1, a2]) nl_press_bare fun r2 => .iteX 2 34 (r2)
  (.ret 8 r1)
  (.appN 5 eI 8 a1 <| .call 8 (ok_press_Press a0 a1 a3 a4) nl_press_Press fun r3 => .callZ 13 (ok_thrumref12_Press a0 a1 a3 a4) fun r4 => .callZ 14 (ok_press_Round a0 a1 a2 a3 a4) fun r5 => .callZ 16 (ok_thrumref12_Round a0 a1 a2 a3 a4) fun r6 => .call 14 (ok_thrumref07_SameSent (⟨r3.1, r3.2.1, r3.2.2.1, r3.2.2.2.1, r3.2.2.2.2.1, r3.2.2.2.2.2.1, r3.2.2.2.2.2.2.1, r3.2.2.2.2.2.2.2.1⟩ : T_api_Sent) (⟨r4.1, r4.2.1, r4.2.2.1, r4.2.2.2.1, r4.2.2.2.2.1, r4.2.2.2.2.2.1, r4.2.2.2.2.2.2.1, r4.2.2.2.2.2.2.2.1⟩ : T_api_Sent)) nl_press_bare fun r7 => .join 2 4 (γ := Bool) ⟨fun x => [(82, bB x)], [24, 23, 22, 21, 20, 19, 15, 14, 13, 6, 1, 5], fun _ => [], [.s 16175, .s 14575, .s 11343, .s 15]⟩
  (.iteX 0 78 (r7)
  (.ret 5 true)
  (.ret 5 (r3.2.2.2.2.2.2.2.2 != r4.2.2.2.2.2.2.2.2)))
  fun j8 => .join 1 5 (γ := Bool) ⟨fun x => [(88, bB x)], [24, 23, 21, 20, 15, 14, 13, 6, 1, 5], fun _ => [], [.s 11343, .s 15]⟩
  (.iteB 0 83 (j8)
  (.ret 6 true)
  (.call 2 (ok_thrumref07_SameSent (⟨r5.1, r5.2.1, r5.2.2.1, r5.2.2.2.1, r5.2.2.2.2.1, r5.2.2.2.2.2.1, r5.2.2.2.2.2.2.1, r5.2.2.2.2.2.2.2.1⟩ : T_api_Sent) (⟨r6.1, r6.2.1, r6.2.2.1, r6.2.2.2.1, r6.2.2.2.2.1, r6.2.2.2.2.2.1, r6.2.2.2.2.2.2.1, r6.2.2.2.2.2.2.2.1⟩ : T_api_Sent)) nl_press_bare fun r9 => .ret 3 (!r9)))
  fun j10 => .join 1 5 (γ := Bool) ⟨fun x => [(94, bB x)], [24, 21, 15, 14, 13, 6, 1, 5], fun _ => [], [.s 11343, .s 15]⟩
  (.iteB 0 89 (j10)
  (.ret 6 true)
  (.call 2 (ok_thrumref02_Same r5.2.2.2.2.2.2.2.2.1 r6.2.2.2.2.2.2.2.2.1) nl_press_bare fun r11 => .ret 3 (!r11)))
  fun j12 => .join 1 4 (γ := Bool) ⟨fun x => [(99, bB x)], [15, 14, 13, 6, 1, 5], fun _ => [], [.s 11343, .s 15]⟩
  (.iteB 0 95 (j12)
  (.ret 5 true)
  (.ret 5 (r5.2.2.2.2.2.2.2.2.2 != r6.2.2.2.2.2.2.2.2.2)))
  fun j13 => .iteB 1 99 (j13)
  (.ret 7 false)
  (.len 7 eI r3.2.2.2.1 <| .loop 4 ⟨_, _, _, _, _, ok_thrumlaw12_PressPresses_l0 a0 a1 a5 r1 r3 0 r3.2.2.2.1⟩ fun j16 => .iteB 5 115 (r1)
  (.call 4 (ok_press_Check a0 a5) nl_vec_pair fun r17 => .hold 1 [] <| .call 0 (ok_thrumref12_Check a0 a5) nl_vec_pair fun r18 => .ite 3 124 (r17 = r18)
  (.call 2 (ok_thrumref02_Same a1 a1) nl_press_bare fun r19 => .ret 5 r19)
  (.ret 8 false))
  (.hold 6 [] <| .ret 12 false)))))
end Go.Proofs.YtdgdgfckcnjpfaaGreat.Abs
