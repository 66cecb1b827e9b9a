/- Walks of functions, printed by a program. Conditions: none. -/
import Derived.Test.YtaghpancpfpnhaaProg
import Derived.Test.YtaghpancpfpnhaaAM
namespace Go.Proofs.Ytaghpancpfpnhaa.Abs
open Go Go.RowKit
set_option linter.unusedVariables false
set_option maxRecDepth 100000
open Z
/-- thrum/index.measure. -/
def en_index_measure (v : Bool) : PV := bB v
def o49_0 : List AOper := [mb 2 0 false]
def o49_1 : List AOper := [mv 3 100 0, bc 4 101 .gtr 3 0, mv 5 102 4, gv 6 5 true 103 0, ⟨some 7, some (5, true), 104, .bin .leq .int (.t 6) (.c (.d (.int .i64 4096)))⟩, pk 8 105 5 7 false, mv 2 106 8]
def o49_1t3_6 : List AOper := (o49_1.drop 3).take 3
def c49_4 : AC := .seq (.reg o49_0) (.seq (.reg o49_1) .ret)
theorem fn49 : fnA Try.prog 49 = some (9, [.t 2], c49_4) := by kernel_rfl
theorem ok_index_measure (a0 : Int) : ∀ v, M_index_measure a0 = some v → EvF Try.prog 49 [.int .i64 a0] (en_index_measure v) := by
  intro v hv
  refine EvF_go fn49 (Nat.le_of_ble_eq_true rfl) ?_
  suffices h : Ok (M_index_measure a0) fun v => go Try.prog 9 (Fnl [.t 2] (en_index_measure v) []) [.c c49_4] .norm (initSt (List.map PV.d [.int .i64 a0]) []) from h v hv
  unfold M_index_measure
  refine Av 9 [.o false (o49_1.drop 3), .c .ret] ⟨[(5, bB (decide (a0 > 0))), (0, nI a0)], []⟩ ?_
  refine L_take 3 o49_1t3_6 (o49_1.drop 6) ?_
  refine L_join [.o false o49_1t3_6] [.o false (o49_1.drop 6), .c .ret] (fun x : Bool => ⟨[(8, bB x)], []⟩) ?_ (fun j1 => ?_)
  · refine L_split 5 rfl (fun _ => ?_) (fun _ => ?_)
    · refine Av 4 [] ⟨[(8, bB (decide (a0 ≤ 4096)))], []⟩ ?_
      exact L_end
    · refine Av 4 [] ⟨[(8, bB false)], []⟩ ?_
      exact L_end
  · refine Avk 3 [] .ret ⟨[(2, bB j1)], []⟩ ?_
    exact L_ret
/-- thrum/index.rises. -/
def en_index_rises (v : Bool) : PV := bB v
def o52_0 : List AOper := [mb 2 0 false]
def o52_1 : List AOper := [mi 3 100 1]
def o52_2 : List AOper := [mv 4 200 3, mv 5 201 0, ln 6 202 5, bi 7 203 .lss 4 6]
def o52_3 : List AOper := [mv 10 400 0, mv 11 401 3, bc 12 402 .sub 11 1, ⟨some 13, none, 403, .idxA 1 (.t 10) (.t 12)⟩, ld 14 404 13, mv 15 405 0, mv 16 406 3, ⟨some 17, none, 407, .idxA 1 (.t 15) (.t 16)⟩, ld 18 408 17, bi 19 409 .geq 14 18]
def o52_4 : List AOper := [mb 2 500 false]
def o52_5 : List AOper := [mv 8 300 3, bc 9 301 .add 8 1, mv 3 302 9]
def o52_6 : List AOper := [mb 2 600 true]
def c52_5 : AC := .cond (.t 7) .skip (.exit 0)
def c52_7 : AC := .draw [⟨mv 10 400 0, false, []⟩, ⟨mv 11 401 3, false, []⟩, ⟨bc 12 402 .sub 11 1, false, []⟩, ⟨⟨some 13, none, 403, .idxA 1 (.t 10) (.t 12)⟩, false, []⟩, ⟨ld 14 404 13, false, []⟩, ⟨mv 15 405 0, false, []⟩, ⟨mv 16 406 3, false, []⟩, ⟨⟨some 17, none, 407, .idxA 1 (.t 15) (.t 16)⟩, false, []⟩, ⟨ld 18 408 17, false, []⟩, ⟨bi 19 409 .geq 14 18, false, []⟩]
def c52_12 : AC := .cond (.t 19) (.seq (.reg o52_4) .ret) .skip
def c52_15 : AC := .reg o52_5
def c52_16 : AC := .seq (.block 1 (.seq c52_7 c52_12)) c52_15
def c52_17 : AC := .seq (.seq (.reg o52_2) c52_5) c52_16
def c52_23 : AC := .seq (.reg o52_6) .ret
def c52_25 : AC := .seq (.reg o52_0) (.seq (.seq (.reg o52_1) (.block 0 (.loop c52_17))) c52_23)
theorem fn52 : fnA Try.prog 52 = some (20, [.t 2], c52_25) := by kernel_rfl
def q_ok_index_rises_l0_ok (a0 : List Int) (x0 : Int) (v : (Sum Bool Unit)) : Prop := (fun v => go Try.prog 20 (PostR (fun r => Fnl [.t 2] (en_index_rises r) []) (.exit 0) (fun x : Unit => ⟨[], []⟩) v) [.l c52_17] .norm ⟨[(3, nI x0), (0, lI a0)], []⟩) v
theorem ok_index_rises_l0_ok (a0 : List Int) (x0 : Int) : Ok (M_index_rises_l0 a0 x0) (q_ok_index_rises_l0_ok a0 x0) := by
  refine M_index_rises_l0.partial_correctness a0 (q_ok_index_rises_l0_ok a0) ?_ x0
  clear x0
  intro f' IH x0
  refine okI ?_
  unfold q_ok_index_rises_l0_ok at *
  refine Av 1 [.c c52_17, .l c52_17] ⟨[(3, nI x0), (0, lI a0)], []⟩ ?_
  refine Av 5 [.o false (o52_2.drop 2), .c c52_5, .c c52_16, .l c52_17] ⟨[(5, lI a0), (4, nI x0), (3, nI x0), (0, lI a0)], []⟩ ?_
  refine L_len (enc := D.int .i64) (l := a0) trivial rfl ?_
  refine Av 2 [.c c52_5, .c c52_16, .l c52_17] ⟨[(7, bB (decide (x0 < (a0.length : Int)))), (3, nI x0), (0, lI a0)], []⟩ ?_
  refine L_split 7 rfl (fun _ => ?_) (fun _ => ?_)
  · refine Av 5 [.c c52_7, .c c52_12, .b 1, .c c52_15, .l c52_17] ⟨[(3, nI x0), (0, lI a0)], []⟩ ?_
    refine Ae 4 [.o true (o52_3.drop 3), .c c52_12, .b 1, .c c52_15, .l c52_17] ⟨[(12, nI (IntKind.i64.wrap (x0 - 1))), (11, nI x0), (10, lI a0), (3, nI x0), (0, lI a0)], []⟩ ?_
    refine L_idxD (enc := D.int .i64) (l := a0) (iv := IntKind.i64.wrap (x0 - 1)) trivial rfl rfl (fun _ => rfl) (fun _ => ?_)
    refine Ae 3 [.o true (o52_3.drop 7), .c c52_12, .b 1, .c c52_15, .l c52_17] ⟨[(16, nI x0), (15, lI a0), (14, nI (at' a0 (IntKind.i64.wrap (x0 - 1)))), (13, .d (.cp [.int .i64 (at' a0 (IntKind.i64.wrap (x0 - 1)))] 0)), (12, nI (IntKind.i64.wrap (x0 - 1))), (11, nI x0), (10, lI a0), (3, nI x0), (0, lI a0)], []⟩ ?_
    refine L_idxD (enc := D.int .i64) (l := a0) (iv := x0) trivial rfl rfl (fun _ => rfl) (fun _ => ?_)
    refine Av 3 [.c c52_12, .b 1, .c c52_15, .l c52_17] ⟨[(19, bB (decide ((at' a0 (IntKind.i64.wrap (x0 - 1))) ≥ (at' a0 x0)))), (3, nI x0), (0, lI a0)], []⟩ ?_
    refine L_split 19 rfl (fun _ => ?_) (fun _ => ?_)
    · refine Avk 9 [] .ret ⟨[(2, bB false)], []⟩ ?_
      exact L_retR
    · refine Av 8 [.l c52_17] ⟨[(3, nI (IntKind.i64.wrap (x0 + 1))), (0, lI a0)], []⟩ ?_
      exact L_again (IH (IntKind.i64.wrap (x0 + 1)))
  · refine Avk 4 [] (.exit 0) ⟨[], []⟩ ?_
    exact L_endR
theorem ok_index_rises (a0 : List Int) : ∀ v, M_index_rises a0 = some v → EvF Try.prog 52 [.lst (List.map (D.int .i64) a0)] (en_index_rises v) := by
  intro v hv
  refine EvF_go fn52 (Nat.le_of_ble_eq_true rfl) ?_
  suffices h : Ok (M_index_rises a0) fun v => go Try.prog 20 (Fnl [.t 2] (en_index_rises v) []) [.c c52_25] .norm (initSt (List.map PV.d [.lst (List.map (D.int .i64) a0)]) []) from h v hv
  unfold M_index_rises
  refine Av 11 [.l c52_17, .b 0, .c c52_23] ⟨[(3, nI 1), (0, lI a0)], []⟩ ?_
  refine L_pieceR (fs := [.l c52_17]) (ks := [.b 0, .c c52_23]) (ok_index_rises_l0_ok a0 1) L_thru (fun j1 => ?_)
  refine Avk 6 [] .ret ⟨[(2, bB true)], []⟩ ?_
  exact L_ret
/-- thrum/index.Check. -/
def en_index_Check (v : Int) : PV := nI v
def o22_0 : List AOper := [mi 4 0 0]
def o22_1 : List AOper := [mv 6 100 1, ln 7 101 6, mv 5 102 7]
def o22_2 : List AOper := [mv 8 200 0, cl' 9 201 49 [.t 8], ⟨some 10, none, 202, .un .not (.t 9)⟩, mv 11 203 10, gv 12 11 false 204 1, ⟨some 13, some (11, false), 205, .call 52 [.t 12]⟩, ⟨some 14, some (11, false), 206, .un .not (.t 13)⟩, pz 15 207 11 14 true, mv 16 208 15, gv 17 16 false 209 5, ⟨some 18, some (16, false), 210, .bin .gtr .int (.t 17) (.c (.d (.int .i64 0)))⟩, gv 19 16 false 211 18, gv 20 19 true 212 1, ⟨some 21, some (19, true), 213, .idxA 1 (.t 20) (.c (.d (.int .i64 0)))⟩, ⟨some 22, some (19, true), 214, .load false 1 (.t 21)⟩, ⟨some 23, some (19, true), 215, .bin .lss .int (.t 22) (.c (.d (.int .i64 0)))⟩, gv 24 19 true 216 23, gv 25 24 false 217 1, gv 26 24 false 218 5, ⟨some 27, some (24, false), 219, .bin .sub .int (.t 26) (.c (.d (.int .i64 1)))⟩, ⟨some 28, some (24, false), 220, .idxA 1 (.t 25) (.t 27)⟩, ⟨some 29, some (24, false), 221, .load false 1 (.t 28)⟩, gv 30 24 false 222 0, ⟨some 31, some (24, false), 223, .bin .geq .int (.t 29) (.t 30)⟩, ⟨some 32, some (19, true), 224, .pick (.t 24) (.c (.d (.bool true))) (.t 31)⟩, ⟨some 33, some (16, false), 225, .pick (.t 19) (.t 32) (.c (.d (.bool false)))⟩, pz 34 226 16 33 true]
def o22_3 : List AOper := [mi 4 300 1]
def o22_4 : List AOper := [mi 4 400 0]
def o22_2t4_8 : List AOper := (o22_2.drop 4).take 4
def c22_7 : AC := .cond (.t 34) (.seq (.reg o22_3) .ret) .skip
def c22_11 : AC := .seq (.reg o22_4) .ret
def c22_12 : AC := .seq (.seq (.reg o22_2) c22_7) c22_11
def c22_14 : AC := .seq (.reg o22_0) (.seq (.reg o22_1) c22_12)
theorem fn22 : fnA Try.prog 22 = some (35, [.t 4], c22_14) := by kernel_rfl
theorem ok_index_Check (a0 : Int) (a1 : List Int) : ∀ v, M_index_Check a0 a1 = some v → EvF Try.prog 22 [.int .i64 a0, .lst (List.map (D.int .i64) a1)] (en_index_Check v) := by
  intro v hv
  refine EvF_go fn22 (Nat.le_of_ble_eq_true rfl) ?_
  suffices h : Ok (M_index_Check a0 a1) fun v => go Try.prog 35 (Fnl [.t 4] (en_index_Check v) []) [.c c22_14] .norm (initSt (List.map PV.d [.int .i64 a0, .lst (List.map (D.int .i64) a1)]) []) from h v hv
  unfold M_index_Check
  refine Av 7 [.o false (o22_1.drop 1), .c c22_12] ⟨[(6, lI a1), (0, nI a0), (1, lI a1)], []⟩ ?_
  refine L_len (enc := D.int .i64) (l := a1) trivial rfl ?_
  refine Av 6 [.o false (o22_2.drop 1), .c c22_7, .c c22_11] ⟨[(8, nI a0), (5, nI (a1.length : Int)), (0, nI a0), (1, lI a1)], []⟩ ?_
  refine L_call (ok_index_measure a0) trivial rfl (fun _ => rfl) (fun _ => trivial) (fun r1 => ?_)
  refine Av 2 [.o false (o22_2.drop 4), .c c22_7, .c c22_11] ⟨[(11, bB (!r1)), (5, nI (a1.length : Int)), (0, nI a0), (1, lI a1)], []⟩ ?_
  refine L_take 4 o22_2t4_8 (o22_2.drop 8) ?_
  refine L_join [.o false o22_2t4_8] [.o false (o22_2.drop 8), .c c22_7, .c c22_11] (fun x : Bool => ⟨[(15, bB x), (5, nI (a1.length : Int)), (0, nI a0), (1, lI a1)], []⟩) ?_ (fun j3 => ?_)
  · refine L_split 11 decF (fun _ => ?_) (fun _ => ?_)
    · refine Av 5 [] ⟨[(15, bB true), (5, nI (a1.length : Int)), (0, nI a0), (1, lI a1)], []⟩ ?_
      exact L_end
    · refine Av 1 [.o false (o22_2t4_8.drop 1)] ⟨[(12, lI a1), (11, bB false), (5, nI (a1.length : Int)), (0, nI a0), (1, lI a1)], []⟩ ?_
      refine L_call (ok_index_rises a1) rfl rfl (fun _ => rfl) (fun _ => trivial) (fun r2 => ?_)
      refine Av 3 [] ⟨[(15, bB (!r2)), (5, nI (a1.length : Int)), (0, nI a0), (1, lI a1)], []⟩ ?_
      exact L_end
  · refine Av 1 [.o false (o22_2.drop 9), .c c22_7, .c c22_11] ⟨[(16, bB j3), (5, nI (a1.length : Int)), (0, nI a0), (1, lI a1)], []⟩ ?_
    refine L_split 16 decT (fun _ => ?_) (fun _ => ?_)
    · refine Avk 26 [] .ret ⟨[(4, nI 1)], []⟩ ?_
      exact L_ret
    · refine Av 3 [.o false (o22_2.drop 12), .c c22_7, .c c22_11] ⟨[(19, bB (decide ((a1.length : Int) > 0))), (16, bB false), (5, nI (a1.length : Int)), (0, nI a0), (1, lI a1)], []⟩ ?_
      refine L_split 19 rfl (fun _ => ?_) (fun _ => ?_)
      · refine Av 1 [.o false (o22_2.drop 13), .c c22_7, .c c22_11] ⟨[(20, lI a1), (19, bB true), (16, bB false), (5, nI (a1.length : Int)), (0, nI a0), (1, lI a1)], []⟩ ?_
        refine L_idxD (enc := D.int .i64) (l := a1) (iv := 0) rfl rfl rfl (fun _ => rfl) (fun _ => ?_)
        refine Av 3 [.o false (o22_2.drop 17), .c c22_7, .c c22_11] ⟨[(24, bB (decide ((at' a1 0) < 0))), (19, bB true), (16, bB false), (5, nI (a1.length : Int)), (0, nI a0), (1, lI a1)], []⟩ ?_
        refine L_split 24 rfl (fun _ => ?_) (fun _ => ?_)
        · refine Avk 18 [] .ret ⟨[(4, nI 1)], []⟩ ?_
          exact L_ret
        · refine Av 3 [.o false (o22_2.drop 20), .c c22_7, .c c22_11] ⟨[(27, nI (IntKind.i64.wrap ((a1.length : Int) - 1))), (24, bB false), (25, lI a1), (19, bB true), (16, bB false), (0, nI a0)], []⟩ ?_
          refine L_idxD (enc := D.int .i64) (l := a1) (iv := IntKind.i64.wrap ((a1.length : Int) - 1)) rfl rfl rfl (fun _ => rfl) (fun _ => ?_)
          refine Av 7 [.c c22_7, .c c22_11] ⟨[(34, bB (decide ((at' a1 (IntKind.i64.wrap ((a1.length : Int) - 1))) ≥ a0)))], []⟩ ?_
          refine L_split 34 rfl (fun _ => ?_) (fun _ => ?_)
          · refine Avk 7 [] .ret ⟨[(4, nI 1)], []⟩ ?_
            exact L_ret
          · refine Avk 7 [] .ret ⟨[(4, nI 0)], []⟩ ?_
            exact L_ret
      · refine Avk 23 [] .ret ⟨[(4, nI 0)], []⟩ ?_
        exact L_ret
/-- slices.Clone[[]byte,byte]. -/
def en_slices_Clone_byte_byte (v : (List Int)) : PV := sY (.s 0) v
def o54_0 : List AOper := [⟨some 2, none, 0, .mov (.c .nils)⟩]
def o54_1 : List AOper := [mv 3 100 0, ⟨some 4, none, 101, .bin .eql .slice (.t 3) (.c .nils)⟩]
def o54_2 : List AOper := [⟨some 2, none, 200, .mov (.c .nils)⟩]
def o54_3 : List AOper := [⟨some 5, none, 300, .bslice 5 1 []⟩, mv 6 301 0, ⟨some 7, none, 302, .app 5 1 1 (.t 5) (.t 6)⟩, mv 2 303 7]
def c54_6 : AC := .cond (.t 4) (.seq (.reg o54_2) .ret) .skip
def c54_10 : AC := .seq (.reg o54_3) .ret
def c54_12 : AC := .seq (.reg o54_0) (.seq (.seq (.reg o54_1) c54_6) c54_10)
theorem fn54 : fnA Try.prog 54 = some (8, [.t 2], c54_12) := by kernel_rfl
theorem ok_slices_Clone_byte_byte (a0 : List Int) : ∀ v, M_slices_Clone_byte_byte a0 = some v → EvF Try.prog 54 [.lst (List.map (D.int .u8) a0)] (en_slices_Clone_byte_byte v) := by
  intro v hv
  refine EvF_go fn54 (Nat.le_of_ble_eq_true rfl) ?_
  suffices h : Ok (M_slices_Clone_byte_byte a0) fun v => go Try.prog 8 (Fnl [.t 2] (en_slices_Clone_byte_byte v) []) [.c c54_12] .norm (initSt (List.map PV.d [.lst (List.map (D.int .u8) a0)]) []) from h v hv
  unfold M_slices_Clone_byte_byte
  refine Av 8 [.o false (o54_1.drop 1), .c c54_6, .c c54_10] ⟨[(3, lY a0), (0, lY a0)], []⟩ ?_
  refine L_nil (enc := D.int .u8) (l := a0) (e := true) (m2 := some []) trivial rfl (fun h => by (try obtain rfl := List.eq_nil_of_length_eq_zero h); first | rfl | (simp [h]; done)) ?_ ?_
  · refine Av 7 [.o false (o54_3.drop 2), .c .ret] ⟨[(6, lY a0), (5, sY (.s 4815) [])], []⟩ ?_
    refine L_app (enc := D.int .u8) (l := []) (l2 := a0) trivial rfl rfl (fun _ => rfl) (fun _ => ?_)
    refine Avk 3 [] .ret ⟨[(2, sY (.s 4847) ([] ++ a0))], []⟩ ?_
    exact L_ret
  · refine Avk 8 [] .ret ⟨[(2, .nils)], []⟩ ?_
    exact L_ret
/-- thrum/leb.put. -/
def en_leb_put (v : (List Int)) : PV := sY (.s 0) v
def bx_leb_put (v : (List Int)) : List (Tg × List PV) := []
def o64_0 : List AOper := [⟨some 4, none, 0, .mov (.c .nils)⟩]
def o64_1 : List AOper := [mv 5 100 1, ⟨some 6, none, 101, .bin .gtr .int (.t 5) (.c (.d (.int .u64 127)))⟩]
def o64_2 : List AOper := [mv 7 200 0, mv 8 201 1, ⟨some 9, none, 202, .convI .u8 (.t 8)⟩, ⟨some 10, none, 203, .bin .or .int (.t 9) (.c (.d (.int .u8 128)))⟩, ⟨some 11, none, 204, .bslice 5 1 [.t 10]⟩, ⟨some 12, none, 205, .app 5 1 1 (.t 7) (.t 11)⟩, mv 0 206 12]
def o64_3 : List AOper := [mv 13 300 1, ⟨some 14, none, 301, .bin .shr .int (.t 13) (.c (.d (.int .u64 7)))⟩, mv 1 302 14]
def o64_4 : List AOper := [mv 15 400 0, mv 16 401 1, ⟨some 17, none, 402, .convI .u8 (.t 16)⟩, ⟨some 18, none, 403, .bslice 5 1 [.t 17]⟩, ⟨some 19, none, 404, .app 5 1 1 (.t 15) (.t 18)⟩, mv 4 405 19]
def c64_4 : AC := .cond (.t 6) .skip (.exit 0)
def c64_7 : AC := .reg o64_3
def c64_9 : AC := .block 1 (.seq (.reg o64_2) c64_7)
def c64_10 : AC := .seq (.seq (.reg o64_1) c64_4) c64_9
def c64_15 : AC := .seq (.reg o64_4) .ret
def c64_17 : AC := .seq (.reg o64_0) (.seq (.block 0 (.loop c64_10)) c64_15)
theorem fn64 : fnA Try.prog 64 = some (20, [.t 4], c64_17) := by kernel_rfl
def q_ok_leb_put_l0_ok (x0 : List Int) (x1 : Int) (v : ((List Int) × Int)) : Prop := (fun v => go Try.prog 20 (PostN (.exit 0) (fun x : (List Int) × Int => ⟨[(0, sY (.h 0) x.1), (1, nU x.2)], []⟩) v) [.l c64_10] .norm ⟨[(0, sY (.h 0) x0), (1, nU x1)], []⟩) v
theorem ok_leb_put_l0_ok (x0 : List Int) (x1 : Int) : Ok (M_leb_put_l0 x0 x1) (q_ok_leb_put_l0_ok x0 x1) := by
  refine M_leb_put_l0.partial_correctness (q_ok_leb_put_l0_ok) ?_ x0 x1
  clear x0 x1
  intro f' IH x0 x1
  refine okI ?_
  unfold q_ok_leb_put_l0_ok at *
  refine Av 1 [.c c64_10, .l c64_10] ⟨[(0, sY (.h 0) x0), (1, nU x1)], []⟩ ?_
  refine Av 6 [.c c64_4, .c c64_9, .l c64_10] ⟨[(6, bB (decide (x1 > 127))), (0, sY (.h 0) x0), (1, nU x1)], []⟩ ?_
  refine L_split 6 rfl (fun _ => ?_) (fun _ => ?_)
  · refine Av 10 [.o false (o64_2.drop 5), .c c64_7, .b 1, .l c64_10] ⟨[(11, sY (.s 3279) [bOr .u8 (IntKind.u8.wrap x1) 128]), (7, sY (.h 0) x0), (1, nU x1)], []⟩ ?_
    refine L_app (enc := D.int .u8) (l := x0) (l2 := [bOr .u8 (IntKind.u8.wrap x1) 128]) trivial rfl rfl (fun _ => rfl) (fun _ => ?_)
    refine Al 8 [.l c64_10] .norm (fun y1 : List Int => ⟨[(1, nU (sShr .u64 x1 7)), (0, sY (.s 3295) y1)], []⟩) (fun y1 => ?_)
    exact L_again (IH y1 (sShr .u64 x1 7))
  · refine Avk 4 [] (.exit 0) ⟨[(0, sY (.h 0) x0), (1, nU x1)], []⟩ ?_
    exact L_end
theorem ok_leb_put (a0 : List Int) (a1 : Int) : ∀ v, M_leb_put a0 a1 = some v → EvG Try.prog 64 [sY (.h 0) a0, nU a1] [] (en_leb_put v) (bx_leb_put v) := by
  intro v hv
  refine EvG_go fn64 (Nat.le_of_ble_eq_true rfl) ?_
  suffices h : Ok (M_leb_put a0 a1) fun v => go Try.prog 20 (Fnl [.t 4] (en_leb_put v) (bx_leb_put v)) [.c c64_17] .norm (initSt [sY (.h 0) a0, nU a1] []) from h v hv
  unfold M_leb_put
  refine Av 7 [.l c64_10, .b 0, .c c64_15] ⟨[(0, sY (.h 0) a0), (1, nU a1)], []⟩ ?_
  refine L_piece (fs := [.l c64_10]) (ks := [.b 0, .c c64_15]) (ok_leb_put_l0_ok a0 a1) (fun j3 => ?_)
  refine Av 7 [.o false (o64_4.drop 4), .c .ret] ⟨[(18, sY (.s 6463) [IntKind.u8.wrap j3.2]), (15, sY (.h 0) j3.1)], []⟩ ?_
  refine L_app (enc := D.int .u8) (l := j3.1) (l2 := [IntKind.u8.wrap j3.2]) trivial rfl rfl (fun _ => rfl) (fun _ => ?_)
  refine Avk 3 [] .ret ⟨[(4, sY (.s 6479) (j3.1 ++ [IntKind.u8.wrap j3.2]))], []⟩ ?_
  exact L_ret
/-- thrum/leb.Put. -/
def en_leb_Put (v : (List Int)) : PV := sY (.s 0) v
def o47_0 : List AOper := [⟨some 4, none, 0, .mov (.c .nils)⟩]
def o47_1 : List AOper := [mv 7 100 0, cl' 8 101 54 [.t 7], mv 0 102 8]
def o47_2 : List AOper := [mv 9 200 1, ln 10 201 9, mi 11 202 0]
def o47_3 : List AOper := [bi 12 300 .lss 11 10]
def o47_4 : List AOper := [⟨some 13, none, 400, .idxA 1 (.t 9) (.t 11)⟩, ld 14 401 13, mv 6 402 14]
def o47_5 : List AOper := [mv 15 500 0, mv 16 501 6, cl' 17 502 64 [.t 15, .t 16], mv 0 503 17]
def o47_6 : List AOper := [bc 18 600 .add 11 1, mv 11 601 18]
def o47_7 : List AOper := [mv 19 700 0, mv 4 701 19]
def c47_6 : AC := .cond (.t 12) .skip (.exit 0)
def c47_8 : AC := .reg o47_5
def c47_11 : AC := .reg o47_6
def c47_12 : AC := .seq (.block 1 (.seq (.reg o47_4) c47_8)) c47_11
def c47_14 : AC := .seq (.reg o47_3) (.seq c47_6 c47_12)
def c47_16 : AC := .block 0 (.loop c47_14)
def c47_20 : AC := .seq (.reg o47_7) .ret
def c47_21 : AC := .seq (.seq (.reg o47_2) c47_16) c47_20
def c47_23 : AC := .seq (.reg o47_0) (.seq (.reg o47_1) c47_21)
theorem fn47 : fnA Try.prog 47 = some (20, [.t 4], c47_23) := by kernel_rfl
def q_ok_leb_Put_l0_ok (a1 : List Int) (x0 : Int) (x1 : List Int) (v : (List Int)) : Prop := (fun v => go Try.prog 20 (PostN (.exit 0) (fun x : (List Int) => ⟨[(0, sY (.h 0) x)], []⟩) v) [.l c47_14] .norm ⟨[(11, nI x0), (10, nI (a1.length : Int)), (9, lU a1), (0, sY (.h 0) x1)], []⟩) v
theorem ok_leb_Put_l0_ok (a1 : List Int) (x0 : Int) (x1 : List Int) : Ok (M_leb_Put_l0 a1 x0 x1) (q_ok_leb_Put_l0_ok a1 x0 x1) := by
  refine M_leb_Put_l0.partial_correctness a1 (q_ok_leb_Put_l0_ok a1) ?_ x0 x1
  clear x0 x1
  intro f' IH x0 x1
  refine okI ?_
  unfold q_ok_leb_Put_l0_ok at *
  refine Av 1 [.c c47_14, .l c47_14] ⟨[(11, nI x0), (10, nI (a1.length : Int)), (9, lU a1), (0, sY (.h 0) x1)], []⟩ ?_
  refine Av 5 [.c c47_6, .c c47_12, .l c47_14] ⟨[(12, bB (decide (x0 < (a1.length : Int)))), (11, nI x0), (10, nI (a1.length : Int)), (9, lU a1), (0, sY (.h 0) x1)], []⟩ ?_
  refine L_split 12 rfl (fun _ => ?_) (fun _ => ?_)
  · refine Av 6 [.o false o47_4, .c c47_8, .b 1, .c c47_11, .l c47_14] ⟨[(11, nI x0), (10, nI (a1.length : Int)), (9, lU a1), (0, sY (.h 0) x1)], []⟩ ?_
    refine L_idxD (enc := D.int .u64) (l := a1) (iv := x0) trivial rfl rfl (fun _ => rfl) (fun _ => ?_)
    refine Av 6 [.o false (o47_5.drop 2), .b 1, .c c47_11, .l c47_14] ⟨[(16, nU (at' a1 x0)), (15, sY (.h 0) x1), (11, nI x0), (10, nI (a1.length : Int)), (9, lU a1)], []⟩ ?_
    refine L_callB (enR := en_leb_put) (bx' := bx_leb_put) (ps := [sY (.h 0) x1, nU (at' a1 x0)]) (bx := []) [(.h 0, .h 0)] (ok_leb_put x1 (at' a1 x0)) trivial rfl rfl (fun _ => rfl) (fun _ => rfl) (fun _ => by kernel_rfl) (fun _ => by kernel_rfl) (fun _ => (flat_map_of fun _ => trivial)) (fun _ => trivial) (fun r2 => ?_)
    refine Av 7 [.l c47_14] ⟨[(11, nI (IntKind.i64.wrap (x0 + 1))), (0, sY (.s 8032) r2), (10, nI (a1.length : Int)), (9, lU a1)], []⟩ ?_
    exact L_again (IH (IntKind.i64.wrap (x0 + 1)) r2)
  · refine Avk 4 [] (.exit 0) ⟨[(0, sY (.h 0) x1)], []⟩ ?_
    exact L_end
theorem ok_leb_Put (a0 : List Int) (a1 : List Int) : ∀ v, M_leb_Put a0 a1 = some v → EvF Try.prog 47 [.lst (List.map (D.int .u8) a0), .lst (List.map (D.int .u64) a1)] (en_leb_Put v) := by
  intro v hv
  refine EvF_go fn47 (Nat.le_of_ble_eq_true rfl) ?_
  suffices h : Ok (M_leb_Put a0 a1) fun v => go Try.prog 20 (Fnl [.t 4] (en_leb_Put v) []) [.c c47_23] .norm (initSt (List.map PV.d [.lst (List.map (D.int .u8) a0), .lst (List.map (D.int .u64) a1)]) []) from h v hv
  unfold M_leb_Put
  refine Av 7 [.o false (o47_1.drop 1), .c c47_21] ⟨[(7, lY a0), (1, lU a1)], []⟩ ?_
  refine L_call (ok_slices_Clone_byte_byte a0) trivial rfl (fun _ => rfl) (fun _ => (flat_map_of fun _ => trivial)) (fun r1 => ?_)
  refine Av 6 [.o false (o47_2.drop 1), .c c47_16, .c c47_20] ⟨[(9, lU a1), (0, sY (.s 1616) r1)], []⟩ ?_
  refine L_len (enc := D.int .u64) (l := a1) trivial rfl ?_
  refine Av 4 [.l c47_14, .b 0, .c c47_20] ⟨[(11, nI 0), (10, nI (a1.length : Int)), (9, lU a1), (0, sY (.s 1616) r1)], []⟩ ?_
  refine L_piece (fs := [.l c47_14]) (ks := [.b 0, .c c47_20]) (ok_leb_Put_l0_ok a1 0 r1) (fun j3 => ?_)
  refine Avk 7 [] .ret ⟨[(4, sY (.h 0) j3)], []⟩ ?_
  exact L_ret
/-- thrum/index.Put. -/
def en_index_Put (v : (List Int) × Int) : PV := .tup [sY (.s 0) v.1, nI v.2]
def o16_0 : List AOper := [⟨some 4, none, 0, .mov (.c .nils)⟩, mi 5 1 0]
def o16_1 : List AOper := [mv 11 100 0, mv 12 101 1, cl' 13 102 22 [.t 11, .t 12], mv 6 103 13]
def o16_2 : List AOper := [mv 14 200 6, bc 15 201 .neq 14 0]
def o16_3 : List AOper := [mv 16 300 6, ⟨some 4, none, 301, .mov (.c .nils)⟩, mv 5 302 16]
def o16_4 : List AOper := [mv 17 400 1, ln 18 401 17, bc 19 402 .add 18 1, ⟨some 20, none, 403, .mkS 64 1 8 (.int .u64 0) (.c (.d (.int .i64 0))) (.t 19)⟩, mv 7 404 20]
def o16_5 : List AOper := [mv 21 500 7, mv 22 501 1, ln 23 502 22, ⟨some 24, none, 503, .convI .u64 (.t 23)⟩, ⟨some 25, none, 504, .bslice 64 1 [.t 24]⟩, ⟨some 26, none, 505, .app 64 1 8 (.t 21) (.t 25)⟩, mv 7 506 26]
def o16_6 : List AOper := [mi 8 600 (-1)]
def o16_7 : List AOper := [mv 27 700 1, ln 28 701 27, mi 29 702 0]
def o16_8 : List AOper := [bi 30 800 .lss 29 28]
def o16_9 : List AOper := [⟨some 31, none, 900, .idxA 1 (.t 27) (.t 29)⟩, ld 32 901 31, mv 10 902 32]
def o16_10 : List AOper := [mv 33 1000 7, mv 34 1001 10, mv 35 1002 8, bi 36 1003 .sub 34 35, bc 37 1004 .sub 36 1, ⟨some 38, none, 1005, .convI .u64 (.t 37)⟩, ⟨some 39, none, 1006, .bslice 64 1 [.t 38]⟩, ⟨some 40, none, 1007, .app 64 1 8 (.t 33) (.t 39)⟩, mv 7 1008 40]
def o16_11 : List AOper := [mv 41 1100 10, mv 8 1101 41]
def o16_12 : List AOper := [bc 42 1200 .add 29 1, mv 29 1201 42]
def o16_13 : List AOper := [mv 43 1300 7, cl' 44 1301 47 [.c (.nils), .t 43], mv 4 1302 44, mi 5 1303 0]
def c16_7 : AC := .cond (.t 15) (.seq (.reg o16_3) .ret) .skip
def c16_8 : AC := .seq (.reg o16_2) c16_7
def c16_17 : AC := .cond (.t 30) .skip (.exit 0)
def c16_20 : AC := .reg o16_11
def c16_21 : AC := .seq (.reg o16_10) c16_20
def c16_24 : AC := .reg o16_12
def c16_25 : AC := .seq (.block 1 (.seq (.reg o16_9) c16_21)) c16_24
def c16_27 : AC := .seq (.reg o16_8) (.seq c16_17 c16_25)
def c16_29 : AC := .block 0 (.loop c16_27)
def c16_33 : AC := .seq (.reg o16_13) .ret
def c16_35 : AC := .seq (.reg o16_6) (.seq (.seq (.reg o16_7) c16_29) c16_33)
def c16_36 : AC := .seq (.reg o16_5) c16_35
def c16_37 : AC := .seq (.reg o16_4) c16_36
def c16_39 : AC := .seq (.reg o16_0) (.seq (.seq (.reg o16_1) c16_8) c16_37)
theorem fn16 : fnA Try.prog 16 = some (45, [.t 4, .t 5], c16_39) := by kernel_rfl
def q_ok_index_Put_l0_ok (a1 : List Int) (x0 : Int) (x1 : Int) (x2 : List Int) (v : (List Int)) : Prop := (fun v => go Try.prog 45 (PostN (.exit 0) (fun x : (List Int) => ⟨[(7, sU (.h 0) x)], []⟩) v) [.l c16_27] .norm ⟨[(29, nI x0), (28, nI (a1.length : Int)), (27, lI a1), (8, nI x1), (7, sU (.h 0) x2)], []⟩) v
theorem ok_index_Put_l0_ok (a1 : List Int) (x0 : Int) (x1 : Int) (x2 : List Int) : Ok (M_index_Put_l0 a1 x0 x1 x2) (q_ok_index_Put_l0_ok a1 x0 x1 x2) := by
  refine M_index_Put_l0.partial_correctness a1 (q_ok_index_Put_l0_ok a1) ?_ x0 x1 x2
  clear x0 x1 x2
  intro f' IH x0 x1 x2
  refine okI ?_
  unfold q_ok_index_Put_l0_ok at *
  refine Av 1 [.c c16_27, .l c16_27] ⟨[(29, nI x0), (28, nI (a1.length : Int)), (27, lI a1), (8, nI x1), (7, sU (.h 0) x2)], []⟩ ?_
  refine Av 5 [.c c16_17, .c c16_25, .l c16_27] ⟨[(30, bB (decide (x0 < (a1.length : Int)))), (29, nI x0), (28, nI (a1.length : Int)), (27, lI a1), (8, nI x1), (7, sU (.h 0) x2)], []⟩ ?_
  refine L_split 30 rfl (fun _ => ?_) (fun _ => ?_)
  · refine Av 6 [.o false o16_9, .c c16_21, .b 1, .c c16_24, .l c16_27] ⟨[(29, nI x0), (28, nI (a1.length : Int)), (27, lI a1), (8, nI x1), (7, sU (.h 0) x2)], []⟩ ?_
    refine L_idxD (enc := D.int .i64) (l := a1) (iv := x0) trivial rfl rfl (fun _ => rfl) (fun _ => ?_)
    refine Av 12 [.o false (o16_10.drop 7), .c c16_20, .b 1, .c c16_24, .l c16_27] ⟨[(39, sU (.s 16111) [IntKind.u64.wrap (IntKind.i64.wrap ((IntKind.i64.wrap ((at' a1 x0) - x1)) - 1))]), (33, sU (.h 0) x2), (10, nI (at' a1 x0)), (29, nI x0), (28, nI (a1.length : Int)), (27, lI a1)], []⟩ ?_
    refine L_app (enc := D.int .u64) (l := x2) (l2 := [IntKind.u64.wrap (IntKind.i64.wrap ((IntKind.i64.wrap ((at' a1 x0) - x1)) - 1))]) trivial rfl rfl (fun _ => rfl) (fun _ => ?_)
    refine Al 11 [.l c16_27] .norm (fun y6 : List Int => ⟨[(29, nI (IntKind.i64.wrap (x0 + 1))), (8, nI (at' a1 x0)), (7, sU (.s 16127) y6), (28, nI (a1.length : Int)), (27, lI a1)], []⟩) (fun y6 => ?_)
    exact L_again (IH (IntKind.i64.wrap (x0 + 1)) (at' a1 x0) y6)
  · refine Avk 4 [] (.exit 0) ⟨[(7, sU (.h 0) x2)], []⟩ ?_
    exact L_end
theorem ok_index_Put (a0 : Int) (a1 : List Int) : ∀ v, M_index_Put a0 a1 = some v → EvF Try.prog 16 [.int .i64 a0, .lst (List.map (D.int .i64) a1)] (en_index_Put v) := by
  intro v hv
  refine EvF_go fn16 (Nat.le_of_ble_eq_true rfl) ?_
  suffices h : Ok (M_index_Put a0 a1) fun v => go Try.prog 45 (Fnl [.t 4, .t 5] (en_index_Put v) []) [.c c16_39] .norm (initSt (List.map PV.d [.int .i64 a0, .lst (List.map (D.int .i64) a1)]) []) from h v hv
  unfold M_index_Put
  refine Av 10 [.o false (o16_1.drop 2), .c c16_8, .c c16_37] ⟨[(12, lI a1), (11, nI a0), (1, lI a1)], []⟩ ?_
  refine L_call (ok_index_Check a0 a1) trivial rfl (fun _ => rfl) (fun _ => trivial) (fun r1 => ?_)
  refine Av 7 [.c c16_7, .c c16_37] ⟨[(15, bB (r1 != 0)), (6, nI r1), (1, lI a1)], []⟩ ?_
  refine L_split 15 decNe (fun _ => ?_) (fun _ => ?_)
  · refine Avk 9 [] .ret ⟨[(5, nI r1), (4, .nils)], []⟩ ?_
    exact L_ret
  · refine Av 5 [.o false (o16_4.drop 1), .c c16_36] ⟨[(17, lI a1), (1, lI a1)], []⟩ ?_
    refine L_len (enc := D.int .i64) (l := a1) trivial rfl ?_
    refine Av 1 [.o false (o16_4.drop 3), .c c16_36] ⟨[(19, nI (IntKind.i64.wrap ((a1.length : Int) + 1))), (1, lI a1)], []⟩ ?_
    refine L_mk (enc := D.int .u64) (z0 := 0) (a := 0) (b := IntKind.i64.wrap ((a1.length : Int) + 1)) trivial rfl rfl rfl (fun _ => ?_)
    refine Al 6 [.o false (o16_5.drop 2), .c c16_35] .norm (fun y2 : List Int => ⟨[(22, lI a1), (21, sU (.s 6463) y2), (1, lI a1)], []⟩) (fun y2 => ?_)
    refine L_len (enc := D.int .i64) (l := a1) trivial rfl ?_
    refine Av 2 [.o false (o16_5.drop 5), .c c16_35] ⟨[(25, sU (.s 8079) [IntKind.u64.wrap (a1.length : Int)]), (21, sU (.s 6463) y2), (1, lI a1)], []⟩ ?_
    refine L_app (enc := D.int .u64) (l := y2) (l2 := [IntKind.u64.wrap (a1.length : Int)]) trivial rfl rfl (fun _ => rfl) (fun _ => ?_)
    refine Al 10 [.o false (o16_7.drop 1), .c c16_29, .c c16_33] .norm (fun y4 : List Int => ⟨[(27, lI a1), (8, nI (-1)), (7, sU (.s 8095) y4)], []⟩) (fun y4 => ?_)
    refine L_len (enc := D.int .i64) (l := a1) trivial rfl ?_
    refine Av 4 [.l c16_27, .b 0, .c c16_33] ⟨[(29, nI 0), (28, nI (a1.length : Int)), (27, lI a1), (8, nI (-1)), (7, sU (.s 8095) y4)], []⟩ ?_
    refine L_piece (fs := [.l c16_27]) (ks := [.b 0, .c c16_33]) (ok_index_Put_l0_ok a1 0 (-1) y4) (fun j8 => ?_)
    refine Av 4 [.o false (o16_13.drop 1), .c .ret] ⟨[(43, sU (.h 0) j8)], []⟩ ?_
    refine L_call (ok_leb_Put [] j8) trivial rfl (fun _ => rfl) (fun _ => (flat_map_of fun _ => trivial)) (fun r9 => ?_)
    refine Avk 4 [] .ret ⟨[(5, nI 0), (4, sY (.s 20816) r9)], []⟩ ?_
    exact L_ret
/-- thrum/leb.Get. -/
def en_leb_Get (v : Int × Int × Int) : PV := .tup [nU v.1, nI v.2.1, nI v.2.2]
def o50_0 : List AOper := [⟨some 4, none, 0, .mov (.c (.d (.int .u64 0)))⟩, mi 5 1 0, mi 6 2 0]
def o50_1 : List AOper := [mv 10 100 1, bc 11 101 .lss 10 0]
def o50_2 : List AOper := [⟨some 4, none, 200, .mov (.c (.d (.int .u64 0)))⟩, mi 5 201 0, mi 6 202 1]
def o50_3 : List AOper := [mv 12 300 0, mv 13 301 1, mv 14 302 0, ln 15 303 14, ⟨some 16, none, 304, .mnmx false (.t 13) (.t 15)⟩, ⟨some 17, none, 305, .sliceS 1 (.t 12) (some (.t 16)) none none⟩, ln 18 306 17, mi 19 307 0]
def o50_4 : List AOper := [bi 20 400 .lss 19 18]
def o50_5 : List AOper := [mv 21 500 19, ⟨some 22, none, 501, .idxA 1 (.t 17) (.t 19)⟩, ld 23 502 22, mv 7 503 21, mv 8 504 23]
def o50_6 : List AOper := [mv 24 600 8, ⟨some 25, none, 601, .bin .lss .int (.t 24) (.c (.d (.int .u8 128)))⟩, mv 9 602 25]
def o50_7 : List AOper := [mv 27 700 7, bc 28 701 .eql 27 9, mv 29 702 28, gv 30 29 true 703 8, ⟨some 31, some (29, true), 704, .bin .gtr .int (.t 30) (.c (.d (.int .u8 1)))⟩, pk 32 705 29 31 false, mv 26 706 32]
def o50_8 : List AOper := [mv 33 800 9, mv 34 801 33, gv 35 34 true 802 8, ⟨some 36, some (34, true), 803, .bin .eql .int (.t 35) (.c (.d (.int .u8 0)))⟩, pk 37 804 34 36 false, mv 38 805 37, gv 39 38 true 806 7, ⟨some 40, some (38, true), 807, .bin .gtr .int (.t 39) (.c (.d (.int .i64 0)))⟩, pk 41 808 38 40 false, mv 26 809 41]
def o50_9 : List AOper := [⟨some 4, none, 900, .mov (.c (.d (.int .u64 0)))⟩, mi 5 901 0, mi 6 902 6]
def o50_10 : List AOper := [mv 42 1000 4, mv 43 1001 8, ⟨some 44, none, 1002, .bin .and .int (.t 43) (.c (.d (.int .u8 127)))⟩, ⟨some 45, none, 1003, .convI .u64 (.t 44)⟩, mv 46 1004 7, ⟨some 47, none, 1005, .bin .mul .int (.c (.d (.int .i64 7))) (.t 46)⟩, bi 48 1006 .shl 45 47, bi 49 1007 .or 42 48, mv 4 1008 49]
def o50_11 : List AOper := [mv 50 1100 9]
def o50_12 : List AOper := [mv 51 1200 4, mv 52 1201 1, mv 53 1202 7, bi 54 1203 .add 52 53, bc 55 1204 .add 54 1, mv 4 1205 51, mv 5 1206 55, mi 6 1207 0]
def o50_13 : List AOper := [bc 56 1300 .add 19 1, mv 19 1301 56]
def o50_14 : List AOper := [⟨some 4, none, 1400, .mov (.c (.d (.int .u64 0)))⟩, mi 5 1401 0, mi 6 1402 5]
def o50_7t3_6 : List AOper := (o50_7.drop 3).take 3
def o50_8t2_5 : List AOper := (o50_8.drop 2).take 3
def o50_8t6_9 : List AOper := (o50_8.drop 6).take 3
def c50_6 : AC := .cond (.t 11) (.seq (.reg o50_2) .ret) .skip
def c50_12 : AC := .cond (.t 20) .skip (.exit 0)
def c50_18 : AC := .cond (.t 26) .skip (.reg o50_8)
def c50_24 : AC := .cond (.t 26) (.seq (.reg o50_9) .ret) .skip
def c50_33 : AC := .cond (.t 50) (.seq (.reg o50_12) .ret) .skip
def c50_34 : AC := .seq (.reg o50_11) c50_33
def c50_35 : AC := .seq (.reg o50_10) c50_34
def c50_37 : AC := .seq (.reg o50_6) (.seq (.block 2 (.seq (.seq (.reg o50_7) c50_18) c50_24)) c50_35)
def c50_40 : AC := .reg o50_13
def c50_41 : AC := .seq (.block 1 (.seq (.reg o50_5) c50_37)) c50_40
def c50_43 : AC := .seq (.reg o50_4) (.seq c50_12 c50_41)
def c50_45 : AC := .block 0 (.loop c50_43)
def c50_49 : AC := .seq (.reg o50_14) .ret
def c50_50 : AC := .seq (.seq (.reg o50_3) c50_45) c50_49
def c50_52 : AC := .seq (.reg o50_0) (.seq (.seq (.reg o50_1) c50_6) c50_50)
theorem fn50 : fnA Try.prog 50 = some (57, [.t 4, .t 5, .t 6], c50_52) := by kernel_rfl
def q_ok_leb_Get_l0_ok (a1 : Int) (y1 : List Int) (x0 : Int) (x1 : Int) (v : (Sum (Int × Int × Int) Unit)) : Prop := (fun v => go Try.prog 57 (PostR (fun r => Fnl [.t 4, .t 5, .t 6] (en_leb_Get r) []) (.exit 0) (fun x : Unit => ⟨[], []⟩) v) [.l c50_43] .norm ⟨[(19, nI x0), (18, nI (y1.length : Int)), (17, lY y1), (4, nU x1), (1, nI a1)], []⟩) v
theorem ok_leb_Get_l0_ok (a1 : Int) (y1 : List Int) (x0 : Int) (x1 : Int) : Ok (M_leb_Get_l0 a1 y1 x0 x1) (q_ok_leb_Get_l0_ok a1 y1 x0 x1) := by
  refine M_leb_Get_l0.partial_correctness a1 y1 (q_ok_leb_Get_l0_ok a1 y1) ?_ x0 x1
  clear x0 x1
  intro f' IH x0 x1
  refine okI ?_
  unfold q_ok_leb_Get_l0_ok at *
  refine Av 1 [.c c50_43, .l c50_43] ⟨[(19, nI x0), (18, nI (y1.length : Int)), (17, lY y1), (4, nU x1), (1, nI a1)], []⟩ ?_
  refine Av 5 [.c c50_12, .c c50_41, .l c50_43] ⟨[(20, bB (decide (x0 < (y1.length : Int)))), (19, nI x0), (18, nI (y1.length : Int)), (17, lY y1), (4, nU x1), (1, nI a1)], []⟩ ?_
  refine L_split 20 rfl (fun _ => ?_) (fun _ => ?_)
  · refine Av 7 [.o false (o50_5.drop 1), .c c50_37, .b 1, .c c50_40, .l c50_43] ⟨[(21, nI x0), (19, nI x0), (18, nI (y1.length : Int)), (17, lY y1), (4, nU x1), (1, nI a1)], []⟩ ?_
    refine L_idxD (enc := D.int .u8) (l := y1) (iv := x0) trivial rfl rfl (fun _ => rfl) (fun _ => ?_)
    refine Av 18 [.o false (o50_7.drop 3), .c c50_18, .c c50_24, .b 2, .c c50_35, .b 1, .c c50_40, .l c50_43] ⟨[(29, bB (x0 == 9)), (9, bB (decide ((at' y1 x0) < 128))), (8, nY (at' y1 x0)), (7, nI x0), (19, nI x0), (18, nI (y1.length : Int)), (17, lY y1), (4, nU x1), (1, nI a1)], []⟩ ?_
    refine L_take 3 o50_7t3_6 (o50_7.drop 6) ?_
    refine L_join [.o false o50_7t3_6] [.o false (o50_7.drop 6), .c c50_18, .c c50_24, .b 2, .c c50_35, .b 1, .c c50_40, .l c50_43] (fun x : Bool => ⟨[(32, bB x), (9, bB (decide ((at' y1 x0) < 128))), (8, nY (at' y1 x0)), (7, nI x0), (19, nI x0), (18, nI (y1.length : Int)), (17, lY y1), (4, nU x1), (1, nI a1)], []⟩) ?_ (fun j3 => ?_)
    · refine L_split 29 decE (fun _ => ?_) (fun _ => ?_)
      · refine Av 4 [] ⟨[(32, bB (decide ((at' y1 x0) > 1))), (9, bB (decide ((at' y1 x0) < 128))), (8, nY (at' y1 x0)), (7, nI x0), (19, nI x0), (18, nI (y1.length : Int)), (17, lY y1), (4, nU x1), (1, nI a1)], []⟩ ?_
        exact L_end
      · refine Av 4 [] ⟨[(32, bB false), (9, bB (decide ((at' y1 x0) < 128))), (8, nY (at' y1 x0)), (7, nI x0), (19, nI x0), (18, nI (y1.length : Int)), (17, lY y1), (4, nU x1), (1, nI a1)], []⟩ ?_
        exact L_end
    · refine Av 2 [.c c50_18, .c c50_24, .b 2, .c c50_35, .b 1, .c c50_40, .l c50_43] ⟨[(26, bB j3), (9, bB (decide ((at' y1 x0) < 128))), (8, nY (at' y1 x0)), (7, nI x0), (19, nI x0), (18, nI (y1.length : Int)), (17, lY y1), (4, nU x1), (1, nI a1)], []⟩ ?_
      refine L_join [.c c50_18] [.c c50_24, .b 2, .c c50_35, .b 1, .c c50_40, .l c50_43] (fun x : Bool => ⟨[(26, bB x), (9, bB (decide ((at' y1 x0) < 128))), (8, nY (at' y1 x0)), (7, nI x0), (19, nI x0), (18, nI (y1.length : Int)), (17, lY y1), (4, nU x1), (1, nI a1)], []⟩) ?_ (fun j6 => ?_)
      · refine L_split 26 decT (fun _ => ?_) (fun _ => ?_)
        · refine Av 2 [] ⟨[(26, bB true), (9, bB (decide ((at' y1 x0) < 128))), (8, nY (at' y1 x0)), (7, nI x0), (19, nI x0), (18, nI (y1.length : Int)), (17, lY y1), (4, nU x1), (1, nI a1)], []⟩ ?_
          exact L_end
        · refine Av 4 [.o false (o50_8.drop 2)] ⟨[(34, bB (decide ((at' y1 x0) < 128))), (9, bB (decide ((at' y1 x0) < 128))), (8, nY (at' y1 x0)), (7, nI x0), (19, nI x0), (18, nI (y1.length : Int)), (17, lY y1), (4, nU x1), (1, nI a1)], []⟩ ?_
          refine L_take 3 o50_8t2_5 (o50_8.drop 5) ?_
          refine L_join [.o false o50_8t2_5] [.o false (o50_8.drop 5)] (fun x : Bool => ⟨[(37, bB x), (9, bB (decide ((at' y1 x0) < 128))), (8, nY (at' y1 x0)), (7, nI x0), (19, nI x0), (18, nI (y1.length : Int)), (17, lY y1), (4, nU x1), (1, nI a1)], []⟩) ?_ (fun j4 => ?_)
          · refine L_split 34 rfl (fun _ => ?_) (fun _ => ?_)
            · refine Av 4 [] ⟨[(37, bB ((at' y1 x0) == 0)), (9, bB (decide ((at' y1 x0) < 128))), (8, nY (at' y1 x0)), (7, nI x0), (19, nI x0), (18, nI (y1.length : Int)), (17, lY y1), (4, nU x1), (1, nI a1)], []⟩ ?_
              exact L_end
            · refine Av 4 [] ⟨[(37, bB false), (9, bB (decide ((at' y1 x0) < 128))), (8, nY (at' y1 x0)), (7, nI x0), (19, nI x0), (18, nI (y1.length : Int)), (17, lY y1), (4, nU x1), (1, nI a1)], []⟩ ?_
              exact L_end
          · refine Av 1 [.o false (o50_8.drop 6)] ⟨[(38, bB j4), (9, bB (decide ((at' y1 x0) < 128))), (8, nY (at' y1 x0)), (7, nI x0), (19, nI x0), (18, nI (y1.length : Int)), (17, lY y1), (4, nU x1), (1, nI a1)], []⟩ ?_
            refine L_take 3 o50_8t6_9 (o50_8.drop 9) ?_
            refine L_join [.o false o50_8t6_9] [.o false (o50_8.drop 9)] (fun x : Bool => ⟨[(41, bB x), (9, bB (decide ((at' y1 x0) < 128))), (8, nY (at' y1 x0)), (7, nI x0), (19, nI x0), (18, nI (y1.length : Int)), (17, lY y1), (4, nU x1), (1, nI a1)], []⟩) ?_ (fun j5 => ?_)
            · refine L_split 38 decT (fun _ => ?_) (fun _ => ?_)
              · refine Av 4 [] ⟨[(41, bB (decide (x0 > 0))), (9, bB (decide ((at' y1 x0) < 128))), (8, nY (at' y1 x0)), (7, nI x0), (19, nI x0), (18, nI (y1.length : Int)), (17, lY y1), (4, nU x1), (1, nI a1)], []⟩ ?_
                exact L_end
              · refine Av 4 [] ⟨[(41, bB false), (9, bB (decide ((at' y1 x0) < 128))), (8, nY (at' y1 x0)), (7, nI x0), (19, nI x0), (18, nI (y1.length : Int)), (17, lY y1), (4, nU x1), (1, nI a1)], []⟩ ?_
                exact L_end
            · refine Av 2 [] ⟨[(26, bB j5), (9, bB (decide ((at' y1 x0) < 128))), (8, nY (at' y1 x0)), (7, nI x0), (19, nI x0), (18, nI (y1.length : Int)), (17, lY y1), (4, nU x1), (1, nI a1)], []⟩ ?_
              exact L_end
      · refine L_split 26 decT (fun _ => ?_) (fun _ => ?_)
        · refine Avk 13 [] .ret ⟨[(6, nI 6), (5, nI 0), (4, nU 0)], []⟩ ?_
          exact L_retR
        · refine Av 11 [.o false (o50_10.drop 6), .c c50_34, .b 1, .c c50_40, .l c50_43] ⟨[(47, nI (IntKind.i64.wrap (7 * x0))), (45, nU (IntKind.u64.wrap (bAnd .u8 (at' y1 x0) 127))), (42, nU x1), (9, bB (decide ((at' y1 x0) < 128))), (7, nI x0), (19, nI x0), (18, nI (y1.length : Int)), (17, lY y1), (1, nI a1)], []⟩ ?_
          refine L_rd (c := 0 ≤ IntKind.i64.wrap (7 * x0)) (v := nU (sShl .u64 (IntKind.u64.wrap (bAnd .u8 (at' y1 x0) 127)) (IntKind.i64.wrap (7 * x0)))) trivial rfl (fun _ => ?_)
          refine Al 7 [.c c50_33, .b 1, .c c50_40, .l c50_43] .norm (fun y7 : Int => ⟨[(50, bB (decide ((at' y1 x0) < 128))), (4, nU y7), (7, nI x0), (19, nI x0), (18, nI (y1.length : Int)), (17, lY y1), (1, nI a1)], []⟩) (fun y7 => ?_)
          refine L_split 50 rfl (fun _ => ?_) (fun _ => ?_)
          · refine Avk 16 [] .ret ⟨[(6, nI 0), (5, nI (IntKind.i64.wrap ((IntKind.i64.wrap (a1 + x0)) + 1))), (4, nU y7)], []⟩ ?_
            exact L_retR
          · refine Av 7 [.l c50_43] ⟨[(19, nI (IntKind.i64.wrap (x0 + 1))), (4, nU y7), (18, nI (y1.length : Int)), (17, lY y1), (1, nI a1)], []⟩ ?_
            exact L_again (IH (IntKind.i64.wrap (x0 + 1)) y7)
  · refine Avk 4 [] (.exit 0) ⟨[], []⟩ ?_
    exact L_endR
theorem ok_leb_Get (a0 : List Int) (a1 : Int) : ∀ v, M_leb_Get a0 a1 = some v → EvF Try.prog 50 [.lst (List.map (D.int .u8) a0), .int .i64 a1] (en_leb_Get v) := by
  intro v hv
  refine EvF_go fn50 (Nat.le_of_ble_eq_true rfl) ?_
  suffices h : Ok (M_leb_Get a0 a1) fun v => go Try.prog 57 (Fnl [.t 4, .t 5, .t 6] (en_leb_Get v) []) [.c c50_52] .norm (initSt (List.map PV.d [.lst (List.map (D.int .u8) a0), .int .i64 a1]) []) from h v hv
  unfold M_leb_Get
  refine Av 12 [.c c50_6, .c c50_50] ⟨[(11, bB (decide (a1 < 0))), (4, nU 0), (0, lY a0), (1, nI a1)], []⟩ ?_
  refine L_split 11 rfl (fun _ => ?_) (fun _ => ?_)
  · refine Avk 9 [] .ret ⟨[(6, nI 1), (5, nI 0), (4, nU 0)], []⟩ ?_
    exact L_ret
  · refine Av 8 [.o false (o50_3.drop 3), .c c50_45, .c c50_49] ⟨[(14, lY a0), (13, nI a1), (12, lY a0), (4, nU 0), (1, nI a1)], []⟩ ?_
    refine L_len (enc := D.int .u8) (l := a0) trivial rfl ?_
    refine Av 1 [.o false (o50_3.drop 5), .c c50_45, .c c50_49] ⟨[(16, nI (if (a0.length : Int) < a1 then (a0.length : Int) else a1)), (12, lY a0), (4, nU 0), (1, nI a1)], []⟩ ?_
    refine L_cutD (enc := D.int .u8) (l := a0) (a := (some (if (a0.length : Int) < a1 then (a0.length : Int) else a1))) (b := none) trivial rfl rfl rfl (fun _ => rfl) (fun _ => ?_)
    refine Al 0 [.o false (o50_3.drop 6), .c c50_45, .c c50_49] .norm (fun y1 : List Int => ⟨[(17, lY y1), (4, nU 0), (1, nI a1)], []⟩) (fun y1 => ?_)
    refine L_len (enc := D.int .u8) (l := y1) trivial rfl ?_
    refine Av 4 [.l c50_43, .b 0, .c c50_49] ⟨[(19, nI 0), (18, nI (y1.length : Int)), (17, lY y1), (4, nU 0), (1, nI a1)], []⟩ ?_
    refine L_pieceR (fs := [.l c50_43]) (ks := [.b 0, .c c50_49]) (ok_leb_Get_l0_ok a1 y1 0 0) L_thru (fun j9 => ?_)
    refine Avk 8 [] .ret ⟨[(6, nI 5), (5, nI 0), (4, nU 0)], []⟩ ?_
    exact L_ret
/-- thrum/index.Get. -/
def en_index_Get (v : (List Int) × Int × Int) : PV := .tup [sI (.s 0) v.1, nI v.2.1, nI v.2.2]
def o18_0 : List AOper := [⟨some 6, none, 0, .mov (.c .nils)⟩, mi 7 1 0, mi 8 2 0]
def o18_1 : List AOper := [mv 15 100 0, cl' 16 101 49 [.t 15], ⟨some 17, none, 102, .un .not (.t 16)⟩]
def o18_2 : List AOper := [⟨some 6, none, 200, .mov (.c .nils)⟩, mi 7 201 0, mi 8 202 1]
def o18_3 : List AOper := [mv 19 300 1, mv 20 301 2, cl' 21 302 50 [.t 19, .t 20], mv 18 303 21, xt 22 304 18 0, xt 23 305 18 1, xt 24 306 18 2, mv 9 307 22, mv 2 308 23, mv 10 309 24]
def o18_4 : List AOper := [mv 25 400 10, bc 26 401 .eql 25 0, mv 27 402 26, gv 28 27 true 403 9, gv 29 27 true 404 0, ⟨some 30, some (27, true), 405, .convI .u64 (.t 29)⟩, ⟨some 31, some (27, true), 406, .bin .gtr .int (.t 28) (.t 30)⟩, pk 32 407 27 31 false]
def o18_5 : List AOper := [mi 10 500 6]
def o18_6 : List AOper := [⟨some 11, none, 600, .mov (.c .nils)⟩]
def o18_7 : List AOper := [mi 12 700 (-1)]
def o18_8 : List AOper := [⟨some 13, none, 800, .mov (.c (.d (.int .u64 0)))⟩]
def o18_9 : List AOper := [mv 33 900 10, bc 34 901 .eql 33 0, mv 35 902 34, gv 36 35 true 903 13, gv 37 35 true 904 9, ⟨some 38, some (35, true), 905, .bin .lss .int (.t 36) (.t 37)⟩, pk 39 906 35 38 false]
def o18_10 : List AOper := [⟨some 14, none, 1100, .mov (.c (.d (.int .u64 0)))⟩]
def o18_11 : List AOper := [mv 43 1200 1, mv 44 1201 2, cl' 45 1202 50 [.t 43, .t 44], mv 42 1203 45, xt 46 1204 42 0, xt 47 1205 42 1, xt 48 1206 42 2, mv 14 1207 46, mv 2 1208 47, mv 10 1209 48]
def o18_12 : List AOper := [mv 49 1300 10, bc 50 1301 .neq 49 0]
def o18_13 : List AOper := [mv 51 1400 14, mv 52 1401 0, bc 53 1402 .sub 52 1, mv 54 1403 12, bi 55 1404 .sub 53 54, ⟨some 56, none, 1405, .convI .u64 (.t 55)⟩, bi 57 1406 .geq 51 56]
def o18_14 : List AOper := [mi 10 1500 6]
def o18_15 : List AOper := [mv 58 1600 12, mv 59 1601 14, ⟨some 60, none, 1602, .convI .i64 (.t 59)⟩, ⟨some 61, none, 1603, .bin .add .int (.c (.d (.int .i64 1))) (.t 60)⟩, bi 62 1604 .add 58 61, mv 12 1605 62]
def o18_16 : List AOper := [mv 63 1700 11, mv 64 1701 12, ⟨some 65, none, 1702, .bslice 3 1 [.t 64]⟩, ⟨some 66, none, 1703, .app 3 1 8 (.t 63) (.t 65)⟩, mv 11 1704 66]
def o18_17 : List AOper := [mv 40 1000 13, ⟨some 41, none, 1001, .bin .add .int (.t 40) (.c (.d (.int .u64 1)))⟩, mv 13 1002 41]
def o18_18 : List AOper := [mv 67 1800 10, bc 68 1801 .neq 67 0]
def o18_19 : List AOper := [mv 69 1900 10, ⟨some 6, none, 1901, .mov (.c .nils)⟩, mi 7 1902 0, mv 8 1903 69]
def o18_20 : List AOper := [mv 70 2000 11, mv 71 2001 2, mv 6 2002 70, mv 7 2003 71, mi 8 2004 0]
def o18_4t3_8 : List AOper := (o18_4.drop 3).take 5
def o18_9t3_7 : List AOper := (o18_9.drop 3).take 4
def c18_6 : AC := .cond (.t 17) (.seq (.reg o18_2) .ret) .skip
def c18_12 : AC := .cond (.t 32) (.reg o18_5) .skip
def c18_20 : AC := .cond (.t 39) .skip (.exit 0)
def c18_27 : AC := .cond (.t 50) (.exit 0) .skip
def c18_28 : AC := .seq (.reg o18_12) c18_27
def c18_35 : AC := .cond (.t 57) (.seq (.reg o18_14) (.exit 0)) .skip
def c18_39 : AC := .seq (.reg o18_15) (.reg o18_16)
def c18_40 : AC := .seq (.seq (.reg o18_13) c18_35) c18_39
def c18_44 : AC := .reg o18_17
def c18_45 : AC := .seq (.block 1 (.seq (.reg o18_10) (.seq (.seq (.reg o18_11) c18_28) c18_40))) c18_44
def c18_46 : AC := .seq (.seq (.reg o18_9) c18_20) c18_45
def c18_55 : AC := .cond (.t 68) (.seq (.reg o18_19) .ret) .skip
def c18_59 : AC := .seq (.reg o18_20) .ret
def c18_60 : AC := .seq (.seq (.reg o18_18) c18_55) c18_59
def c18_63 : AC := .seq (.reg o18_6) (.seq (.reg o18_7) (.seq (.seq (.reg o18_8) (.block 0 (.loop c18_46))) c18_60))
def c18_64 : AC := .seq (.seq (.reg o18_4) c18_12) c18_63
def c18_65 : AC := .seq (.reg o18_3) c18_64
def c18_67 : AC := .seq (.reg o18_0) (.seq (.seq (.reg o18_1) c18_6) c18_65)
theorem fn18 : fnA Try.prog 18 = some (72, [.t 6, .t 7, .t 8], c18_67) := by kernel_rfl
def q_ok_index_Get_l0_ok (a0 : Int) (a1 : List Int) (r2 : Int × Int × Int) (x0 : Int) (x1 : Int) (x2 : List Int) (x3 : Int) (x4 : Int) (v : (Int × Int × (List Int))) : Prop := (fun v => go Try.prog 72 (PostN (.exit 0) (fun x : Int × Int × (List Int) => ⟨[(10, nI x.1), (2, nI x.2.1), (11, sI (.h 0) x.2.2)], []⟩) v) [.l c18_46] .norm ⟨[(13, nU x0), (12, nI x1), (11, sI (.h 0) x2), (10, nI x3), (2, nI x4), (9, nU r2.1), (0, nI a0), (1, lY a1)], []⟩) v
theorem ok_index_Get_l0_ok (a0 : Int) (a1 : List Int) (r2 : Int × Int × Int) (x0 : Int) (x1 : Int) (x2 : List Int) (x3 : Int) (x4 : Int) : Ok (M_index_Get_l0 a0 a1 r2 x0 x1 x2 x3 x4) (q_ok_index_Get_l0_ok a0 a1 r2 x0 x1 x2 x3 x4) := by
  refine M_index_Get_l0.partial_correctness a0 a1 r2 (q_ok_index_Get_l0_ok a0 a1 r2) ?_ x0 x1 x2 x3 x4
  clear x0 x1 x2 x3 x4
  intro f' IH x0 x1 x2 x3 x4
  refine okI ?_
  unfold q_ok_index_Get_l0_ok at *
  refine Av 1 [.c c18_46, .l c18_46] ⟨[(13, nU x0), (12, nI x1), (11, sI (.h 0) x2), (10, nI x3), (2, nI x4), (9, nU r2.1), (0, nI a0), (1, lY a1)], []⟩ ?_
  refine Av 6 [.o false (o18_9.drop 3), .c c18_20, .c c18_45, .l c18_46] ⟨[(35, bB (x3 == 0)), (13, nU x0), (12, nI x1), (11, sI (.h 0) x2), (10, nI x3), (2, nI x4), (9, nU r2.1), (0, nI a0), (1, lY a1)], []⟩ ?_
  refine L_take 4 o18_9t3_7 (o18_9.drop 7) ?_
  refine L_join [.o false o18_9t3_7] [.o false (o18_9.drop 7), .c c18_20, .c c18_45, .l c18_46] (fun x : Bool => ⟨[(39, bB x), (13, nU x0), (12, nI x1), (11, sI (.h 0) x2), (10, nI x3), (2, nI x4), (9, nU r2.1), (0, nI a0), (1, lY a1)], []⟩) ?_ (fun j5 => ?_)
  · refine L_split 35 decE (fun _ => ?_) (fun _ => ?_)
    · refine Av 5 [] ⟨[(39, bB (decide (x0 < r2.1))), (13, nU x0), (12, nI x1), (11, sI (.h 0) x2), (10, nI x3), (2, nI x4), (9, nU r2.1), (0, nI a0), (1, lY a1)], []⟩ ?_
      exact L_end
    · refine Av 5 [] ⟨[(39, bB false), (13, nU x0), (12, nI x1), (11, sI (.h 0) x2), (10, nI x3), (2, nI x4), (9, nU r2.1), (0, nI a0), (1, lY a1)], []⟩ ?_
      exact L_end
  · refine Av 1 [.c c18_20, .c c18_45, .l c18_46] ⟨[(39, bB j5), (13, nU x0), (12, nI x1), (11, sI (.h 0) x2), (10, nI x3), (2, nI x4), (9, nU r2.1), (0, nI a0), (1, lY a1)], []⟩ ?_
    refine L_split 39 decT (fun _ => ?_) (fun _ => ?_)
    · refine Av 13 [.o false (o18_11.drop 2), .c c18_28, .c c18_40, .b 1, .c c18_44, .l c18_46] ⟨[(44, nI x4), (43, lY a1), (13, nU x0), (12, nI x1), (11, sI (.h 0) x2), (9, nU r2.1), (0, nI a0), (1, lY a1)], []⟩ ?_
      refine L_call (ok_leb_Get a1 x4) trivial rfl (fun _ => rfl) (fun _ => ⟨trivial, trivial, trivial, trivial⟩) (fun r6 => ?_)
      refine Av 13 [.c c18_27, .c c18_40, .b 1, .c c18_44, .l c18_46] ⟨[(50, bB (r6.2.2 != 0)), (10, nI r6.2.2), (2, nI r6.2.1), (14, nU r6.1), (13, nU x0), (12, nI x1), (11, sI (.h 0) x2), (9, nU r2.1), (0, nI a0), (1, lY a1)], []⟩ ?_
      refine L_split 50 decNe (fun _ => ?_) (fun _ => ?_)
      · refine Avk 6 [] (.exit 0) ⟨[(10, nI r6.2.2), (2, nI r6.2.1), (11, sI (.h 0) x2)], []⟩ ?_
        exact L_end
      · refine Av 13 [.c c18_35, .c c18_39, .b 1, .c c18_44, .l c18_46] ⟨[(57, bB (decide (r6.1 ≥ (IntKind.u64.wrap (IntKind.i64.wrap ((IntKind.i64.wrap (a0 - 1)) - x1)))))), (10, nI r6.2.2), (2, nI r6.2.1), (14, nU r6.1), (13, nU x0), (12, nI x1), (11, sI (.h 0) x2), (9, nU r2.1), (0, nI a0), (1, lY a1)], []⟩ ?_
        refine L_split 57 rfl (fun _ => ?_) (fun _ => ?_)
        · refine Avk 10 [] (.exit 0) ⟨[(10, nI 6), (2, nI r6.2.1), (11, sI (.h 0) x2)], []⟩ ?_
          exact L_end
        · refine Al 15 [.o false (o18_16.drop 3), .b 1, .c c18_44, .l c18_46] .norm (fun y7 : Int => ⟨[(65, sI (.s 27247) [IntKind.i64.wrap (x1 + (IntKind.i64.wrap (1 + (IntKind.i64.wrap r6.1))))]), (63, sI (.h 0) x2), (12, nI y7), (10, nI r6.2.2), (2, nI r6.2.1), (13, nU x0), (9, nU r2.1), (0, nI a0), (1, lY a1)], []⟩) (fun y7 => ?_)
          refine L_app (enc := D.int .i64) (l := x2) (l2 := [IntKind.i64.wrap (x1 + (IntKind.i64.wrap (1 + (IntKind.i64.wrap r6.1))))]) trivial rfl rfl (fun _ => rfl) (fun _ => ?_)
          refine Al 8 [.l c18_46] .norm (fun y9 : List Int => ⟨[(13, nU (IntKind.u64.wrap (x0 + 1))), (11, sI (.s 27263) y9), (12, nI y7), (10, nI r6.2.2), (2, nI r6.2.1), (9, nU r2.1), (0, nI a0), (1, lY a1)], []⟩) (fun y9 => ?_)
          exact L_again (IH (IntKind.u64.wrap (x0 + 1)) y7 y9 r6.2.2 r6.2.1)
    · refine Avk 4 [] (.exit 0) ⟨[(11, sI (.h 0) x2), (10, nI x3), (2, nI x4)], []⟩ ?_
      exact L_end
theorem ok_index_Get (a0 : Int) (a1 : List Int) (a2 : Int) : ∀ v, M_index_Get a0 a1 a2 = some v → EvF Try.prog 18 [.int .i64 a0, .lst (List.map (D.int .u8) a1), .int .i64 a2] (en_index_Get v) := by
  intro v hv
  refine EvF_go fn18 (Nat.le_of_ble_eq_true rfl) ?_
  suffices h : Ok (M_index_Get a0 a1 a2) fun v => go Try.prog 72 (Fnl [.t 6, .t 7, .t 8] (en_index_Get v) []) [.c c18_67] .norm (initSt (List.map PV.d [.int .i64 a0, .lst (List.map (D.int .u8) a1), .int .i64 a2]) []) from h v hv
  unfold M_index_Get
  refine Av 10 [.o false (o18_1.drop 1), .c c18_6, .c c18_65] ⟨[(15, nI a0), (0, nI a0), (1, lY a1), (2, nI a2)], []⟩ ?_
  refine L_call (ok_index_measure a0) trivial rfl (fun _ => rfl) (fun _ => trivial) (fun r1 => ?_)
  refine Av 2 [.c c18_6, .c c18_65] ⟨[(17, bB (!r1)), (0, nI a0), (1, lY a1), (2, nI a2)], []⟩ ?_
  refine L_split 17 decF (fun _ => ?_) (fun _ => ?_)
  · refine Avk 9 [] .ret ⟨[(8, nI 1), (7, nI 0), (6, .nils)], []⟩ ?_
    exact L_ret
  · refine Av 6 [.o false (o18_3.drop 2), .c c18_64] ⟨[(20, nI a2), (19, lY a1), (0, nI a0), (1, lY a1)], []⟩ ?_
    refine L_call (ok_leb_Get a1 a2) trivial rfl (fun _ => rfl) (fun _ => ⟨trivial, trivial, trivial, trivial⟩) (fun r2 => ?_)
    refine Av 14 [.o false (o18_4.drop 3), .c c18_12, .c c18_63] ⟨[(27, bB (r2.2.2 == 0)), (10, nI r2.2.2), (2, nI r2.2.1), (9, nU r2.1), (0, nI a0), (1, lY a1)], []⟩ ?_
    refine L_take 5 o18_4t3_8 (o18_4.drop 8) ?_
    refine L_join [.o false o18_4t3_8] [.o false (o18_4.drop 8), .c c18_12, .c c18_63] (fun x : Bool => ⟨[(32, bB x), (10, nI r2.2.2), (2, nI r2.2.1), (9, nU r2.1), (0, nI a0), (1, lY a1)], []⟩) ?_ (fun j3 => ?_)
    · refine L_split 27 decE (fun _ => ?_) (fun _ => ?_)
      · refine Av 6 [] ⟨[(32, bB (decide (r2.1 > (IntKind.u64.wrap a0)))), (10, nI r2.2.2), (2, nI r2.2.1), (9, nU r2.1), (0, nI a0), (1, lY a1)], []⟩ ?_
        exact L_end
      · refine Av 6 [] ⟨[(32, bB false), (10, nI r2.2.2), (2, nI r2.2.1), (9, nU r2.1), (0, nI a0), (1, lY a1)], []⟩ ?_
        exact L_end
    · refine Av 1 [.c c18_12, .c c18_63] ⟨[(32, bB j3), (10, nI r2.2.2), (2, nI r2.2.1), (9, nU r2.1), (0, nI a0), (1, lY a1)], []⟩ ?_
      refine L_join [.c c18_12] [.c c18_63] (fun x : Int => ⟨[(10, nI x), (2, nI r2.2.1), (9, nU r2.1), (0, nI a0), (1, lY a1)], []⟩) ?_ (fun j4 => ?_)
      · refine L_split 32 decT (fun _ => ?_) (fun _ => ?_)
        · refine Av 4 [] ⟨[(10, nI 6), (2, nI r2.2.1), (9, nU r2.1), (0, nI a0), (1, lY a1)], []⟩ ?_
          exact L_end
        · refine Av 2 [] ⟨[(10, nI r2.2.2), (2, nI r2.2.1), (9, nU r2.1), (0, nI a0), (1, lY a1)], []⟩ ?_
          exact L_end
      · refine Av 15 [.l c18_46, .b 0, .c c18_60] ⟨[(13, nU 0), (12, nI (-1)), (11, .nils), (10, nI j4), (2, nI r2.2.1), (9, nU r2.1), (0, nI a0), (1, lY a1)], []⟩ ?_
        refine L_piece (fs := [.l c18_46]) (ks := [.b 0, .c c18_60]) (ok_index_Get_l0_ok a0 a1 r2 0 (-1) [] j4 r2.2.1) (fun j11 => ?_)
        refine Av 7 [.c c18_55, .c c18_59] ⟨[(68, bB (j11.1 != 0)), (10, nI j11.1), (2, nI j11.2.1), (11, sI (.h 0) j11.2.2)], []⟩ ?_
        refine L_split 68 decNe (fun _ => ?_) (fun _ => ?_)
        · refine Avk 10 [] .ret ⟨[(8, nI j11.1), (7, nI 0), (6, .nils)], []⟩ ?_
          exact L_ret
        · refine Avk 11 [] .ret ⟨[(8, nI 0), (7, nI j11.2.1), (6, sI (.h 0) j11.2.2)], []⟩ ?_
          exact L_ret
/-- thrum/thrumref03.Same. -/
def en_thrumref03_Same (v : Bool) : PV := bB v
def o20_0 : List AOper := [mb 4 0 false]
def o20_1 : List AOper := [mv 5 100 0, ⟨some 6, none, 101, .convS (.t 5)⟩, mv 7 102 1, ⟨some 8, none, 103, .convS (.t 7)⟩, ⟨some 9, none, 104, .bin .eql .str (.t 6) (.t 8)⟩, mv 4 105 9]
def c20_4 : AC := .seq (.reg o20_0) (.seq (.reg o20_1) .ret)
theorem fn20 : fnA Try.prog 20 = some (10, [.t 4], c20_4) := by kernel_rfl
theorem ok_thrumref03_Same (a0 : List Int) (a1 : List Int) : ∀ v, M_thrumref03_Same a0 a1 = some v → EvF Try.prog 20 [.lst (List.map (D.int .u8) a0), .lst (List.map (D.int .u8) a1)] (en_thrumref03_Same v) := by
  intro v hv
  refine EvF_go fn20 (Nat.le_of_ble_eq_true rfl) ?_
  suffices h : Ok (M_thrumref03_Same a0 a1) fun v => go Try.prog 10 (Fnl [.t 4] (en_thrumref03_Same v) []) [.c c20_4] .norm (initSt (List.map PV.d [.lst (List.map (D.int .u8) a0), .lst (List.map (D.int .u8) a1)]) []) from h v hv
  unfold M_thrumref03_Same
  refine Av 7 [.o false (o20_1.drop 1), .c .ret] ⟨[(5, lY a0), (1, lY a1)], []⟩ ?_
  refine L_convS (l := a0) trivial (.inl rfl) ?_
  refine Av 1 [.o false (o20_1.drop 3), .c .ret] ⟨[(7, lY a1), (6, .d (.str (strB a0)))], []⟩ ?_
  refine L_convS (l := a1) trivial (.inl rfl) ?_
  refine Avk 4 [] .ret ⟨[(4, bB ((strB a0).toList == (strB a1).toList))], []⟩ ?_
  exact L_ret
/-- thrum/thrumref06.Equal. -/
def en_thrumref06_Equal (v : Bool) : PV := bB v
def o21_0 : List AOper := [mb 4 0 false]
def o21_1 : List AOper := [mv 6 100 0, ln 7 101 6, mv 8 102 1, ln 9 103 8, bi 10 104 .neq 7 9]
def o21_2 : List AOper := [mb 4 200 false]
def o21_3 : List AOper := [mv 11 300 0, ln 12 301 11, mi 13 302 0]
def o21_4 : List AOper := [bi 14 400 .lss 13 12]
def o21_5 : List AOper := [mv 15 500 13, mv 5 501 15]
def o21_6 : List AOper := [mv 16 600 0, mv 17 601 5, ⟨some 18, none, 602, .idxA 1 (.t 16) (.t 17)⟩, ld 19 603 18, mv 20 604 1, mv 21 605 5, ⟨some 22, none, 606, .idxA 1 (.t 20) (.t 21)⟩, ld 23 607 22, bi 24 608 .neq 19 23]
def o21_7 : List AOper := [mb 4 700 false]
def o21_8 : List AOper := [bc 25 800 .add 13 1, mv 13 801 25]
def o21_9 : List AOper := [mb 4 900 true]
def c21_6 : AC := .cond (.t 10) (.seq (.reg o21_2) .ret) .skip
def c21_12 : AC := .cond (.t 14) .skip (.exit 0)
def c21_14 : AC := .draw [⟨mv 16 600 0, false, []⟩, ⟨mv 17 601 5, false, []⟩, ⟨⟨some 18, none, 602, .idxA 1 (.t 16) (.t 17)⟩, false, []⟩, ⟨ld 19 603 18, false, []⟩, ⟨mv 20 604 1, false, []⟩, ⟨mv 21 605 5, false, []⟩, ⟨⟨some 22, none, 606, .idxA 1 (.t 20) (.t 21)⟩, false, []⟩, ⟨ld 23 607 22, false, []⟩, ⟨bi 24 608 .neq 19 23, false, []⟩]
def c21_19 : AC := .cond (.t 24) (.seq (.reg o21_7) .ret) .skip
def c21_23 : AC := .reg o21_8
def c21_24 : AC := .seq (.block 1 (.seq (.reg o21_5) (.seq c21_14 c21_19))) c21_23
def c21_26 : AC := .seq (.reg o21_4) (.seq c21_12 c21_24)
def c21_28 : AC := .block 0 (.loop c21_26)
def c21_32 : AC := .seq (.reg o21_9) .ret
def c21_33 : AC := .seq (.seq (.reg o21_3) c21_28) c21_32
def c21_35 : AC := .seq (.reg o21_0) (.seq (.seq (.reg o21_1) c21_6) c21_33)
theorem fn21 : fnA Try.prog 21 = some (26, [.t 4], c21_35) := by kernel_rfl
def q_ok_thrumref06_Equal_l0_ok (a0 : List Int) (a1 : List Int) (x0 : Int) (v : (Sum Bool Unit)) : Prop := (fun v => go Try.prog 26 (PostR (fun r => Fnl [.t 4] (en_thrumref06_Equal r) []) (.exit 0) (fun x : Unit => ⟨[], []⟩) v) [.l c21_26] .norm ⟨[(13, nI x0), (12, nI (a0.length : Int)), (0, lI a0), (1, lI a1)], []⟩) v
theorem ok_thrumref06_Equal_l0_ok (a0 : List Int) (a1 : List Int) (x0 : Int) : Ok (M_thrumref06_Equal_l0 a0 a1 x0) (q_ok_thrumref06_Equal_l0_ok a0 a1 x0) := by
  refine M_thrumref06_Equal_l0.partial_correctness a0 a1 (q_ok_thrumref06_Equal_l0_ok a0 a1) ?_ x0
  clear x0
  intro f' IH x0
  refine okI ?_
  unfold q_ok_thrumref06_Equal_l0_ok at *
  refine Av 1 [.c c21_26, .l c21_26] ⟨[(13, nI x0), (12, nI (a0.length : Int)), (0, lI a0), (1, lI a1)], []⟩ ?_
  refine Av 5 [.c c21_12, .c c21_24, .l c21_26] ⟨[(14, bB (decide (x0 < (a0.length : Int)))), (13, nI x0), (12, nI (a0.length : Int)), (0, lI a0), (1, lI a1)], []⟩ ?_
  refine L_split 14 rfl (fun _ => ?_) (fun _ => ?_)
  · refine Av 10 [.c c21_14, .c c21_19, .b 1, .c c21_23, .l c21_26] ⟨[(5, nI x0), (13, nI x0), (12, nI (a0.length : Int)), (0, lI a0), (1, lI a1)], []⟩ ?_
    refine Ae 3 [.o true (o21_6.drop 2), .c c21_19, .b 1, .c c21_23, .l c21_26] ⟨[(17, nI x0), (16, lI a0), (5, nI x0), (13, nI x0), (12, nI (a0.length : Int)), (0, lI a0), (1, lI a1)], []⟩ ?_
    refine L_idxD (enc := D.int .i64) (l := a0) (iv := x0) trivial rfl rfl (fun _ => rfl) (fun _ => ?_)
    refine Ae 3 [.o true (o21_6.drop 6), .c c21_19, .b 1, .c c21_23, .l c21_26] ⟨[(21, nI x0), (20, lI a1), (19, nI (at' a0 x0)), (18, .d (.cp [.int .i64 (at' a0 x0)] 0)), (17, nI x0), (16, lI a0), (5, nI x0), (13, nI x0), (12, nI (a0.length : Int)), (0, lI a0), (1, lI a1)], []⟩ ?_
    refine L_idxD (enc := D.int .i64) (l := a1) (iv := x0) trivial rfl rfl (fun _ => rfl) (fun _ => ?_)
    refine Av 3 [.c c21_19, .b 1, .c c21_23, .l c21_26] ⟨[(24, bB ((at' a0 x0) != (at' a1 x0))), (13, nI x0), (12, nI (a0.length : Int)), (0, lI a0), (1, lI a1)], []⟩ ?_
    refine L_split 24 decNe (fun _ => ?_) (fun _ => ?_)
    · refine Avk 9 [] .ret ⟨[(4, bB false)], []⟩ ?_
      exact L_retR
    · refine Av 7 [.l c21_26] ⟨[(13, nI (IntKind.i64.wrap (x0 + 1))), (12, nI (a0.length : Int)), (0, lI a0), (1, lI a1)], []⟩ ?_
      exact L_again (IH (IntKind.i64.wrap (x0 + 1)))
  · refine Avk 4 [] (.exit 0) ⟨[], []⟩ ?_
    exact L_endR
theorem ok_thrumref06_Equal (a0 : List Int) (a1 : List Int) : ∀ v, M_thrumref06_Equal a0 a1 = some v → EvF Try.prog 21 [.lst (List.map (D.int .i64) a0), .lst (List.map (D.int .i64) a1)] (en_thrumref06_Equal v) := by
  intro v hv
  refine EvF_go fn21 (Nat.le_of_ble_eq_true rfl) ?_
  suffices h : Ok (M_thrumref06_Equal a0 a1) fun v => go Try.prog 26 (Fnl [.t 4] (en_thrumref06_Equal v) []) [.c c21_35] .norm (initSt (List.map PV.d [.lst (List.map (D.int .i64) a0), .lst (List.map (D.int .i64) a1)]) []) from h v hv
  unfold M_thrumref06_Equal
  refine Av 8 [.o false (o21_1.drop 1), .c c21_6, .c c21_33] ⟨[(6, lI a0), (0, lI a0), (1, lI a1)], []⟩ ?_
  refine L_len (enc := D.int .i64) (l := a0) trivial rfl ?_
  refine Av 1 [.o false (o21_1.drop 3), .c c21_6, .c c21_33] ⟨[(8, lI a1), (7, nI (a0.length : Int)), (0, lI a0), (1, lI a1)], []⟩ ?_
  refine L_len (enc := D.int .i64) (l := a1) trivial rfl ?_
  refine Av 2 [.c c21_6, .c c21_33] ⟨[(10, bB ((a0.length : Int) != (a1.length : Int))), (0, lI a0), (1, lI a1)], []⟩ ?_
  refine L_split 10 decNe (fun _ => ?_) (fun _ => ?_)
  · refine Avk 7 [] .ret ⟨[(4, bB false)], []⟩ ?_
    exact L_ret
  · refine Av 6 [.o false (o21_3.drop 1), .c c21_28, .c c21_32] ⟨[(11, lI a0), (0, lI a0), (1, lI a1)], []⟩ ?_
    refine L_len (enc := D.int .i64) (l := a0) trivial rfl ?_
    refine Av 4 [.l c21_26, .b 0, .c c21_32] ⟨[(13, nI 0), (12, nI (a0.length : Int)), (0, lI a0), (1, lI a1)], []⟩ ?_
    refine L_pieceR (fs := [.l c21_26]) (ks := [.b 0, .c c21_32]) (ok_thrumref06_Equal_l0_ok a0 a1 0) L_thru (fun j1 => ?_)
    refine Avk 6 [] .ret ⟨[(4, bB true)], []⟩ ?_
    exact L_ret
/-- thrum/thrumlaw06.live. -/
def en_thrumlaw06_live (v : Bool) : PV := bB v
def o14_0 : List AOper := [mb 0 0 false]
def o14_1 : List AOper := [⟨some 7, none, 100, .bslice 3 1 [.c (.d (.int .i64 1)), .c (.d (.int .i64 2)), .c (.d (.int .i64 5))]⟩, cl' 8 101 16 [.c (.d (.int .i64 9)), .t 7], mv 6 102 8, xt 9 103 6 0, xt 10 104 6 1, mv 1 105 9, mv 2 106 10]
def o14_2 : List AOper := [mv 12 200 1, cl' 13 201 18 [.c (.d (.int .i64 9)), .t 12, .c (.d (.int .i64 0))], mv 11 202 13, xt 14 203 11 0, xt 15 204 11 1, xt 16 205 11 2, mv 3 206 14, mv 4 207 15, mv 5 208 16]
def o14_3 : List AOper := [mv 17 300 1, ⟨some 18, none, 301, .bslice 5 1 [.c (.d (.int .u8 3)), .c (.d (.int .u8 1)), .c (.d (.int .u8 0)), .c (.d (.int .u8 2))]⟩, cl' 19 302 20 [.t 17, .t 18], mv 20 303 19, gv 21 20 true 304 2, ⟨some 22, some (20, true), 305, .bin .eql .int (.t 21) (.c (.d (.int .i64 0)))⟩, pk 23 306 20 22 false, mv 24 307 23, gv 25 24 true 308 3, ⟨some 26, some (24, true), 309, .bslice 3 1 [.c (.d (.int .i64 1)), .c (.d (.int .i64 2)), .c (.d (.int .i64 5))]⟩, ⟨some 27, some (24, true), 310, .call 21 [.t 25, .t 26]⟩, pk 28 311 24 27 false, mv 29 312 28, gv 30 29 true 313 4, ⟨some 31, some (29, true), 314, .bin .eql .int (.t 30) (.c (.d (.int .i64 4)))⟩, pk 32 315 29 31 false, mv 33 316 32, gv 34 33 true 317 5, ⟨some 35, some (33, true), 318, .bin .eql .int (.t 34) (.c (.d (.int .i64 0)))⟩, pk 36 319 33 35 false, mv 0 320 36]
def o14_3t4_7 : List AOper := (o14_3.drop 4).take 3
def o14_3t8_12 : List AOper := (o14_3.drop 8).take 4
def o14_3t13_16 : List AOper := (o14_3.drop 13).take 3
def o14_3t17_20 : List AOper := (o14_3.drop 17).take 3
def c14_5 : AC := .seq (.reg o14_3) .ret
def c14_6 : AC := .seq (.reg o14_2) c14_5
def c14_8 : AC := .seq (.reg o14_0) (.seq (.reg o14_1) c14_6)
theorem fn14 : fnA Try.prog 14 = some (37, [.t 0], c14_8) := by kernel_rfl
theorem ok_thrumlaw06_live : ∀ v, M_thrumlaw06_live = some v → EvF Try.prog 14 [] (en_thrumlaw06_live v) := by
  intro v hv
  refine EvF_go fn14 (Nat.le_of_ble_eq_true rfl) ?_
  suffices h : Ok (M_thrumlaw06_live) fun v => go Try.prog 37 (Fnl [.t 0] (en_thrumlaw06_live v) []) [.c c14_8] .norm (initSt (List.map PV.d []) []) from h v hv
  unfold M_thrumlaw06_live
  refine Av 7 [.o false (o14_1.drop 1), .c c14_6] ⟨[(7, sI (.s 1615) [1, 2, 5])], []⟩ ?_
  refine L_call (ok_index_Put 9 [1, 2, 5]) trivial rfl (fun _ => rfl) (fun _ => ⟨(flat_map_of fun _ => trivial), trivial, trivial⟩) (fun r1 => ?_)
  refine Av 9 [.o false (o14_2.drop 1), .c c14_5] ⟨[(12, sY (.s 1616) r1.1), (2, nI r1.2), (1, sY (.s 1616) r1.1)], []⟩ ?_
  refine L_call (ok_index_Get 9 r1.1 0) trivial rfl (fun _ => rfl) (fun _ => ⟨(flat_map_of fun _ => trivial), trivial, trivial, trivial⟩) (fun r2 => ?_)
  refine Av 12 [.o false (o14_3.drop 2), .c .ret] ⟨[(18, sY (.s 4831) [3, 1, 0, 2]), (17, sY (.s 1616) r1.1), (5, nI r2.2.2), (4, nI r2.2.1), (3, sI (.s 3216) r2.1), (2, nI r1.2)], []⟩ ?_
  refine L_call (ok_thrumref03_Same r1.1 [3, 1, 0, 2]) trivial rfl (fun _ => rfl) (fun _ => trivial) (fun r3 => ?_)
  refine Av 1 [.o false (o14_3.drop 4), .c .ret] ⟨[(20, bB r3), (5, nI r2.2.2), (4, nI r2.2.1), (3, sI (.s 3216) r2.1), (2, nI r1.2)], []⟩ ?_
  refine L_take 3 o14_3t4_7 (o14_3.drop 7) ?_
  refine L_join [.o false o14_3t4_7] [.o false (o14_3.drop 7), .c .ret] (fun x : Bool => ⟨[(23, bB x), (5, nI r2.2.2), (4, nI r2.2.1), (3, sI (.s 3216) r2.1)], []⟩) ?_ (fun j4 => ?_)
  · refine L_split 20 decT (fun _ => ?_) (fun _ => ?_)
    · refine Av 4 [] ⟨[(23, bB (r1.2 == 0)), (5, nI r2.2.2), (4, nI r2.2.1), (3, sI (.s 3216) r2.1)], []⟩ ?_
      exact L_end
    · refine Av 4 [] ⟨[(23, bB false), (5, nI r2.2.2), (4, nI r2.2.1), (3, sI (.s 3216) r2.1)], []⟩ ?_
      exact L_end
  · refine Av 1 [.o false (o14_3.drop 8), .c .ret] ⟨[(24, bB j4), (5, nI r2.2.2), (4, nI r2.2.1), (3, sI (.s 3216) r2.1)], []⟩ ?_
    refine L_take 4 o14_3t8_12 (o14_3.drop 12) ?_
    refine L_join [.o false o14_3t8_12] [.o false (o14_3.drop 12), .c .ret] (fun x : Bool => ⟨[(28, bB x), (5, nI r2.2.2), (4, nI r2.2.1)], []⟩) ?_ (fun j6 => ?_)
    · refine L_split 24 decT (fun _ => ?_) (fun _ => ?_)
      · refine Av 2 [.o false (o14_3t8_12.drop 2)] ⟨[(26, sI (.s 4959) [1, 2, 5]), (24, bB true), (25, sI (.s 3216) r2.1), (5, nI r2.2.2), (4, nI r2.2.1)], []⟩ ?_
        refine L_call (ok_thrumref06_Equal r2.1 [1, 2, 5]) rfl rfl (fun _ => rfl) (fun _ => trivial) (fun r5 => ?_)
        refine Av 2 [] ⟨[(28, bB r5), (5, nI r2.2.2), (4, nI r2.2.1)], []⟩ ?_
        exact L_end
      · refine Av 5 [] ⟨[(28, bB false), (5, nI r2.2.2), (4, nI r2.2.1)], []⟩ ?_
        exact L_end
    · refine Av 1 [.o false (o14_3.drop 13), .c .ret] ⟨[(29, bB j6), (5, nI r2.2.2), (4, nI r2.2.1)], []⟩ ?_
      refine L_take 3 o14_3t13_16 (o14_3.drop 16) ?_
      refine L_join [.o false o14_3t13_16] [.o false (o14_3.drop 16), .c .ret] (fun x : Bool => ⟨[(32, bB x), (5, nI r2.2.2)], []⟩) ?_ (fun j7 => ?_)
      · refine L_split 29 decT (fun _ => ?_) (fun _ => ?_)
        · refine Av 4 [] ⟨[(32, bB (r2.2.1 == 4)), (5, nI r2.2.2)], []⟩ ?_
          exact L_end
        · refine Av 4 [] ⟨[(32, bB false), (5, nI r2.2.2)], []⟩ ?_
          exact L_end
      · refine Av 1 [.o false (o14_3.drop 17), .c .ret] ⟨[(33, bB j7), (5, nI r2.2.2)], []⟩ ?_
        refine L_take 3 o14_3t17_20 (o14_3.drop 20) ?_
        refine L_join [.o false o14_3t17_20] [.o false (o14_3.drop 20), .c .ret] (fun x : Bool => ⟨[(36, bB x)], []⟩) ?_ (fun j8 => ?_)
        · refine L_split 33 decT (fun _ => ?_) (fun _ => ?_)
          · refine Av 4 [] ⟨[(36, bB (r2.2.2 == 0))], []⟩ ?_
            exact L_end
          · refine Av 4 [] ⟨[(36, bB false)], []⟩ ?_
            exact L_end
        · refine Avk 3 [] .ret ⟨[(0, bB j8)], []⟩ ?_
          exact L_ret
/-- thrum/thrumlaw06.few. -/
def en_thrumlaw06_few (v : Bool) : PV := bB v
def o15_0 : List AOper := [mb 2 0 false]
def o15_1 : List AOper := [mi 3 100 0]
def o15_2 : List AOper := [mv 6 200 0, ln 7 201 6, mi 8 202 0]
def o15_3 : List AOper := [bi 9 300 .lss 8 7]
def o15_4 : List AOper := [⟨some 10, none, 400, .idxA 1 (.t 6) (.t 8)⟩, ld 11 401 10, mv 5 402 11]
def o15_5 : List AOper := [mv 12 500 3, mv 13 501 5, ln 14 502 13, bi 15 503 .add 12 14, mv 3 504 15]
def o15_6 : List AOper := [bc 16 600 .add 8 1, mv 8 601 16]
def o15_7 : List AOper := [mv 17 700 3, bc 18 701 .leq 17 600, mv 19 702 18, gv 20 19 true 703 0, ⟨some 21, some (19, true), 704, .len (.t 20)⟩, ⟨some 22, some (19, true), 705, .bin .leq .int (.t 21) (.c (.d (.int .i64 100)))⟩, pk 23 706 19 22 false, mv 2 707 23]
def o15_7t3_7 : List AOper := (o15_7.drop 3).take 4
def c15_6 : AC := .cond (.t 9) .skip (.exit 0)
def c15_8 : AC := .reg o15_5
def c15_11 : AC := .reg o15_6
def c15_12 : AC := .seq (.block 1 (.seq (.reg o15_4) c15_8)) c15_11
def c15_14 : AC := .seq (.reg o15_3) (.seq c15_6 c15_12)
def c15_16 : AC := .block 0 (.loop c15_14)
def c15_20 : AC := .seq (.reg o15_7) .ret
def c15_23 : AC := .seq (.reg o15_0) (.seq (.reg o15_1) (.seq (.seq (.reg o15_2) c15_16) c15_20))
theorem fn15 : fnA Try.prog 15 = some (24, [.t 2], c15_23) := by kernel_rfl
def q_ok_thrumlaw06_few_l0_ok (a0 : List (List Int)) (x0 : Int) (x1 : Int) (v : Int) : Prop := (fun v => go Try.prog 24 (PostN (.exit 0) (fun x : Int => ⟨[(3, nI x), (0, .d (.lst (List.map (enL (D.int .i64)) a0)))], []⟩) v) [.l c15_14] .norm ⟨[(8, nI x0), (7, nI (a0.length : Int)), (6, .d (.lst (List.map (enL (D.int .i64)) a0))), (3, nI x1), (0, .d (.lst (List.map (enL (D.int .i64)) a0)))], []⟩) v
theorem ok_thrumlaw06_few_l0_ok (a0 : List (List Int)) (x0 : Int) (x1 : Int) : Ok (M_thrumlaw06_few_l0 a0 x0 x1) (q_ok_thrumlaw06_few_l0_ok a0 x0 x1) := by
  refine M_thrumlaw06_few_l0.partial_correctness a0 (q_ok_thrumlaw06_few_l0_ok a0) ?_ x0 x1
  clear x0 x1
  intro f' IH x0 x1
  refine okI ?_
  unfold q_ok_thrumlaw06_few_l0_ok at *
  refine Av 1 [.c c15_14, .l c15_14] ⟨[(8, nI x0), (7, nI (a0.length : Int)), (6, .d (.lst (List.map (enL (D.int .i64)) a0))), (3, nI x1), (0, .d (.lst (List.map (enL (D.int .i64)) a0)))], []⟩ ?_
  refine Av 5 [.c c15_6, .c c15_12, .l c15_14] ⟨[(9, bB (decide (x0 < (a0.length : Int)))), (8, nI x0), (7, nI (a0.length : Int)), (6, .d (.lst (List.map (enL (D.int .i64)) a0))), (3, nI x1), (0, .d (.lst (List.map (enL (D.int .i64)) a0)))], []⟩ ?_
  refine L_split 9 rfl (fun _ => ?_) (fun _ => ?_)
  · refine Av 6 [.o false o15_4, .c c15_8, .b 1, .c c15_11, .l c15_14] ⟨[(8, nI x0), (7, nI (a0.length : Int)), (6, .d (.lst (List.map (enL (D.int .i64)) a0))), (3, nI x1), (0, .d (.lst (List.map (enL (D.int .i64)) a0)))], []⟩ ?_
    refine L_idxD (enc := enL (D.int .i64)) (l := a0) (iv := x0) trivial rfl rfl (fun _ => rfl) (fun _ => ?_)
    refine Av 6 [.o false (o15_5.drop 2), .b 1, .c c15_11, .l c15_14] ⟨[(13, lI (at' a0 x0)), (12, nI x1), (8, nI x0), (7, nI (a0.length : Int)), (6, .d (.lst (List.map (enL (D.int .i64)) a0))), (0, .d (.lst (List.map (enL (D.int .i64)) a0)))], []⟩ ?_
    refine L_len (enc := D.int .i64) (l := at' a0 x0) trivial rfl ?_
    refine Av 8 [.l c15_14] ⟨[(8, nI (IntKind.i64.wrap (x0 + 1))), (3, nI (IntKind.i64.wrap (x1 + ((at' a0 x0).length : Int)))), (7, nI (a0.length : Int)), (6, .d (.lst (List.map (enL (D.int .i64)) a0))), (0, .d (.lst (List.map (enL (D.int .i64)) a0)))], []⟩ ?_
    exact L_again (IH (IntKind.i64.wrap (x0 + 1)) (IntKind.i64.wrap (x1 + ((at' a0 x0).length : Int))))
  · refine Avk 4 [] (.exit 0) ⟨[(3, nI x1), (0, .d (.lst (List.map (enL (D.int .i64)) a0)))], []⟩ ?_
    exact L_end
theorem ok_thrumlaw06_few (a0 : List (List Int)) : ∀ v, M_thrumlaw06_few a0 = some v → EvF Try.prog 15 [.lst (List.map (enL (D.int .i64)) a0)] (en_thrumlaw06_few v) := by
  intro v hv
  refine EvF_go fn15 (Nat.le_of_ble_eq_true rfl) ?_
  suffices h : Ok (M_thrumlaw06_few a0) fun v => go Try.prog 24 (Fnl [.t 2] (en_thrumlaw06_few v) []) [.c c15_23] .norm (initSt (List.map PV.d [.lst (List.map (enL (D.int .i64)) a0)]) []) from h v hv
  unfold M_thrumlaw06_few
  refine Av 12 [.o false (o15_2.drop 1), .c c15_16, .c c15_20] ⟨[(6, .d (.lst (List.map (enL (D.int .i64)) a0))), (3, nI 0), (0, .d (.lst (List.map (enL (D.int .i64)) a0)))], []⟩ ?_
  refine L_len (enc := enL (D.int .i64)) (l := a0) trivial rfl ?_
  refine Av 4 [.l c15_14, .b 0, .c c15_20] ⟨[(8, nI 0), (7, nI (a0.length : Int)), (6, .d (.lst (List.map (enL (D.int .i64)) a0))), (3, nI 0), (0, .d (.lst (List.map (enL (D.int .i64)) a0)))], []⟩ ?_
  refine L_piece (fs := [.l c15_14]) (ks := [.b 0, .c c15_20]) (ok_thrumlaw06_few_l0_ok a0 0 0) (fun j1 => ?_)
  refine Av 6 [.o false (o15_7.drop 3), .c .ret] ⟨[(19, bB (decide (j1 ≤ 600))), (0, .d (.lst (List.map (enL (D.int .i64)) a0)))], []⟩ ?_
  refine L_take 4 o15_7t3_7 (o15_7.drop 7) ?_
  refine L_join [.o false o15_7t3_7] [.o false (o15_7.drop 7), .c .ret] (fun x : Bool => ⟨[(23, bB x)], []⟩) ?_ (fun j2 => ?_)
  · refine L_split 19 rfl (fun _ => ?_) (fun _ => ?_)
    · refine Av 1 [.o false (o15_7t3_7.drop 1)] ⟨[(20, .d (.lst (List.map (enL (D.int .i64)) a0))), (19, bB true)], []⟩ ?_
      refine L_len (enc := enL (D.int .i64)) (l := a0) rfl rfl ?_
      refine Av 3 [] ⟨[(23, bB (decide ((a0.length : Int) ≤ 100)))], []⟩ ?_
      exact L_end
    · refine Av 5 [] ⟨[(23, bB false)], []⟩ ?_
      exact L_end
  · refine Avk 3 [] .ret ⟨[(2, bB j2)], []⟩ ?_
    exact L_ret
/-- thrum/thrumref06.rises. -/
def en_thrumref06_rises (v : Bool) : PV := bB v
def o53_0 : List AOper := [mb 2 0 false]
def o53_1 : List AOper := [mi 3 100 1]
def o53_2 : List AOper := [mv 4 200 3, mv 5 201 0, ln 6 202 5, bi 7 203 .lss 4 6]
def o53_3 : List AOper := [mv 10 400 0, mv 11 401 3, ⟨some 12, none, 402, .idxA 1 (.t 10) (.t 11)⟩, ld 13 403 12, mv 14 404 0, mv 15 405 3, bc 16 406 .sub 15 1, ⟨some 17, none, 407, .idxA 1 (.t 14) (.t 16)⟩, ld 18 408 17, bi 19 409 .leq 13 18]
def o53_4 : List AOper := [mb 2 500 false]
def o53_5 : List AOper := [mv 8 300 3, bc 9 301 .add 8 1, mv 3 302 9]
def o53_6 : List AOper := [mb 2 600 true]
def c53_5 : AC := .cond (.t 7) .skip (.exit 0)
def c53_7 : AC := .draw [⟨mv 10 400 0, false, []⟩, ⟨mv 11 401 3, false, []⟩, ⟨⟨some 12, none, 402, .idxA 1 (.t 10) (.t 11)⟩, false, []⟩, ⟨ld 13 403 12, false, []⟩, ⟨mv 14 404 0, false, []⟩, ⟨mv 15 405 3, false, []⟩, ⟨bc 16 406 .sub 15 1, false, []⟩, ⟨⟨some 17, none, 407, .idxA 1 (.t 14) (.t 16)⟩, false, []⟩, ⟨ld 18 408 17, false, []⟩, ⟨bi 19 409 .leq 13 18, false, []⟩]
def c53_12 : AC := .cond (.t 19) (.seq (.reg o53_4) .ret) .skip
def c53_15 : AC := .reg o53_5
def c53_16 : AC := .seq (.block 1 (.seq c53_7 c53_12)) c53_15
def c53_17 : AC := .seq (.seq (.reg o53_2) c53_5) c53_16
def c53_23 : AC := .seq (.reg o53_6) .ret
def c53_25 : AC := .seq (.reg o53_0) (.seq (.seq (.reg o53_1) (.block 0 (.loop c53_17))) c53_23)
theorem fn53 : fnA Try.prog 53 = some (20, [.t 2], c53_25) := by kernel_rfl
def q_ok_thrumref06_rises_l0_ok (a0 : List Int) (x0 : Int) (v : (Sum Bool Unit)) : Prop := (fun v => go Try.prog 20 (PostR (fun r => Fnl [.t 2] (en_thrumref06_rises r) []) (.exit 0) (fun x : Unit => ⟨[], []⟩) v) [.l c53_17] .norm ⟨[(3, nI x0), (0, lI a0)], []⟩) v
theorem ok_thrumref06_rises_l0_ok (a0 : List Int) (x0 : Int) : Ok (M_thrumref06_rises_l0 a0 x0) (q_ok_thrumref06_rises_l0_ok a0 x0) := by
  refine M_thrumref06_rises_l0.partial_correctness a0 (q_ok_thrumref06_rises_l0_ok a0) ?_ x0
  clear x0
  intro f' IH x0
  refine okI ?_
  unfold q_ok_thrumref06_rises_l0_ok at *
  refine Av 1 [.c c53_17, .l c53_17] ⟨[(3, nI x0), (0, lI a0)], []⟩ ?_
  refine Av 5 [.o false (o53_2.drop 2), .c c53_5, .c c53_16, .l c53_17] ⟨[(5, lI a0), (4, nI x0), (3, nI x0), (0, lI a0)], []⟩ ?_
  refine L_len (enc := D.int .i64) (l := a0) trivial rfl ?_
  refine Av 2 [.c c53_5, .c c53_16, .l c53_17] ⟨[(7, bB (decide (x0 < (a0.length : Int)))), (3, nI x0), (0, lI a0)], []⟩ ?_
  refine L_split 7 rfl (fun _ => ?_) (fun _ => ?_)
  · refine Av 5 [.c c53_7, .c c53_12, .b 1, .c c53_15, .l c53_17] ⟨[(3, nI x0), (0, lI a0)], []⟩ ?_
    refine Ae 3 [.o true (o53_3.drop 2), .c c53_12, .b 1, .c c53_15, .l c53_17] ⟨[(11, nI x0), (10, lI a0), (3, nI x0), (0, lI a0)], []⟩ ?_
    refine L_idxD (enc := D.int .i64) (l := a0) (iv := x0) trivial rfl rfl (fun _ => rfl) (fun _ => ?_)
    refine Ae 4 [.o true (o53_3.drop 7), .c c53_12, .b 1, .c c53_15, .l c53_17] ⟨[(16, nI (IntKind.i64.wrap (x0 - 1))), (15, nI x0), (14, lI a0), (13, nI (at' a0 x0)), (12, .d (.cp [.int .i64 (at' a0 x0)] 0)), (11, nI x0), (10, lI a0), (3, nI x0), (0, lI a0)], []⟩ ?_
    refine L_idxD (enc := D.int .i64) (l := a0) (iv := IntKind.i64.wrap (x0 - 1)) trivial rfl rfl (fun _ => rfl) (fun _ => ?_)
    refine Av 3 [.c c53_12, .b 1, .c c53_15, .l c53_17] ⟨[(19, bB (decide ((at' a0 x0) ≤ (at' a0 (IntKind.i64.wrap (x0 - 1)))))), (3, nI x0), (0, lI a0)], []⟩ ?_
    refine L_split 19 rfl (fun _ => ?_) (fun _ => ?_)
    · refine Avk 9 [] .ret ⟨[(2, bB false)], []⟩ ?_
      exact L_retR
    · refine Av 8 [.l c53_17] ⟨[(3, nI (IntKind.i64.wrap (x0 + 1))), (0, lI a0)], []⟩ ?_
      exact L_again (IH (IntKind.i64.wrap (x0 + 1)))
  · refine Avk 4 [] (.exit 0) ⟨[], []⟩ ?_
    exact L_endR
theorem ok_thrumref06_rises (a0 : List Int) : ∀ v, M_thrumref06_rises a0 = some v → EvF Try.prog 53 [.lst (List.map (D.int .i64) a0)] (en_thrumref06_rises v) := by
  intro v hv
  refine EvF_go fn53 (Nat.le_of_ble_eq_true rfl) ?_
  suffices h : Ok (M_thrumref06_rises a0) fun v => go Try.prog 20 (Fnl [.t 2] (en_thrumref06_rises v) []) [.c c53_25] .norm (initSt (List.map PV.d [.lst (List.map (D.int .i64) a0)]) []) from h v hv
  unfold M_thrumref06_rises
  refine Av 11 [.l c53_17, .b 0, .c c53_23] ⟨[(3, nI 1), (0, lI a0)], []⟩ ?_
  refine L_pieceR (fs := [.l c53_17]) (ks := [.b 0, .c c53_23]) (ok_thrumref06_rises_l0_ok a0 1) L_thru (fun j1 => ?_)
  refine Avk 6 [] .ret ⟨[(2, bB true)], []⟩ ?_
  exact L_ret
/-- thrum/thrumref06.Check. -/
def en_thrumref06_Check (v : Int) : PV := nI v
def o23_0 : List AOper := [mi 4 0 0]
def o23_1 : List AOper := [mv 7 100 0, bc 8 101 .lss 7 1, mv 9 102 8, gv 10 9 false 103 0, ⟨some 11, some (9, false), 104, .bin .gtr .int (.t 10) (.c (.d (.int .i64 4096)))⟩, pz 12 105 9 11 true, mv 13 106 12, gv 14 13 false 107 1, ⟨some 15, some (13, false), 108, .call 53 [.t 14]⟩, ⟨some 16, some (13, false), 109, .un .not (.t 15)⟩, pz 17 110 13 16 true]
def o23_2 : List AOper := [mi 4 200 1]
def o23_3 : List AOper := [mv 18 300 1, ln 19 301 18, mi 20 302 0]
def o23_4 : List AOper := [bi 21 400 .lss 20 19]
def o23_5 : List AOper := [⟨some 22, none, 500, .idxA 1 (.t 18) (.t 20)⟩, ld 23 501 22, mv 6 502 23]
def o23_6 : List AOper := [mv 24 600 6, bc 25 601 .lss 24 0, mv 26 602 25, gv 27 26 false 603 6, gv 28 26 false 604 0, ⟨some 29, some (26, false), 605, .bin .geq .int (.t 27) (.t 28)⟩, pz 30 606 26 29 true]
def o23_7 : List AOper := [mi 4 700 1]
def o23_8 : List AOper := [bc 31 800 .add 20 1, mv 20 801 31]
def o23_9 : List AOper := [mi 4 900 0]
def o23_1t3_6 : List AOper := (o23_1.drop 3).take 3
def o23_1t7_11 : List AOper := (o23_1.drop 7).take 4
def o23_6t3_7 : List AOper := (o23_6.drop 3).take 4
def c23_6 : AC := .cond (.t 17) (.seq (.reg o23_2) .ret) .skip
def c23_12 : AC := .cond (.t 21) .skip (.exit 0)
def c23_19 : AC := .cond (.t 30) (.seq (.reg o23_7) .ret) .skip
def c23_20 : AC := .seq (.reg o23_6) c23_19
def c23_23 : AC := .reg o23_8
def c23_24 : AC := .seq (.block 1 (.seq (.reg o23_5) c23_20)) c23_23
def c23_26 : AC := .seq (.reg o23_4) (.seq c23_12 c23_24)
def c23_28 : AC := .block 0 (.loop c23_26)
def c23_32 : AC := .seq (.reg o23_9) .ret
def c23_33 : AC := .seq (.seq (.reg o23_3) c23_28) c23_32
def c23_35 : AC := .seq (.reg o23_0) (.seq (.seq (.reg o23_1) c23_6) c23_33)
theorem fn23 : fnA Try.prog 23 = some (32, [.t 4], c23_35) := by kernel_rfl
def q_ok_thrumref06_Check_l0_ok (a0 : Int) (a1 : List Int) (x0 : Int) (v : (Sum Int Unit)) : Prop := (fun v => go Try.prog 32 (PostR (fun r => Fnl [.t 4] (en_thrumref06_Check r) []) (.exit 0) (fun x : Unit => ⟨[], []⟩) v) [.l c23_26] .norm ⟨[(20, nI x0), (19, nI (a1.length : Int)), (18, lI a1), (0, nI a0)], []⟩) v
theorem ok_thrumref06_Check_l0_ok (a0 : Int) (a1 : List Int) (x0 : Int) : Ok (M_thrumref06_Check_l0 a0 a1 x0) (q_ok_thrumref06_Check_l0_ok a0 a1 x0) := by
  refine M_thrumref06_Check_l0.partial_correctness a0 a1 (q_ok_thrumref06_Check_l0_ok a0 a1) ?_ x0
  clear x0
  intro f' IH x0
  refine okI ?_
  unfold q_ok_thrumref06_Check_l0_ok at *
  refine Av 1 [.c c23_26, .l c23_26] ⟨[(20, nI x0), (19, nI (a1.length : Int)), (18, lI a1), (0, nI a0)], []⟩ ?_
  refine Av 5 [.c c23_12, .c c23_24, .l c23_26] ⟨[(21, bB (decide (x0 < (a1.length : Int)))), (20, nI x0), (19, nI (a1.length : Int)), (18, lI a1), (0, nI a0)], []⟩ ?_
  refine L_split 21 rfl (fun _ => ?_) (fun _ => ?_)
  · refine Av 6 [.o false o23_5, .c c23_20, .b 1, .c c23_23, .l c23_26] ⟨[(20, nI x0), (19, nI (a1.length : Int)), (18, lI a1), (0, nI a0)], []⟩ ?_
    refine L_idxD (enc := D.int .i64) (l := a1) (iv := x0) trivial rfl rfl (fun _ => rfl) (fun _ => ?_)
    refine Av 8 [.o false (o23_6.drop 3), .c c23_19, .b 1, .c c23_23, .l c23_26] ⟨[(26, bB (decide ((at' a1 x0) < 0))), (6, nI (at' a1 x0)), (20, nI x0), (19, nI (a1.length : Int)), (18, lI a1), (0, nI a0)], []⟩ ?_
    refine L_take 4 o23_6t3_7 (o23_6.drop 7) ?_
    refine L_join [.o false o23_6t3_7] [.o false (o23_6.drop 7), .c c23_19, .b 1, .c c23_23, .l c23_26] (fun x : Bool => ⟨[(30, bB x), (20, nI x0), (19, nI (a1.length : Int)), (18, lI a1), (0, nI a0)], []⟩) ?_ (fun j4 => ?_)
    · refine L_split 26 rfl (fun _ => ?_) (fun _ => ?_)
      · refine Av 5 [] ⟨[(30, bB true), (20, nI x0), (19, nI (a1.length : Int)), (18, lI a1), (0, nI a0)], []⟩ ?_
        exact L_end
      · refine Av 5 [] ⟨[(30, bB (decide ((at' a1 x0) ≥ a0))), (20, nI x0), (19, nI (a1.length : Int)), (18, lI a1), (0, nI a0)], []⟩ ?_
        exact L_end
    · refine Av 1 [.c c23_19, .b 1, .c c23_23, .l c23_26] ⟨[(30, bB j4), (20, nI x0), (19, nI (a1.length : Int)), (18, lI a1), (0, nI a0)], []⟩ ?_
      refine L_split 30 decT (fun _ => ?_) (fun _ => ?_)
      · refine Avk 9 [] .ret ⟨[(4, nI 1)], []⟩ ?_
        exact L_retR
      · refine Av 7 [.l c23_26] ⟨[(20, nI (IntKind.i64.wrap (x0 + 1))), (19, nI (a1.length : Int)), (18, lI a1), (0, nI a0)], []⟩ ?_
        exact L_again (IH (IntKind.i64.wrap (x0 + 1)))
  · refine Avk 4 [] (.exit 0) ⟨[], []⟩ ?_
    exact L_endR
theorem ok_thrumref06_Check (a0 : Int) (a1 : List Int) : ∀ v, M_thrumref06_Check a0 a1 = some v → EvF Try.prog 23 [.int .i64 a0, .lst (List.map (D.int .i64) a1)] (en_thrumref06_Check v) := by
  intro v hv
  refine EvF_go fn23 (Nat.le_of_ble_eq_true rfl) ?_
  suffices h : Ok (M_thrumref06_Check a0 a1) fun v => go Try.prog 32 (Fnl [.t 4] (en_thrumref06_Check v) []) [.c c23_35] .norm (initSt (List.map PV.d [.int .i64 a0, .lst (List.map (D.int .i64) a1)]) []) from h v hv
  unfold M_thrumref06_Check
  refine Av 10 [.o false (o23_1.drop 3), .c c23_6, .c c23_33] ⟨[(9, bB (decide (a0 < 1))), (0, nI a0), (1, lI a1)], []⟩ ?_
  refine L_take 3 o23_1t3_6 (o23_1.drop 6) ?_
  refine L_join [.o false o23_1t3_6] [.o false (o23_1.drop 6), .c c23_6, .c c23_33] (fun x : Bool => ⟨[(12, bB x), (0, nI a0), (1, lI a1)], []⟩) ?_ (fun j1 => ?_)
  · refine L_split 9 rfl (fun _ => ?_) (fun _ => ?_)
    · refine Av 4 [] ⟨[(12, bB true), (0, nI a0), (1, lI a1)], []⟩ ?_
      exact L_end
    · refine Av 4 [] ⟨[(12, bB (decide (a0 > 4096))), (0, nI a0), (1, lI a1)], []⟩ ?_
      exact L_end
  · refine Av 1 [.o false (o23_1.drop 7), .c c23_6, .c c23_33] ⟨[(13, bB j1), (0, nI a0), (1, lI a1)], []⟩ ?_
    refine L_take 4 o23_1t7_11 (o23_1.drop 11) ?_
    refine L_join [.o false o23_1t7_11] [.o false (o23_1.drop 11), .c c23_6, .c c23_33] (fun x : Bool => ⟨[(17, bB x), (0, nI a0), (1, lI a1)], []⟩) ?_ (fun j3 => ?_)
    · refine L_split 13 decT (fun _ => ?_) (fun _ => ?_)
      · refine Av 5 [] ⟨[(17, bB true), (0, nI a0), (1, lI a1)], []⟩ ?_
        exact L_end
      · refine Av 1 [.o false (o23_1t7_11.drop 1)] ⟨[(14, lI a1), (13, bB false), (0, nI a0), (1, lI a1)], []⟩ ?_
        refine L_call (ok_thrumref06_rises a1) rfl rfl (fun _ => rfl) (fun _ => trivial) (fun r2 => ?_)
        refine Av 3 [] ⟨[(17, bB (!r2)), (0, nI a0), (1, lI a1)], []⟩ ?_
        exact L_end
    · refine Av 1 [.c c23_6, .c c23_33] ⟨[(17, bB j3), (0, nI a0), (1, lI a1)], []⟩ ?_
      refine L_split 17 decT (fun _ => ?_) (fun _ => ?_)
      · refine Avk 7 [] .ret ⟨[(4, nI 1)], []⟩ ?_
        exact L_ret
      · refine Av 6 [.o false (o23_3.drop 1), .c c23_28, .c c23_32] ⟨[(18, lI a1), (0, nI a0)], []⟩ ?_
        refine L_len (enc := D.int .i64) (l := a1) trivial rfl ?_
        refine Av 4 [.l c23_26, .b 0, .c c23_32] ⟨[(20, nI 0), (19, nI (a1.length : Int)), (18, lI a1), (0, nI a0)], []⟩ ?_
        refine L_pieceR (fs := [.l c23_26]) (ks := [.b 0, .c c23_32]) (ok_thrumref06_Check_l0_ok a0 a1 0) L_thru (fun j5 => ?_)
        refine Avk 6 [] .ret ⟨[(4, nI 0)], []⟩ ?_
        exact L_ret
/-- thrum/thrumref03.code. -/
def en_thrumref03_code (v : (List Int)) : PV := sY (.s 0) v
def o65_0 : List AOper := [⟨some 2, none, 0, .mov (.c .nils)⟩]
def o65_1 : List AOper := [mv 3 100 0, ⟨some 4, none, 101, .bin .lss .int (.t 3) (.c (.d (.int .u64 128)))⟩]
def o65_2 : List AOper := [mv 5 200 0, ⟨some 6, none, 201, .convI .u8 (.t 5)⟩, ⟨some 7, none, 202, .bslice 5 1 [.t 6]⟩, mv 2 203 7]
def o65_3 : List AOper := [mv 8 300 0, ⟨some 9, none, 301, .bin .rem .int (.t 8) (.c (.d (.int .u64 128)))⟩, ⟨some 10, none, 302, .convI .u8 (.t 9)⟩, ⟨some 11, none, 303, .bin .add .int (.t 10) (.c (.d (.int .u8 128)))⟩, ⟨some 12, none, 304, .bslice 5 1 [.t 11]⟩, mv 13 305 0, ⟨some 14, none, 306, .bin .quo .int (.t 13) (.c (.d (.int .u64 128)))⟩, cl' 15 307 65 [.t 14], ⟨some 16, none, 308, .app 5 1 1 (.t 12) (.t 15)⟩, mv 2 309 16]
def c65_6 : AC := .cond (.t 4) (.seq (.reg o65_2) .ret) .skip
def c65_10 : AC := .seq (.reg o65_3) .ret
def c65_12 : AC := .seq (.reg o65_0) (.seq (.seq (.reg o65_1) c65_6) c65_10)
theorem fn65 : fnA Try.prog 65 = some (17, [.t 2], c65_12) := by kernel_rfl
theorem ok_thrumref03_code (a0 : Int) : ∀ v, M_thrumref03_code a0 = some v → EvF Try.prog 65 [.int .u64 a0] (en_thrumref03_code v) := by
  refine M_thrumref03_code.partial_correctness (fun a0 v => EvF Try.prog 65 [.int .u64 a0] (en_thrumref03_code v)) ?_ a0
  clear a0
  intro f' IH a0 v hv
  refine EvF_go fn65 (Nat.le_of_ble_eq_true rfl) ?_
  suffices h : Ok _ fun v => go Try.prog 17 (Fnl [.t 2] (en_thrumref03_code v) []) [.c c65_12] .norm (initSt (List.map PV.d [.int .u64 a0]) []) from h v hv
  clear hv v
  refine Av 10 [.c c65_6, .c c65_10] ⟨[(4, bB (decide (a0 < 128))), (0, nU a0)], []⟩ ?_
  refine L_split 4 rfl (fun _ => ?_) (fun _ => ?_)
  · refine Avk 10 [] .ret ⟨[(2, sY (.s 3247) [IntKind.u8.wrap a0])], []⟩ ?_
    exact L_ret
  · refine Av 11 [.o false (o65_3.drop 7), .c .ret] ⟨[(14, nU (IntKind.u64.wrap (Int.tdiv a0 128))), (12, sY (.s 4879) [IntKind.u8.wrap ((IntKind.u8.wrap (Int.tmod a0 128)) + 128)])], []⟩ ?_
    refine L_call (fun v hv => IH (IntKind.u64.wrap (Int.tdiv a0 128)) v hv) trivial rfl (fun _ => rfl) (fun _ => (flat_map_of fun _ => trivial)) (fun r1 => ?_)
    refine Av 0 [.o false (o65_3.drop 8), .c .ret] ⟨[(15, sY (.s 4912) r1), (12, sY (.s 4879) [IntKind.u8.wrap ((IntKind.u8.wrap (Int.tmod a0 128)) + 128)])], []⟩ ?_
    refine L_app (enc := D.int .u8) (l := [IntKind.u8.wrap ((IntKind.u8.wrap (Int.tmod a0 128)) + 128)]) (l2 := r1) trivial rfl rfl (fun _ => rfl) (fun _ => ?_)
    refine Avk 3 [] .ret ⟨[(2, sY (.s 4943) ([IntKind.u8.wrap ((IntKind.u8.wrap (Int.tmod a0 128)) + 128)] ++ r1))], []⟩ ?_
    exact L_ret
/-- thrum/thrumref03.Put. -/
def en_thrumref03_Put (v : (List Int)) : PV := sY (.s 0) v
def o48_0 : List AOper := [⟨some 4, none, 0, .mov (.c .nils)⟩]
def o48_1 : List AOper := [mv 8 100 0, ⟨some 9, none, 101, .app 5 1 1 (.c .nils) (.t 8)⟩, mv 5 102 9]
def o48_2 : List AOper := [mv 10 200 1, ln 11 201 10, mi 12 202 0]
def o48_3 : List AOper := [bi 13 300 .lss 12 11]
def o48_4 : List AOper := [⟨some 14, none, 400, .idxA 1 (.t 10) (.t 12)⟩, ld 15 401 14, mv 7 402 15]
def o48_5 : List AOper := [mv 16 500 5, mv 17 501 7, cl' 18 502 65 [.t 17], ⟨some 19, none, 503, .app 5 1 1 (.t 16) (.t 18)⟩, mv 5 504 19]
def o48_6 : List AOper := [bc 20 600 .add 12 1, mv 12 601 20]
def o48_7 : List AOper := [mv 21 700 5, mv 4 701 21]
def c48_6 : AC := .cond (.t 13) .skip (.exit 0)
def c48_8 : AC := .reg o48_5
def c48_11 : AC := .reg o48_6
def c48_12 : AC := .seq (.block 1 (.seq (.reg o48_4) c48_8)) c48_11
def c48_14 : AC := .seq (.reg o48_3) (.seq c48_6 c48_12)
def c48_16 : AC := .block 0 (.loop c48_14)
def c48_20 : AC := .seq (.reg o48_7) .ret
def c48_21 : AC := .seq (.seq (.reg o48_2) c48_16) c48_20
def c48_23 : AC := .seq (.reg o48_0) (.seq (.reg o48_1) c48_21)
theorem fn48 : fnA Try.prog 48 = some (22, [.t 4], c48_23) := by kernel_rfl
def q_ok_thrumref03_Put_l0_ok (a1 : List Int) (x0 : Int) (x1 : List Int) (v : (List Int)) : Prop := (fun v => go Try.prog 22 (PostN (.exit 0) (fun x : (List Int) => ⟨[(5, sY (.h 0) x)], []⟩) v) [.l c48_14] .norm ⟨[(12, nI x0), (11, nI (a1.length : Int)), (10, lU a1), (5, sY (.h 0) x1)], []⟩) v
theorem ok_thrumref03_Put_l0_ok (a1 : List Int) (x0 : Int) (x1 : List Int) : Ok (M_thrumref03_Put_l0 a1 x0 x1) (q_ok_thrumref03_Put_l0_ok a1 x0 x1) := by
  refine M_thrumref03_Put_l0.partial_correctness a1 (q_ok_thrumref03_Put_l0_ok a1) ?_ x0 x1
  clear x0 x1
  intro f' IH x0 x1
  refine okI ?_
  unfold q_ok_thrumref03_Put_l0_ok at *
  refine Av 1 [.c c48_14, .l c48_14] ⟨[(12, nI x0), (11, nI (a1.length : Int)), (10, lU a1), (5, sY (.h 0) x1)], []⟩ ?_
  refine Av 5 [.c c48_6, .c c48_12, .l c48_14] ⟨[(13, bB (decide (x0 < (a1.length : Int)))), (12, nI x0), (11, nI (a1.length : Int)), (10, lU a1), (5, sY (.h 0) x1)], []⟩ ?_
  refine L_split 13 rfl (fun _ => ?_) (fun _ => ?_)
  · refine Av 6 [.o false o48_4, .c c48_8, .b 1, .c c48_11, .l c48_14] ⟨[(12, nI x0), (11, nI (a1.length : Int)), (10, lU a1), (5, sY (.h 0) x1)], []⟩ ?_
    refine L_idxD (enc := D.int .u64) (l := a1) (iv := x0) trivial rfl rfl (fun _ => rfl) (fun _ => ?_)
    refine Av 6 [.o false (o48_5.drop 2), .b 1, .c c48_11, .l c48_14] ⟨[(17, nU (at' a1 x0)), (16, sY (.h 0) x1), (12, nI x0), (11, nI (a1.length : Int)), (10, lU a1)], []⟩ ?_
    refine L_call (ok_thrumref03_code (at' a1 x0)) trivial rfl (fun _ => rfl) (fun _ => (flat_map_of fun _ => trivial)) (fun r1 => ?_)
    refine Av 0 [.o false (o48_5.drop 3), .b 1, .c c48_11, .l c48_14] ⟨[(18, sY (.s 8032) r1), (16, sY (.h 0) x1), (12, nI x0), (11, nI (a1.length : Int)), (10, lU a1)], []⟩ ?_
    refine L_app (enc := D.int .u8) (l := x1) (l2 := r1) trivial rfl rfl (fun _ => rfl) (fun _ => ?_)
    refine Av 7 [.l c48_14] ⟨[(12, nI (IntKind.i64.wrap (x0 + 1))), (5, sY (.s 8063) (x1 ++ r1)), (11, nI (a1.length : Int)), (10, lU a1)], []⟩ ?_
    exact L_again (IH (IntKind.i64.wrap (x0 + 1)) (x1 ++ r1))
  · refine Avk 4 [] (.exit 0) ⟨[(5, sY (.h 0) x1)], []⟩ ?_
    exact L_end
theorem ok_thrumref03_Put (a0 : List Int) (a1 : List Int) : ∀ v, M_thrumref03_Put a0 a1 = some v → EvF Try.prog 48 [.lst (List.map (D.int .u8) a0), .lst (List.map (D.int .u64) a1)] (en_thrumref03_Put v) := by
  intro v hv
  refine EvF_go fn48 (Nat.le_of_ble_eq_true rfl) ?_
  suffices h : Ok (M_thrumref03_Put a0 a1) fun v => go Try.prog 22 (Fnl [.t 4] (en_thrumref03_Put v) []) [.c c48_23] .norm (initSt (List.map PV.d [.lst (List.map (D.int .u8) a0), .lst (List.map (D.int .u64) a1)]) []) from h v hv
  unfold M_thrumref03_Put
  refine Av 7 [.o false (o48_1.drop 1), .c c48_21] ⟨[(8, lY a0), (1, lU a1)], []⟩ ?_
  refine L_appN (enc := D.int .u8) (l2 := a0) trivial rfl rfl (fun _ => rfl) (fun _ => ?_)
  refine Av 6 [.o false (o48_2.drop 1), .c c48_16, .c c48_20] ⟨[(10, lU a1), (5, sY (.s 1631) a0)], []⟩ ?_
  refine L_len (enc := D.int .u64) (l := a1) trivial rfl ?_
  refine Av 4 [.l c48_14, .b 0, .c c48_20] ⟨[(12, nI 0), (11, nI (a1.length : Int)), (10, lU a1), (5, sY (.s 1631) a0)], []⟩ ?_
  refine L_piece (fs := [.l c48_14]) (ks := [.b 0, .c c48_20]) (ok_thrumref03_Put_l0_ok a1 0 a0) (fun j2 => ?_)
  refine Avk 7 [] .ret ⟨[(4, sY (.h 0) j2)], []⟩ ?_
  exact L_ret
/-- thrum/thrumref06.Put. -/
def en_thrumref06_Put (v : (List Int) × Int) : PV := .tup [sY (.s 0) v.1, nI v.2]
def o17_0 : List AOper := [⟨some 4, none, 0, .mov (.c .nils)⟩, mi 5 1 0]
def o17_1 : List AOper := [mv 11 100 0, mv 12 101 1, cl' 13 102 23 [.t 11, .t 12], mv 6 103 13]
def o17_2 : List AOper := [mv 14 200 6, bc 15 201 .neq 14 0]
def o17_3 : List AOper := [mv 16 300 6, ⟨some 4, none, 301, .mov (.c .nils)⟩, mv 5 302 16]
def o17_4 : List AOper := [mv 17 400 1, ln 18 401 17, ⟨some 19, none, 402, .convI .u64 (.t 18)⟩, ⟨some 20, none, 403, .bslice 64 1 [.t 19]⟩, cl' 21 404 48 [.c (.nils), .t 20], mv 7 405 21]
def o17_5 : List AOper := [mi 8 500 (-1)]
def o17_6 : List AOper := [mv 22 600 1, ln 23 601 22, mi 24 602 0]
def o17_7 : List AOper := [bi 25 700 .lss 24 23]
def o17_8 : List AOper := [⟨some 26, none, 800, .idxA 1 (.t 22) (.t 24)⟩, ld 27 801 26, mv 10 802 27]
def o17_9 : List AOper := [mv 28 900 7, mv 29 901 10, mv 30 902 8, bi 31 903 .sub 29 30, bc 32 904 .sub 31 1, ⟨some 33, none, 905, .convI .u64 (.t 32)⟩, ⟨some 34, none, 906, .bslice 64 1 [.t 33]⟩, cl' 35 907 48 [.t 28, .t 34], mv 7 908 35]
def o17_10 : List AOper := [mv 36 1000 10, mv 8 1001 36]
def o17_11 : List AOper := [bc 37 1100 .add 24 1, mv 24 1101 37]
def o17_12 : List AOper := [mv 38 1200 7, mv 4 1201 38, mi 5 1202 0]
def c17_7 : AC := .cond (.t 15) (.seq (.reg o17_3) .ret) .skip
def c17_8 : AC := .seq (.reg o17_2) c17_7
def c17_16 : AC := .cond (.t 25) .skip (.exit 0)
def c17_19 : AC := .reg o17_10
def c17_20 : AC := .seq (.reg o17_9) c17_19
def c17_23 : AC := .reg o17_11
def c17_24 : AC := .seq (.block 1 (.seq (.reg o17_8) c17_20)) c17_23
def c17_26 : AC := .seq (.reg o17_7) (.seq c17_16 c17_24)
def c17_28 : AC := .block 0 (.loop c17_26)
def c17_32 : AC := .seq (.reg o17_12) .ret
def c17_34 : AC := .seq (.reg o17_5) (.seq (.seq (.reg o17_6) c17_28) c17_32)
def c17_35 : AC := .seq (.reg o17_4) c17_34
def c17_37 : AC := .seq (.reg o17_0) (.seq (.seq (.reg o17_1) c17_8) c17_35)
theorem fn17 : fnA Try.prog 17 = some (39, [.t 4, .t 5], c17_37) := by kernel_rfl
def q_ok_thrumref06_Put_l0_ok (a1 : List Int) (x0 : Int) (x1 : Int) (x2 : List Int) (v : (List Int)) : Prop := (fun v => go Try.prog 39 (PostN (.exit 0) (fun x : (List Int) => ⟨[(7, sY (.h 0) x)], []⟩) v) [.l c17_26] .norm ⟨[(24, nI x0), (23, nI (a1.length : Int)), (22, lI a1), (8, nI x1), (7, sY (.h 0) x2)], []⟩) v
theorem ok_thrumref06_Put_l0_ok (a1 : List Int) (x0 : Int) (x1 : Int) (x2 : List Int) : Ok (M_thrumref06_Put_l0 a1 x0 x1 x2) (q_ok_thrumref06_Put_l0_ok a1 x0 x1 x2) := by
  refine M_thrumref06_Put_l0.partial_correctness a1 (q_ok_thrumref06_Put_l0_ok a1) ?_ x0 x1 x2
  clear x0 x1 x2
  intro f' IH x0 x1 x2
  refine okI ?_
  unfold q_ok_thrumref06_Put_l0_ok at *
  refine Av 1 [.c c17_26, .l c17_26] ⟨[(24, nI x0), (23, nI (a1.length : Int)), (22, lI a1), (8, nI x1), (7, sY (.h 0) x2)], []⟩ ?_
  refine Av 5 [.c c17_16, .c c17_24, .l c17_26] ⟨[(25, bB (decide (x0 < (a1.length : Int)))), (24, nI x0), (23, nI (a1.length : Int)), (22, lI a1), (8, nI x1), (7, sY (.h 0) x2)], []⟩ ?_
  refine L_split 25 rfl (fun _ => ?_) (fun _ => ?_)
  · refine Av 6 [.o false o17_8, .c c17_20, .b 1, .c c17_23, .l c17_26] ⟨[(24, nI x0), (23, nI (a1.length : Int)), (22, lI a1), (8, nI x1), (7, sY (.h 0) x2)], []⟩ ?_
    refine L_idxD (enc := D.int .i64) (l := a1) (iv := x0) trivial rfl rfl (fun _ => rfl) (fun _ => ?_)
    refine Av 12 [.o false (o17_9.drop 7), .c c17_19, .b 1, .c c17_23, .l c17_26] ⟨[(34, sU (.s 14511) [IntKind.u64.wrap (IntKind.i64.wrap ((IntKind.i64.wrap ((at' a1 x0) - x1)) - 1))]), (28, sY (.h 0) x2), (10, nI (at' a1 x0)), (24, nI x0), (23, nI (a1.length : Int)), (22, lI a1)], []⟩ ?_
    refine L_call (ok_thrumref03_Put x2 [IntKind.u64.wrap (IntKind.i64.wrap ((IntKind.i64.wrap ((at' a1 x0) - x1)) - 1))]) trivial rfl (fun _ => rfl) (fun _ => (flat_map_of fun _ => trivial)) (fun r3 => ?_)
    refine Av 11 [.l c17_26] ⟨[(24, nI (IntKind.i64.wrap (x0 + 1))), (8, nI (at' a1 x0)), (7, sY (.s 14512) r3), (23, nI (a1.length : Int)), (22, lI a1)], []⟩ ?_
    exact L_again (IH (IntKind.i64.wrap (x0 + 1)) (at' a1 x0) r3)
  · refine Avk 4 [] (.exit 0) ⟨[(7, sY (.h 0) x2)], []⟩ ?_
    exact L_end
theorem ok_thrumref06_Put (a0 : Int) (a1 : List Int) : ∀ v, M_thrumref06_Put a0 a1 = some v → EvF Try.prog 17 [.int .i64 a0, .lst (List.map (D.int .i64) a1)] (en_thrumref06_Put v) := by
  intro v hv
  refine EvF_go fn17 (Nat.le_of_ble_eq_true rfl) ?_
  suffices h : Ok (M_thrumref06_Put a0 a1) fun v => go Try.prog 39 (Fnl [.t 4, .t 5] (en_thrumref06_Put v) []) [.c c17_37] .norm (initSt (List.map PV.d [.int .i64 a0, .lst (List.map (D.int .i64) a1)]) []) from h v hv
  unfold M_thrumref06_Put
  refine Av 10 [.o false (o17_1.drop 2), .c c17_8, .c c17_35] ⟨[(12, lI a1), (11, nI a0), (1, lI a1)], []⟩ ?_
  refine L_call (ok_thrumref06_Check a0 a1) trivial rfl (fun _ => rfl) (fun _ => trivial) (fun r1 => ?_)
  refine Av 7 [.c c17_7, .c c17_35] ⟨[(15, bB (r1 != 0)), (6, nI r1), (1, lI a1)], []⟩ ?_
  refine L_split 15 decNe (fun _ => ?_) (fun _ => ?_)
  · refine Avk 9 [] .ret ⟨[(5, nI r1), (4, .nils)], []⟩ ?_
    exact L_ret
  · refine Av 5 [.o false (o17_4.drop 1), .c c17_34] ⟨[(17, lI a1), (1, lI a1)], []⟩ ?_
    refine L_len (enc := D.int .i64) (l := a1) trivial rfl ?_
    refine Av 2 [.o false (o17_4.drop 4), .c c17_34] ⟨[(20, sU (.s 6463) [IntKind.u64.wrap (a1.length : Int)]), (1, lI a1)], []⟩ ?_
    refine L_call (ok_thrumref03_Put [] [IntKind.u64.wrap (a1.length : Int)]) trivial rfl (fun _ => rfl) (fun _ => (flat_map_of fun _ => trivial)) (fun r2 => ?_)
    refine Av 10 [.o false (o17_6.drop 1), .c c17_28, .c c17_32] ⟨[(22, lI a1), (8, nI (-1)), (7, sY (.s 6464) r2)], []⟩ ?_
    refine L_len (enc := D.int .i64) (l := a1) trivial rfl ?_
    refine Av 4 [.l c17_26, .b 0, .c c17_32] ⟨[(24, nI 0), (23, nI (a1.length : Int)), (22, lI a1), (8, nI (-1)), (7, sY (.s 6464) r2)], []⟩ ?_
    refine L_piece (fs := [.l c17_26]) (ks := [.b 0, .c c17_32]) (ok_thrumref06_Put_l0_ok a1 0 (-1) r2) (fun j4 => ?_)
    refine Avk 8 [] .ret ⟨[(5, nI 0), (4, sY (.h 0) j4)], []⟩ ?_
    exact L_ret
/-- thrum/thrumref03.Get. -/
def en_thrumref03_Get (v : Int × Int × Int) : PV := .tup [nU v.1, nI v.2.1, nI v.2.2]
def o51_0 : List AOper := [⟨some 4, none, 0, .mov (.c (.d (.int .u64 0)))⟩, mi 5 1 0, mi 6 2 0]
def o51_1 : List AOper := [mv 10 100 1, bc 11 101 .lss 10 0]
def o51_2 : List AOper := [⟨some 4, none, 200, .mov (.c (.d (.int .u64 0)))⟩, mi 5 201 0, mi 6 202 1]
def o51_3 : List AOper := [⟨some 7, none, 300, .mov (.c (.d (.int .u64 0)))⟩]
def o51_4 : List AOper := [mi 12 400 0]
def o51_5 : List AOper := [bc 13 500 .lss 12 10]
def o51_6 : List AOper := [mv 14 600 12, mv 8 601 14]
def o51_7 : List AOper := [mv 15 700 1, mv 16 701 0, ln 17 702 16, bi 18 703 .geq 15 17, mv 19 704 18, gv 20 19 false 705 8, gv 21 19 false 706 0, ⟨some 22, some (19, false), 707, .len (.t 21)⟩, gv 23 19 false 708 1, ⟨some 24, some (19, false), 709, .bin .sub .int (.t 22) (.t 23)⟩, ⟨some 25, some (19, false), 710, .bin .geq .int (.t 20) (.t 24)⟩, pz 26 711 19 25 true]
def o51_8 : List AOper := [⟨some 4, none, 800, .mov (.c (.d (.int .u64 0)))⟩, mi 5 801 0, mi 6 802 5]
def o51_9 : List AOper := [mv 27 900 0, mv 28 901 1, mv 29 902 8, bi 30 903 .add 28 29, ⟨some 31, none, 904, .idxA 1 (.t 27) (.t 30)⟩, ld 32 905 31, mv 9 906 32]
def o51_10 : List AOper := [mv 33 1000 8, bc 34 1001 .eql 33 9, mv 35 1002 34, gv 36 35 true 1003 9, ⟨some 37, some (35, true), 1004, .bin .gtr .int (.t 36) (.c (.d (.int .u8 1)))⟩, pk 38 1005 35 37 false]
def o51_11 : List AOper := [⟨some 4, none, 1100, .mov (.c (.d (.int .u64 0)))⟩, mi 5 1101 0, mi 6 1102 6]
def o51_12 : List AOper := [mv 39 1200 7, mv 40 1201 9, ⟨some 41, none, 1202, .bin .rem .int (.t 40) (.c (.d (.int .u8 128)))⟩, ⟨some 42, none, 1203, .convI .u64 (.t 41)⟩, mv 43 1204 8, ⟨some 44, none, 1205, .bin .mul .int (.c (.d (.int .i64 7))) (.t 43)⟩, bi 45 1206 .shl 42 44, bi 46 1207 .or 39 45, mv 7 1208 46]
def o51_13 : List AOper := [mv 47 1300 9, ⟨some 48, none, 1301, .bin .lss .int (.t 47) (.c (.d (.int .u8 128)))⟩]
def o51_14 : List AOper := [mv 49 1400 8, bc 50 1401 .gtr 49 0, mv 51 1402 50, gv 52 51 true 1403 9, ⟨some 53, some (51, true), 1404, .bin .eql .int (.t 52) (.c (.d (.int .u8 0)))⟩, pk 54 1405 51 53 false]
def o51_15 : List AOper := [⟨some 4, none, 1500, .mov (.c (.d (.int .u64 0)))⟩, mi 5 1501 0, mi 6 1502 6]
def o51_16 : List AOper := [mv 55 1600 7, mv 56 1601 1, mv 57 1602 8, bi 58 1603 .add 56 57, bc 59 1604 .add 58 1, mv 4 1605 55, mv 5 1606 59, mi 6 1607 0]
def o51_17 : List AOper := [bc 60 1700 .add 12 1, mv 12 1701 60]
def o51_18 : List AOper := [⟨some 4, none, 1800, .mov (.c (.d (.int .u64 0)))⟩, mi 5 1801 0, mi 6 1802 6]
def o51_7t5_12 : List AOper := (o51_7.drop 5).take 7
def o51_10t3_6 : List AOper := (o51_10.drop 3).take 3
def o51_14t3_6 : List AOper := (o51_14.drop 3).take 3
def c51_6 : AC := .cond (.t 11) (.seq (.reg o51_2) .ret) .skip
def c51_13 : AC := .cond (.t 13) .skip (.exit 0)
def c51_20 : AC := .cond (.t 26) (.seq (.reg o51_8) .ret) .skip
def c51_28 : AC := .cond (.t 38) (.seq (.reg o51_11) .ret) .skip
def c51_37 : AC := .cond (.t 54) (.seq (.reg o51_15) .ret) .skip
def c51_41 : AC := .seq (.reg o51_16) .ret
def c51_44 : AC := .cond (.t 48) (.seq (.seq (.reg o51_14) c51_37) c51_41) .skip
def c51_45 : AC := .seq (.reg o51_13) c51_44
def c51_46 : AC := .seq (.reg o51_12) c51_45
def c51_47 : AC := .seq (.seq (.reg o51_10) c51_28) c51_46
def c51_48 : AC := .seq (.reg o51_9) c51_47
def c51_52 : AC := .reg o51_17
def c51_53 : AC := .seq (.block 1 (.seq (.reg o51_6) (.seq (.seq (.reg o51_7) c51_20) c51_48))) c51_52
def c51_55 : AC := .seq (.reg o51_5) (.seq c51_13 c51_53)
def c51_61 : AC := .seq (.reg o51_18) .ret
def c51_63 : AC := .seq (.reg o51_3) (.seq (.seq (.reg o51_4) (.block 0 (.loop c51_55))) c51_61)
def c51_65 : AC := .seq (.reg o51_0) (.seq (.seq (.reg o51_1) c51_6) c51_63)
theorem fn51 : fnA Try.prog 51 = some (61, [.t 4, .t 5, .t 6], c51_65) := by kernel_rfl
def q_ok_thrumref03_Get_l0_ok (a0 : List Int) (a1 : Int) (x0 : Int) (x1 : Int) (v : (Sum (Int × Int × Int) Unit)) : Prop := (fun v => go Try.prog 61 (PostR (fun r => Fnl [.t 4, .t 5, .t 6] (en_thrumref03_Get r) []) (.exit 0) (fun x : Unit => ⟨[], []⟩) v) [.l c51_55] .norm ⟨[(12, nI x0), (7, nU x1), (0, lY a0), (1, nI a1)], []⟩) v
theorem ok_thrumref03_Get_l0_ok (a0 : List Int) (a1 : Int) (x0 : Int) (x1 : Int) : Ok (M_thrumref03_Get_l0 a0 a1 x0 x1) (q_ok_thrumref03_Get_l0_ok a0 a1 x0 x1) := by
  refine M_thrumref03_Get_l0.partial_correctness a0 a1 (q_ok_thrumref03_Get_l0_ok a0 a1) ?_ x0 x1
  clear x0 x1
  intro f' IH x0 x1
  refine okI ?_
  unfold q_ok_thrumref03_Get_l0_ok at *
  refine Av 1 [.c c51_55, .l c51_55] ⟨[(12, nI x0), (7, nU x1), (0, lY a0), (1, nI a1)], []⟩ ?_
  refine Av 5 [.c c51_13, .c c51_53, .l c51_55] ⟨[(13, bB (decide (x0 < 10))), (12, nI x0), (7, nU x1), (0, lY a0), (1, nI a1)], []⟩ ?_
  refine L_split 13 rfl (fun _ => ?_) (fun _ => ?_)
  · refine Av 14 [.o false (o51_7.drop 2), .c c51_20, .c c51_48, .b 1, .c c51_52, .l c51_55] ⟨[(16, lY a0), (15, nI a1), (8, nI x0), (12, nI x0), (7, nU x1), (0, lY a0), (1, nI a1)], []⟩ ?_
    refine L_len (enc := D.int .u8) (l := a0) trivial rfl ?_
    refine Av 2 [.o false (o51_7.drop 5), .c c51_20, .c c51_48, .b 1, .c c51_52, .l c51_55] ⟨[(19, bB (decide (a1 ≥ (a0.length : Int)))), (8, nI x0), (12, nI x0), (7, nU x1), (0, lY a0), (1, nI a1)], []⟩ ?_
    refine L_take 7 o51_7t5_12 (o51_7.drop 12) ?_
    refine L_join [.o false o51_7t5_12] [.o false (o51_7.drop 12), .c c51_20, .c c51_48, .b 1, .c c51_52, .l c51_55] (fun x : Bool => ⟨[(26, bB x), (8, nI x0), (12, nI x0), (7, nU x1), (0, lY a0), (1, nI a1)], []⟩) ?_ (fun j1 => ?_)
    · refine L_split 19 rfl (fun _ => ?_) (fun _ => ?_)
      · refine Av 8 [] ⟨[(26, bB true), (8, nI x0), (12, nI x0), (7, nU x1), (0, lY a0), (1, nI a1)], []⟩ ?_
        exact L_end
      · refine Av 2 [.o false (o51_7t5_12.drop 2)] ⟨[(21, lY a0), (19, bB false), (20, nI x0), (8, nI x0), (12, nI x0), (7, nU x1), (0, lY a0), (1, nI a1)], []⟩ ?_
        refine L_len (enc := D.int .u8) (l := a0) rfl rfl ?_
        refine Av 5 [] ⟨[(26, bB (decide (x0 ≥ (IntKind.i64.wrap ((a0.length : Int) - a1))))), (8, nI x0), (12, nI x0), (7, nU x1), (0, lY a0), (1, nI a1)], []⟩ ?_
        exact L_end
    · refine Av 1 [.c c51_20, .c c51_48, .b 1, .c c51_52, .l c51_55] ⟨[(26, bB j1), (8, nI x0), (12, nI x0), (7, nU x1), (0, lY a0), (1, nI a1)], []⟩ ?_
      refine L_split 26 decT (fun _ => ?_) (fun _ => ?_)
      · refine Avk 12 [] .ret ⟨[(6, nI 5), (5, nI 0), (4, nU 0)], []⟩ ?_
        exact L_retR
      · refine Av 8 [.o false (o51_9.drop 4), .c c51_47, .b 1, .c c51_52, .l c51_55] ⟨[(30, nI (IntKind.i64.wrap (a1 + x0))), (27, lY a0), (8, nI x0), (12, nI x0), (7, nU x1), (0, lY a0), (1, nI a1)], []⟩ ?_
        refine L_idxD (enc := D.int .u8) (l := a0) (iv := IntKind.i64.wrap (a1 + x0)) trivial rfl rfl (fun _ => rfl) (fun _ => ?_)
        refine Av 9 [.o false (o51_10.drop 3), .c c51_28, .c c51_46, .b 1, .c c51_52, .l c51_55] ⟨[(35, bB (x0 == 9)), (9, nY (at' a0 (IntKind.i64.wrap (a1 + x0)))), (8, nI x0), (12, nI x0), (7, nU x1), (0, lY a0), (1, nI a1)], []⟩ ?_
        refine L_take 3 o51_10t3_6 (o51_10.drop 6) ?_
        refine L_join [.o false o51_10t3_6] [.o false (o51_10.drop 6), .c c51_28, .c c51_46, .b 1, .c c51_52, .l c51_55] (fun x : Bool => ⟨[(38, bB x), (9, nY (at' a0 (IntKind.i64.wrap (a1 + x0)))), (8, nI x0), (12, nI x0), (7, nU x1), (0, lY a0), (1, nI a1)], []⟩) ?_ (fun j2 => ?_)
        · refine L_split 35 decE (fun _ => ?_) (fun _ => ?_)
          · refine Av 4 [] ⟨[(38, bB (decide ((at' a0 (IntKind.i64.wrap (a1 + x0))) > 1))), (9, nY (at' a0 (IntKind.i64.wrap (a1 + x0)))), (8, nI x0), (12, nI x0), (7, nU x1), (0, lY a0), (1, nI a1)], []⟩ ?_
            exact L_end
          · refine Av 4 [] ⟨[(38, bB false), (9, nY (at' a0 (IntKind.i64.wrap (a1 + x0)))), (8, nI x0), (12, nI x0), (7, nU x1), (0, lY a0), (1, nI a1)], []⟩ ?_
            exact L_end
        · refine Av 1 [.c c51_28, .c c51_46, .b 1, .c c51_52, .l c51_55] ⟨[(38, bB j2), (9, nY (at' a0 (IntKind.i64.wrap (a1 + x0)))), (8, nI x0), (12, nI x0), (7, nU x1), (0, lY a0), (1, nI a1)], []⟩ ?_
          refine L_split 38 decT (fun _ => ?_) (fun _ => ?_)
          · refine Avk 12 [] .ret ⟨[(6, nI 6), (5, nI 0), (4, nU 0)], []⟩ ?_
            exact L_retR
          · refine Al 10 [.o false (o51_12.drop 6), .c c51_45, .b 1, .c c51_52, .l c51_55] .norm (fun y3 : Int => ⟨[(44, nI (IntKind.i64.wrap (7 * x0))), (42, nU y3), (39, nU x1), (9, nY (at' a0 (IntKind.i64.wrap (a1 + x0)))), (8, nI x0), (12, nI x0), (0, lY a0), (1, nI a1)], []⟩) (fun y3 => ?_)
            refine L_rd (c := 0 ≤ IntKind.i64.wrap (7 * x0)) (v := nU (sShl .u64 y3 (IntKind.i64.wrap (7 * x0)))) trivial rfl (fun _ => ?_)
            refine Av 8 [.c c51_44, .b 1, .c c51_52, .l c51_55] ⟨[(48, bB (decide ((at' a0 (IntKind.i64.wrap (a1 + x0))) < 128))), (7, nU (bOr .u64 x1 (sShl .u64 y3 (IntKind.i64.wrap (7 * x0))))), (9, nY (at' a0 (IntKind.i64.wrap (a1 + x0)))), (8, nI x0), (12, nI x0), (0, lY a0), (1, nI a1)], []⟩ ?_
            refine L_split 48 rfl (fun _ => ?_) (fun _ => ?_)
            · refine Av 7 [.o false (o51_14.drop 3), .c c51_37, .c c51_41, .b 1, .c c51_52, .l c51_55] ⟨[(51, bB (decide (x0 > 0))), (7, nU (bOr .u64 x1 (sShl .u64 y3 (IntKind.i64.wrap (7 * x0))))), (9, nY (at' a0 (IntKind.i64.wrap (a1 + x0)))), (8, nI x0), (1, nI a1)], []⟩ ?_
              refine L_take 3 o51_14t3_6 (o51_14.drop 6) ?_
              refine L_join [.o false o51_14t3_6] [.o false (o51_14.drop 6), .c c51_37, .c c51_41, .b 1, .c c51_52, .l c51_55] (fun x : Bool => ⟨[(54, bB x), (7, nU (bOr .u64 x1 (sShl .u64 y3 (IntKind.i64.wrap (7 * x0))))), (8, nI x0), (1, nI a1)], []⟩) ?_ (fun j5 => ?_)
              · refine L_split 51 rfl (fun _ => ?_) (fun _ => ?_)
                · refine Av 4 [] ⟨[(54, bB ((at' a0 (IntKind.i64.wrap (a1 + x0))) == 0)), (7, nU (bOr .u64 x1 (sShl .u64 y3 (IntKind.i64.wrap (7 * x0))))), (8, nI x0), (1, nI a1)], []⟩ ?_
                  exact L_end
                · refine Av 4 [] ⟨[(54, bB false), (7, nU (bOr .u64 x1 (sShl .u64 y3 (IntKind.i64.wrap (7 * x0))))), (8, nI x0), (1, nI a1)], []⟩ ?_
                  exact L_end
              · refine Av 1 [.c c51_37, .c c51_41, .b 1, .c c51_52, .l c51_55] ⟨[(54, bB j5), (7, nU (bOr .u64 x1 (sShl .u64 y3 (IntKind.i64.wrap (7 * x0))))), (8, nI x0), (1, nI a1)], []⟩ ?_
                refine L_split 54 decT (fun _ => ?_) (fun _ => ?_)
                · refine Avk 12 [] .ret ⟨[(6, nI 6), (5, nI 0), (4, nU 0)], []⟩ ?_
                  exact L_retR
                · refine Avk 17 [] .ret ⟨[(6, nI 0), (5, nI (IntKind.i64.wrap ((IntKind.i64.wrap (a1 + x0)) + 1))), (4, nU (bOr .u64 x1 (sShl .u64 y3 (IntKind.i64.wrap (7 * x0)))))], []⟩ ?_
                  exact L_retR
            · refine Av 7 [.l c51_55] ⟨[(12, nI (IntKind.i64.wrap (x0 + 1))), (7, nU (bOr .u64 x1 (sShl .u64 y3 (IntKind.i64.wrap (7 * x0))))), (0, lY a0), (1, nI a1)], []⟩ ?_
              exact L_again (IH (IntKind.i64.wrap (x0 + 1)) (bOr .u64 x1 (sShl .u64 y3 (IntKind.i64.wrap (7 * x0)))))
  · refine Avk 4 [] (.exit 0) ⟨[], []⟩ ?_
    exact L_endR
theorem ok_thrumref03_Get (a0 : List Int) (a1 : Int) : ∀ v, M_thrumref03_Get a0 a1 = some v → EvF Try.prog 51 [.lst (List.map (D.int .u8) a0), .int .i64 a1] (en_thrumref03_Get v) := by
  intro v hv
  refine EvF_go fn51 (Nat.le_of_ble_eq_true rfl) ?_
  suffices h : Ok (M_thrumref03_Get a0 a1) fun v => go Try.prog 61 (Fnl [.t 4, .t 5, .t 6] (en_thrumref03_Get v) []) [.c c51_65] .norm (initSt (List.map PV.d [.lst (List.map (D.int .u8) a0), .int .i64 a1]) []) from h v hv
  unfold M_thrumref03_Get
  refine Av 12 [.c c51_6, .c c51_63] ⟨[(11, bB (decide (a1 < 0))), (0, lY a0), (1, nI a1)], []⟩ ?_
  refine L_split 11 rfl (fun _ => ?_) (fun _ => ?_)
  · refine Avk 9 [] .ret ⟨[(6, nI 1), (5, nI 0), (4, nU 0)], []⟩ ?_
    exact L_ret
  · refine Av 13 [.l c51_55, .b 0, .c c51_61] ⟨[(12, nI 0), (7, nU 0), (0, lY a0), (1, nI a1)], []⟩ ?_
    refine L_pieceR (fs := [.l c51_55]) (ks := [.b 0, .c c51_61]) (ok_thrumref03_Get_l0_ok a0 a1 0 0) L_thru (fun j6 => ?_)
    refine Avk 8 [] .ret ⟨[(6, nI 6), (5, nI 0), (4, nU 0)], []⟩ ?_
    exact L_ret
/-- thrum/thrumref06.Get. -/
def en_thrumref06_Get (v : (List Int) × Int × Int) : PV := .tup [sI (.s 0) v.1, nI v.2.1, nI v.2.2]
def o19_0 : List AOper := [⟨some 6, none, 0, .mov (.c .nils)⟩, mi 7 1 0, mi 8 2 0]
def o19_1 : List AOper := [mv 16 100 0, bc 17 101 .lss 16 1, mv 18 102 17, gv 19 18 false 103 0, ⟨some 20, some (18, false), 104, .bin .gtr .int (.t 19) (.c (.d (.int .i64 4096)))⟩, pz 21 105 18 20 true]
def o19_2 : List AOper := [⟨some 6, none, 200, .mov (.c .nils)⟩, mi 7 201 0, mi 8 202 1]
def o19_3 : List AOper := [mv 23 300 1, mv 24 301 2, cl' 25 302 51 [.t 23, .t 24], mv 22 303 25, xt 26 304 22 0, xt 27 305 22 1, xt 28 306 22 2, mv 9 307 26, mv 2 308 27, mv 10 309 28]
def o19_4 : List AOper := [mv 29 400 10, bc 30 401 .neq 29 0]
def o19_5 : List AOper := [mv 31 500 10, ⟨some 6, none, 501, .mov (.c .nils)⟩, mi 7 502 0, mv 8 503 31]
def o19_6 : List AOper := [mv 32 600 9, mv 33 601 0, ⟨some 34, none, 602, .convI .u64 (.t 33)⟩, bi 35 603 .gtr 32 34]
def o19_7 : List AOper := [⟨some 6, none, 700, .mov (.c .nils)⟩, mi 7 701 0, mi 8 702 6]
def o19_8 : List AOper := [⟨some 11, none, 800, .mov (.c .nils)⟩]
def o19_9 : List AOper := [mi 12 900 (-1)]
def o19_10 : List AOper := [mv 36 1000 9, ⟨some 37, none, 1001, .mov (.c (.d (.int .u64 0)))⟩]
def o19_11 : List AOper := [bi 38 1100 .lss 37 36]
def o19_12 : List AOper := [mv 40 1200 1, mv 41 1201 2, cl' 42 1202 51 [.t 40, .t 41], mv 39 1203 42, xt 43 1204 39 0, xt 44 1205 39 1, xt 45 1206 39 2, mv 13 1207 43, mv 14 1208 44, mv 15 1209 45]
def o19_13 : List AOper := [mv 46 1300 15, bc 47 1301 .neq 46 0]
def o19_14 : List AOper := [mv 48 1400 15, ⟨some 6, none, 1401, .mov (.c .nils)⟩, mi 7 1402 0, mv 8 1403 48]
def o19_15 : List AOper := [mv 49 1500 13, mv 50 1501 0, mv 51 1502 12, bi 52 1503 .sub 50 51, bc 53 1504 .sub 52 1, ⟨some 54, none, 1505, .convI .u64 (.t 53)⟩, bi 55 1506 .geq 49 54]
def o19_16 : List AOper := [⟨some 6, none, 1600, .mov (.c .nils)⟩, mi 7 1601 0, mi 8 1602 6]
def o19_17 : List AOper := [mv 56 1700 12, mv 57 1701 13, ⟨some 58, none, 1702, .convI .i64 (.t 57)⟩, bc 59 1703 .add 58 1, bi 60 1704 .add 56 59, mv 12 1705 60]
def o19_18 : List AOper := [mv 61 1800 11, mv 62 1801 12, ⟨some 63, none, 1802, .bslice 3 1 [.t 62]⟩, ⟨some 64, none, 1803, .app 3 1 8 (.t 61) (.t 63)⟩, mv 11 1804 64]
def o19_19 : List AOper := [mv 65 1900 14, mv 2 1901 65]
def o19_20 : List AOper := [⟨some 66, none, 2000, .bin .add .int (.t 37) (.c (.d (.int .u64 1)))⟩, mv 37 2001 66]
def o19_21 : List AOper := [mv 67 2100 11, mv 68 2101 2, mv 6 2102 67, mv 7 2103 68, mi 8 2104 0]
def o19_1t3_6 : List AOper := (o19_1.drop 3).take 3
def c19_6 : AC := .cond (.t 21) (.seq (.reg o19_2) .ret) .skip
def c19_14 : AC := .cond (.t 30) (.seq (.reg o19_5) .ret) .skip
def c19_21 : AC := .cond (.t 35) (.seq (.reg o19_7) .ret) .skip
def c19_29 : AC := .cond (.t 38) .skip (.exit 0)
def c19_36 : AC := .cond (.t 47) (.seq (.reg o19_14) .ret) .skip
def c19_43 : AC := .cond (.t 55) (.seq (.reg o19_16) .ret) .skip
def c19_47 : AC := .reg o19_19
def c19_49 : AC := .seq (.reg o19_17) (.seq (.reg o19_18) c19_47)
def c19_50 : AC := .seq (.seq (.reg o19_15) c19_43) c19_49
def c19_51 : AC := .seq (.seq (.reg o19_13) c19_36) c19_50
def c19_54 : AC := .reg o19_20
def c19_55 : AC := .seq (.block 1 (.seq (.reg o19_12) c19_51)) c19_54
def c19_57 : AC := .seq (.reg o19_11) (.seq c19_29 c19_55)
def c19_63 : AC := .seq (.reg o19_21) .ret
def c19_66 : AC := .seq (.reg o19_8) (.seq (.reg o19_9) (.seq (.seq (.reg o19_10) (.block 0 (.loop c19_57))) c19_63))
def c19_67 : AC := .seq (.seq (.reg o19_6) c19_21) c19_66
def c19_68 : AC := .seq (.seq (.reg o19_4) c19_14) c19_67
def c19_69 : AC := .seq (.reg o19_3) c19_68
def c19_71 : AC := .seq (.reg o19_0) (.seq (.seq (.reg o19_1) c19_6) c19_69)
theorem fn19 : fnA Try.prog 19 = some (69, [.t 6, .t 7, .t 8], c19_71) := by kernel_rfl
def q_ok_thrumref06_Get_l0_ok (a0 : Int) (a1 : List Int) (r2 : Int × Int × Int) (x0 : Int) (x1 : Int) (x2 : List Int) (x3 : Int) (v : (Sum ((List Int) × Int × Int) ((List Int) × Int))) : Prop := (fun v => go Try.prog 69 (PostR (fun r => Fnl [.t 6, .t 7, .t 8] (en_thrumref06_Get r) []) (.exit 0) (fun x : (List Int) × Int => ⟨[(11, sI (.h 0) x.1), (2, nI x.2)], []⟩) v) [.l c19_57] .norm ⟨[(37, nU x0), (36, nU r2.1), (12, nI x1), (11, sI (.h 0) x2), (2, nI x3), (0, nI a0), (1, lY a1)], []⟩) v
theorem ok_thrumref06_Get_l0_ok (a0 : Int) (a1 : List Int) (r2 : Int × Int × Int) (x0 : Int) (x1 : Int) (x2 : List Int) (x3 : Int) : Ok (M_thrumref06_Get_l0 a0 a1 r2 x0 x1 x2 x3) (q_ok_thrumref06_Get_l0_ok a0 a1 r2 x0 x1 x2 x3) := by
  refine M_thrumref06_Get_l0.partial_correctness a0 a1 r2 (q_ok_thrumref06_Get_l0_ok a0 a1 r2) ?_ x0 x1 x2 x3
  clear x0 x1 x2 x3
  intro f' IH x0 x1 x2 x3
  refine okI ?_
  unfold q_ok_thrumref06_Get_l0_ok at *
  refine Av 1 [.c c19_57, .l c19_57] ⟨[(37, nU x0), (36, nU r2.1), (12, nI x1), (11, sI (.h 0) x2), (2, nI x3), (0, nI a0), (1, lY a1)], []⟩ ?_
  refine Av 5 [.c c19_29, .c c19_55, .l c19_57] ⟨[(38, bB (decide (x0 < r2.1))), (37, nU x0), (36, nU r2.1), (12, nI x1), (11, sI (.h 0) x2), (2, nI x3), (0, nI a0), (1, lY a1)], []⟩ ?_
  refine L_split 38 rfl (fun _ => ?_) (fun _ => ?_)
  · refine Av 8 [.o false (o19_12.drop 2), .c c19_51, .b 1, .c c19_54, .l c19_57] ⟨[(41, nI x3), (40, lY a1), (37, nU x0), (36, nU r2.1), (12, nI x1), (11, sI (.h 0) x2), (0, nI a0), (1, lY a1)], []⟩ ?_
    refine L_call (ok_thrumref03_Get a1 x3) trivial rfl (fun _ => rfl) (fun _ => ⟨trivial, trivial, trivial, trivial⟩) (fun r3 => ?_)
    refine Av 14 [.c c19_36, .c c19_50, .b 1, .c c19_54, .l c19_57] ⟨[(47, bB (r3.2.2 != 0)), (15, nI r3.2.2), (14, nI r3.2.1), (13, nU r3.1), (37, nU x0), (36, nU r2.1), (12, nI x1), (11, sI (.h 0) x2), (0, nI a0), (1, lY a1)], []⟩ ?_
    refine L_split 47 decNe (fun _ => ?_) (fun _ => ?_)
    · refine Avk 13 [] .ret ⟨[(8, nI r3.2.2), (7, nI 0), (6, .nils)], []⟩ ?_
      exact L_retR
    · refine Av 13 [.c c19_43, .c c19_49, .b 1, .c c19_54, .l c19_57] ⟨[(55, bB (decide (r3.1 ≥ (IntKind.u64.wrap (IntKind.i64.wrap ((IntKind.i64.wrap (a0 - x1)) - 1)))))), (14, nI r3.2.1), (13, nU r3.1), (37, nU x0), (36, nU r2.1), (12, nI x1), (11, sI (.h 0) x2), (0, nI a0), (1, lY a1)], []⟩ ?_
      refine L_split 55 rfl (fun _ => ?_) (fun _ => ?_)
      · refine Avk 12 [] .ret ⟨[(8, nI 6), (7, nI 0), (6, .nils)], []⟩ ?_
        exact L_retR
      · refine Al 16 [.o false (o19_18.drop 3), .c c19_47, .b 1, .c c19_54, .l c19_57] .norm (fun y4 : Int => ⟨[(63, sI (.s 28847) [IntKind.i64.wrap (x1 + (IntKind.i64.wrap ((IntKind.i64.wrap r3.1) + 1)))]), (61, sI (.h 0) x2), (12, nI y4), (14, nI r3.2.1), (37, nU x0), (36, nU r2.1), (0, nI a0), (1, lY a1)], []⟩) (fun y4 => ?_)
        refine L_app (enc := D.int .i64) (l := x2) (l2 := [IntKind.i64.wrap (x1 + (IntKind.i64.wrap ((IntKind.i64.wrap r3.1) + 1)))]) trivial rfl rfl (fun _ => rfl) (fun _ => ?_)
        refine Al 11 [.l c19_57] .norm (fun y6 : List Int => ⟨[(37, nU (IntKind.u64.wrap (x0 + 1))), (2, nI r3.2.1), (11, sI (.s 28863) y6), (12, nI y4), (36, nU r2.1), (0, nI a0), (1, lY a1)], []⟩) (fun y6 => ?_)
        exact L_again (IH (IntKind.u64.wrap (x0 + 1)) y4 y6 r3.2.1)
  · refine Avk 4 [] (.exit 0) ⟨[(11, sI (.h 0) x2), (2, nI x3)], []⟩ ?_
    exact L_endR
theorem ok_thrumref06_Get (a0 : Int) (a1 : List Int) (a2 : Int) : ∀ v, M_thrumref06_Get a0 a1 a2 = some v → EvF Try.prog 19 [.int .i64 a0, .lst (List.map (D.int .u8) a1), .int .i64 a2] (en_thrumref06_Get v) := by
  intro v hv
  refine EvF_go fn19 (Nat.le_of_ble_eq_true rfl) ?_
  suffices h : Ok (M_thrumref06_Get a0 a1 a2) fun v => go Try.prog 69 (Fnl [.t 6, .t 7, .t 8] (en_thrumref06_Get v) []) [.c c19_71] .norm (initSt (List.map PV.d [.int .i64 a0, .lst (List.map (D.int .u8) a1), .int .i64 a2]) []) from h v hv
  unfold M_thrumref06_Get
  refine Av 12 [.o false (o19_1.drop 3), .c c19_6, .c c19_69] ⟨[(18, bB (decide (a0 < 1))), (0, nI a0), (1, lY a1), (2, nI a2)], []⟩ ?_
  refine L_take 3 o19_1t3_6 (o19_1.drop 6) ?_
  refine L_join [.o false o19_1t3_6] [.o false (o19_1.drop 6), .c c19_6, .c c19_69] (fun x : Bool => ⟨[(21, bB x), (0, nI a0), (1, lY a1), (2, nI a2)], []⟩) ?_ (fun j1 => ?_)
  · refine L_split 18 rfl (fun _ => ?_) (fun _ => ?_)
    · refine Av 4 [] ⟨[(21, bB true), (0, nI a0), (1, lY a1), (2, nI a2)], []⟩ ?_
      exact L_end
    · refine Av 4 [] ⟨[(21, bB (decide (a0 > 4096))), (0, nI a0), (1, lY a1), (2, nI a2)], []⟩ ?_
      exact L_end
  · refine Av 1 [.c c19_6, .c c19_69] ⟨[(21, bB j1), (0, nI a0), (1, lY a1), (2, nI a2)], []⟩ ?_
    refine L_split 21 decT (fun _ => ?_) (fun _ => ?_)
    · refine Avk 9 [] .ret ⟨[(8, nI 1), (7, nI 0), (6, .nils)], []⟩ ?_
      exact L_ret
    · refine Av 6 [.o false (o19_3.drop 2), .c c19_68] ⟨[(24, nI a2), (23, lY a1), (0, nI a0), (1, lY a1)], []⟩ ?_
      refine L_call (ok_thrumref03_Get a1 a2) trivial rfl (fun _ => rfl) (fun _ => ⟨trivial, trivial, trivial, trivial⟩) (fun r2 => ?_)
      refine Av 14 [.c c19_14, .c c19_67] ⟨[(30, bB (r2.2.2 != 0)), (10, nI r2.2.2), (2, nI r2.2.1), (9, nU r2.1), (0, nI a0), (1, lY a1)], []⟩ ?_
      refine L_split 30 decNe (fun _ => ?_) (fun _ => ?_)
      · refine Avk 10 [] .ret ⟨[(8, nI r2.2.2), (7, nI 0), (6, .nils)], []⟩ ?_
        exact L_ret
      · refine Av 10 [.c c19_21, .c c19_66] ⟨[(35, bB (decide (r2.1 > (IntKind.u64.wrap a0)))), (2, nI r2.2.1), (9, nU r2.1), (0, nI a0), (1, lY a1)], []⟩ ?_
        refine L_split 35 rfl (fun _ => ?_) (fun _ => ?_)
        · refine Avk 9 [] .ret ⟨[(8, nI 6), (7, nI 0), (6, .nils)], []⟩ ?_
          exact L_ret
        · refine Av 18 [.l c19_57, .b 0, .c c19_63] ⟨[(37, nU 0), (36, nU r2.1), (12, nI (-1)), (11, .nils), (2, nI r2.2.1), (0, nI a0), (1, lY a1)], []⟩ ?_
          refine L_pieceR (fs := [.l c19_57]) (ks := [.b 0, .c c19_63]) (ok_thrumref06_Get_l0_ok a0 a1 r2 0 (-1) [] r2.2.1) L_thru (fun j8 => ?_)
          refine Avk 10 [] .ret ⟨[(8, nI 0), (7, nI j8.2), (6, sI (.h 0) j8.1)], []⟩ ?_
          exact L_ret
/-- thrum/thrumlaw06.IndexWrites. -/
def en_thrumlaw06_IndexWrites (v : Bool) : PV := bB v
def o3_0 : List AOper := [mb 8 0 false]
def o3_1 : List AOper := [cl' 20 100 14 [], mv 9 101 20]
def o3_2 : List AOper := [mv 21 200 9, ⟨some 22, none, 201, .un .not (.t 21)⟩]
def o3_3 : List AOper := [mb 8 300 false]
def o3_4 : List AOper := [mv 23 400 1, ⟨some 24, none, 401, .bslice 22 1 [.t 23]⟩, cl' 25 402 15 [.t 24], ⟨some 26, none, 403, .un .not (.t 25)⟩, mv 27 404 26, gv 28 27 false 405 2, ⟨some 29, some (27, false), 406, .len (.t 28)⟩, ⟨some 30, some (27, false), 407, .bin .gtr .int (.t 29) (.c (.d (.int .i64 2000)))⟩, pz 31 408 27 30 true]
def o3_5 : List AOper := [mv 32 500 9, mv 8 501 32]
def o3_6 : List AOper := [mv 34 600 0, mv 35 601 1, cl' 36 602 16 [.t 34, .t 35], mv 33 603 36, xt 37 604 33 0, xt 38 605 33 1, mv 10 606 37, mv 11 607 38]
def o3_7 : List AOper := [mv 40 700 0, mv 41 701 1, cl' 42 702 17 [.t 40, .t 41], mv 39 703 42, xt 43 704 39 0, xt 44 705 39 1, mv 12 706 43, mv 13 707 44]
def o3_8 : List AOper := [mv 46 800 0, mv 47 801 2, mv 48 802 3, cl' 49 803 18 [.t 46, .t 47, .t 48], mv 45 804 49, xt 50 805 45 0, xt 51 806 45 1, xt 52 807 45 2, mv 14 808 50, mv 15 809 51, mv 16 810 52]
def o3_9 : List AOper := [mv 54 900 0, mv 55 901 2, mv 56 902 3, cl' 57 903 19 [.t 54, .t 55, .t 56], mv 53 904 57, xt 58 905 53 0, xt 59 906 53 1, xt 60 907 53 2, mv 17 908 58, mv 18 909 59, mv 19 910 60]
def o3_10 : List AOper := [mv 61 1000 9, mv 62 1001 61, gv 63 62 true 1002 10, gv 64 62 true 1003 12, ⟨some 65, some (62, true), 1004, .call 20 [.t 63, .t 64]⟩, pk 66 1005 62 65 false, mv 67 1006 66, gv 68 67 true 1007 11, gv 69 67 true 1008 13, ⟨some 70, some (67, true), 1009, .bin .eql .int (.t 68) (.t 69)⟩, pk 71 1010 67 70 false, mv 72 1011 71, gv 73 72 true 1012 14, gv 74 72 true 1013 17, ⟨some 75, some (72, true), 1014, .call 21 [.t 73, .t 74]⟩, pk 76 1015 72 75 false, mv 77 1016 76, gv 78 77 true 1017 15, gv 79 77 true 1018 18, ⟨some 80, some (77, true), 1019, .bin .eql .int (.t 78) (.t 79)⟩, pk 81 1020 77 80 false, mv 82 1021 81, gv 83 82 true 1022 16, gv 84 82 true 1023 19, ⟨some 85, some (82, true), 1024, .bin .eql .int (.t 83) (.t 84)⟩, pk 86 1025 82 85 false, mv 87 1026 86, gv 88 87 true 1027 0, gv 89 87 true 1028 1, ⟨some 90, some (87, true), 1029, .call 22 [.t 88, .t 89]⟩, gv 91 87 true 1030 0, gv 92 87 true 1031 1, ⟨some 93, some (87, true), 1032, .call 23 [.t 91, .t 92]⟩, ⟨some 94, some (87, true), 1033, .bin .eql .int (.t 90) (.t 93)⟩, pk 95 1034 87 94 false, mv 8 1035 95]
def o3_4t5_9 : List AOper := (o3_4.drop 5).take 4
def o3_10t2_6 : List AOper := (o3_10.drop 2).take 4
def o3_10t7_11 : List AOper := (o3_10.drop 7).take 4
def o3_10t12_16 : List AOper := (o3_10.drop 12).take 4
def o3_10t17_21 : List AOper := (o3_10.drop 17).take 4
def o3_10t22_26 : List AOper := (o3_10.drop 22).take 4
def o3_10t27_35 : List AOper := (o3_10.drop 27).take 8
def c3_7 : AC := .cond (.t 22) (.seq (.reg o3_3) .ret) .skip
def c3_14 : AC := .cond (.t 31) (.seq (.reg o3_5) .ret) .skip
def c3_22 : AC := .seq (.reg o3_10) .ret
def c3_23 : AC := .seq (.reg o3_9) c3_22
def c3_24 : AC := .seq (.reg o3_8) c3_23
def c3_25 : AC := .seq (.reg o3_7) c3_24
def c3_26 : AC := .seq (.reg o3_6) c3_25
def c3_27 : AC := .seq (.seq (.reg o3_4) c3_14) c3_26
def c3_28 : AC := .seq (.seq (.reg o3_2) c3_7) c3_27
def c3_30 : AC := .seq (.reg o3_0) (.seq (.reg o3_1) c3_28)
theorem fn3 : fnA Try.prog 3 = some (96, [.t 8], c3_30) := by kernel_rfl
theorem ok_thrumlaw06_IndexWrites (a0 : Int) (a1 : List Int) (a2 : List Int) (a3 : Int) : ∀ v, M_thrumlaw06_IndexWrites a0 a1 a2 a3 = some v → EvF Try.prog 3 [.int .i64 a0, .lst (List.map (D.int .i64) a1), .lst (List.map (D.int .u8) a2), .int .i64 a3] (en_thrumlaw06_IndexWrites v) := by
  intro v hv
  refine EvF_go fn3 (Nat.le_of_ble_eq_true rfl) ?_
  suffices h : Ok (M_thrumlaw06_IndexWrites a0 a1 a2 a3) fun v => go Try.prog 96 (Fnl [.t 8] (en_thrumlaw06_IndexWrites v) []) [.c c3_30] .norm (initSt (List.map PV.d [.int .i64 a0, .lst (List.map (D.int .i64) a1), .lst (List.map (D.int .u8) a2), .int .i64 a3]) []) from h v hv
  unfold M_thrumlaw06_IndexWrites
  refine Av 6 [.o false o3_1, .c c3_28] ⟨[(0, nI a0), (1, lI a1), (2, lY a2), (3, nI a3)], []⟩ ?_
  refine L_call (ok_thrumlaw06_live) trivial rfl (fun _ => rfl) (fun _ => trivial) (fun r1 => ?_)
  refine Av 8 [.c c3_7, .c c3_27] ⟨[(22, bB (!r1)), (9, bB r1), (0, nI a0), (1, lI a1), (2, lY a2), (3, nI a3)], []⟩ ?_
  refine L_split 22 decF (fun _ => ?_) (fun _ => ?_)
  · refine Avk 7 [] .ret ⟨[(8, bB false)], []⟩ ?_
    exact L_ret
  · refine Av 7 [.o false (o3_4.drop 2), .c c3_14, .c c3_26] ⟨[(24, .sl (.s 6431) 1 0 (List.map (enL (D.int .i64)) [a1])), (9, bB r1), (0, nI a0), (1, lI a1), (2, lY a2), (3, nI a3)], []⟩ ?_
    refine L_call (ok_thrumlaw06_few [a1]) trivial rfl (fun _ => rfl) (fun _ => trivial) (fun r2 => ?_)
    refine Av 2 [.o false (o3_4.drop 5), .c c3_14, .c c3_26] ⟨[(27, bB (!r2)), (9, bB r1), (0, nI a0), (1, lI a1), (2, lY a2), (3, nI a3)], []⟩ ?_
    refine L_take 4 o3_4t5_9 (o3_4.drop 9) ?_
    refine L_join [.o false o3_4t5_9] [.o false (o3_4.drop 9), .c c3_14, .c c3_26] (fun x : Bool => ⟨[(31, bB x), (9, bB r1), (0, nI a0), (1, lI a1), (2, lY a2), (3, nI a3)], []⟩) ?_ (fun j3 => ?_)
    · refine L_split 27 decF (fun _ => ?_) (fun _ => ?_)
      · refine Av 5 [] ⟨[(31, bB true), (9, bB r1), (0, nI a0), (1, lI a1), (2, lY a2), (3, nI a3)], []⟩ ?_
        exact L_end
      · refine Av 1 [.o false (o3_4t5_9.drop 1)] ⟨[(28, lY a2), (27, bB false), (9, bB r1), (0, nI a0), (1, lI a1), (2, lY a2), (3, nI a3)], []⟩ ?_
        refine L_len (enc := D.int .u8) (l := a2) rfl rfl ?_
        refine Av 3 [] ⟨[(31, bB (decide ((a2.length : Int) > 2000))), (9, bB r1), (0, nI a0), (1, lI a1), (2, lY a2), (3, nI a3)], []⟩ ?_
        exact L_end
    · refine Av 1 [.c c3_14, .c c3_26] ⟨[(31, bB j3), (9, bB r1), (0, nI a0), (1, lI a1), (2, lY a2), (3, nI a3)], []⟩ ?_
      refine L_split 31 decT (fun _ => ?_) (fun _ => ?_)
      · refine Avk 8 [] .ret ⟨[(8, bB r1)], []⟩ ?_
        exact L_ret
      · refine Av 6 [.o false (o3_6.drop 2), .c c3_25] ⟨[(35, lI a1), (34, nI a0), (9, bB r1), (0, nI a0), (1, lI a1), (2, lY a2), (3, nI a3)], []⟩ ?_
        refine L_call (ok_index_Put a0 a1) trivial rfl (fun _ => rfl) (fun _ => ⟨(flat_map_of fun _ => trivial), trivial, trivial⟩) (fun r4 => ?_)
        refine Av 10 [.o false (o3_7.drop 2), .c c3_24] ⟨[(41, lI a1), (40, nI a0), (11, nI r4.2), (10, sY (.s 9632) r4.1), (9, bB r1), (0, nI a0), (1, lI a1), (2, lY a2), (3, nI a3)], []⟩ ?_
        refine L_call (ok_thrumref06_Put a0 a1) trivial rfl (fun _ => rfl) (fun _ => ⟨(flat_map_of fun _ => trivial), trivial, trivial⟩) (fun r5 => ?_)
        refine Av 11 [.o false (o3_8.drop 3), .c c3_23] ⟨[(48, nI a3), (47, lY a2), (46, nI a0), (13, nI r5.2), (12, sY (.s 11232) r5.1), (11, nI r4.2), (10, sY (.s 9632) r4.1), (9, bB r1), (0, nI a0), (1, lI a1), (2, lY a2), (3, nI a3)], []⟩ ?_
        refine L_call (ok_index_Get a0 a2 a3) trivial rfl (fun _ => rfl) (fun _ => ⟨(flat_map_of fun _ => trivial), trivial, trivial, trivial⟩) (fun r6 => ?_)
        refine Av 13 [.o false (o3_9.drop 3), .c c3_22] ⟨[(56, nI a3), (55, lY a2), (54, nI a0), (16, nI r6.2.2), (15, nI r6.2.1), (14, sI (.s 12848) r6.1), (13, nI r5.2), (12, sY (.s 11232) r5.1), (11, nI r4.2), (10, sY (.s 9632) r4.1), (9, bB r1), (0, nI a0), (1, lI a1)], []⟩ ?_
        refine L_call (ok_thrumref06_Get a0 a2 a3) trivial rfl (fun _ => rfl) (fun _ => ⟨(flat_map_of fun _ => trivial), trivial, trivial, trivial⟩) (fun r7 => ?_)
        refine Av 12 [.o false (o3_10.drop 2), .c .ret] ⟨[(62, bB r1), (19, nI r7.2.2), (18, nI r7.2.1), (17, sI (.s 14448) r7.1), (16, nI r6.2.2), (15, nI r6.2.1), (14, sI (.s 12848) r6.1), (13, nI r5.2), (12, sY (.s 11232) r5.1), (11, nI r4.2), (10, sY (.s 9632) r4.1), (0, nI a0), (1, lI a1)], []⟩ ?_
        refine L_take 4 o3_10t2_6 (o3_10.drop 6) ?_
        refine L_join [.o false o3_10t2_6] [.o false (o3_10.drop 6), .c .ret] (fun x : Bool => ⟨[(66, bB x), (19, nI r7.2.2), (18, nI r7.2.1), (17, sI (.s 14448) r7.1), (16, nI r6.2.2), (15, nI r6.2.1), (14, sI (.s 12848) r6.1), (13, nI r5.2), (11, nI r4.2), (0, nI a0), (1, lI a1)], []⟩) ?_ (fun j9 => ?_)
        · refine L_split 62 decT (fun _ => ?_) (fun _ => ?_)
          · refine Av 2 [.o false (o3_10t2_6.drop 2)] ⟨[(64, sY (.s 11232) r5.1), (62, bB true), (63, sY (.s 9632) r4.1), (19, nI r7.2.2), (18, nI r7.2.1), (17, sI (.s 14448) r7.1), (16, nI r6.2.2), (15, nI r6.2.1), (14, sI (.s 12848) r6.1), (13, nI r5.2), (11, nI r4.2), (0, nI a0), (1, lI a1)], []⟩ ?_
            refine L_call (ok_thrumref03_Same r4.1 r5.1) rfl rfl (fun _ => rfl) (fun _ => trivial) (fun r8 => ?_)
            refine Av 2 [] ⟨[(66, bB r8), (19, nI r7.2.2), (18, nI r7.2.1), (17, sI (.s 14448) r7.1), (16, nI r6.2.2), (15, nI r6.2.1), (14, sI (.s 12848) r6.1), (13, nI r5.2), (11, nI r4.2), (0, nI a0), (1, lI a1)], []⟩ ?_
            exact L_end
          · refine Av 5 [] ⟨[(66, bB false), (19, nI r7.2.2), (18, nI r7.2.1), (17, sI (.s 14448) r7.1), (16, nI r6.2.2), (15, nI r6.2.1), (14, sI (.s 12848) r6.1), (13, nI r5.2), (11, nI r4.2), (0, nI a0), (1, lI a1)], []⟩ ?_
            exact L_end
        · refine Av 1 [.o false (o3_10.drop 7), .c .ret] ⟨[(67, bB j9), (19, nI r7.2.2), (18, nI r7.2.1), (17, sI (.s 14448) r7.1), (16, nI r6.2.2), (15, nI r6.2.1), (14, sI (.s 12848) r6.1), (13, nI r5.2), (11, nI r4.2), (0, nI a0), (1, lI a1)], []⟩ ?_
          refine L_take 4 o3_10t7_11 (o3_10.drop 11) ?_
          refine L_join [.o false o3_10t7_11] [.o false (o3_10.drop 11), .c .ret] (fun x : Bool => ⟨[(71, bB x), (19, nI r7.2.2), (18, nI r7.2.1), (17, sI (.s 14448) r7.1), (16, nI r6.2.2), (15, nI r6.2.1), (14, sI (.s 12848) r6.1), (0, nI a0), (1, lI a1)], []⟩) ?_ (fun j10 => ?_)
          · refine L_split 67 decT (fun _ => ?_) (fun _ => ?_)
            · refine Av 5 [] ⟨[(71, bB (r4.2 == r5.2)), (19, nI r7.2.2), (18, nI r7.2.1), (17, sI (.s 14448) r7.1), (16, nI r6.2.2), (15, nI r6.2.1), (14, sI (.s 12848) r6.1), (0, nI a0), (1, lI a1)], []⟩ ?_
              exact L_end
            · refine Av 5 [] ⟨[(71, bB false), (19, nI r7.2.2), (18, nI r7.2.1), (17, sI (.s 14448) r7.1), (16, nI r6.2.2), (15, nI r6.2.1), (14, sI (.s 12848) r6.1), (0, nI a0), (1, lI a1)], []⟩ ?_
              exact L_end
          · refine Av 1 [.o false (o3_10.drop 12), .c .ret] ⟨[(72, bB j10), (19, nI r7.2.2), (18, nI r7.2.1), (17, sI (.s 14448) r7.1), (16, nI r6.2.2), (15, nI r6.2.1), (14, sI (.s 12848) r6.1), (0, nI a0), (1, lI a1)], []⟩ ?_
            refine L_take 4 o3_10t12_16 (o3_10.drop 16) ?_
            refine L_join [.o false o3_10t12_16] [.o false (o3_10.drop 16), .c .ret] (fun x : Bool => ⟨[(76, bB x), (19, nI r7.2.2), (18, nI r7.2.1), (16, nI r6.2.2), (15, nI r6.2.1), (0, nI a0), (1, lI a1)], []⟩) ?_ (fun j12 => ?_)
            · refine L_split 72 decT (fun _ => ?_) (fun _ => ?_)
              · refine Av 2 [.o false (o3_10t12_16.drop 2)] ⟨[(74, sI (.s 14448) r7.1), (72, bB true), (73, sI (.s 12848) r6.1), (19, nI r7.2.2), (18, nI r7.2.1), (16, nI r6.2.2), (15, nI r6.2.1), (0, nI a0), (1, lI a1)], []⟩ ?_
                refine L_call (ok_thrumref06_Equal r6.1 r7.1) rfl rfl (fun _ => rfl) (fun _ => trivial) (fun r11 => ?_)
                refine Av 2 [] ⟨[(76, bB r11), (19, nI r7.2.2), (18, nI r7.2.1), (16, nI r6.2.2), (15, nI r6.2.1), (0, nI a0), (1, lI a1)], []⟩ ?_
                exact L_end
              · refine Av 5 [] ⟨[(76, bB false), (19, nI r7.2.2), (18, nI r7.2.1), (16, nI r6.2.2), (15, nI r6.2.1), (0, nI a0), (1, lI a1)], []⟩ ?_
                exact L_end
            · refine Av 1 [.o false (o3_10.drop 17), .c .ret] ⟨[(77, bB j12), (19, nI r7.2.2), (18, nI r7.2.1), (16, nI r6.2.2), (15, nI r6.2.1), (0, nI a0), (1, lI a1)], []⟩ ?_
              refine L_take 4 o3_10t17_21 (o3_10.drop 21) ?_
              refine L_join [.o false o3_10t17_21] [.o false (o3_10.drop 21), .c .ret] (fun x : Bool => ⟨[(81, bB x), (19, nI r7.2.2), (16, nI r6.2.2), (0, nI a0), (1, lI a1)], []⟩) ?_ (fun j13 => ?_)
              · refine L_split 77 decT (fun _ => ?_) (fun _ => ?_)
                · refine Av 5 [] ⟨[(81, bB (r6.2.1 == r7.2.1)), (19, nI r7.2.2), (16, nI r6.2.2), (0, nI a0), (1, lI a1)], []⟩ ?_
                  exact L_end
                · refine Av 5 [] ⟨[(81, bB false), (19, nI r7.2.2), (16, nI r6.2.2), (0, nI a0), (1, lI a1)], []⟩ ?_
                  exact L_end
              · refine Av 1 [.o false (o3_10.drop 22), .c .ret] ⟨[(82, bB j13), (19, nI r7.2.2), (16, nI r6.2.2), (0, nI a0), (1, lI a1)], []⟩ ?_
                refine L_take 4 o3_10t22_26 (o3_10.drop 26) ?_
                refine L_join [.o false o3_10t22_26] [.o false (o3_10.drop 26), .c .ret] (fun x : Bool => ⟨[(86, bB x), (0, nI a0), (1, lI a1)], []⟩) ?_ (fun j14 => ?_)
                · refine L_split 82 decT (fun _ => ?_) (fun _ => ?_)
                  · refine Av 5 [] ⟨[(86, bB (r6.2.2 == r7.2.2)), (0, nI a0), (1, lI a1)], []⟩ ?_
                    exact L_end
                  · refine Av 5 [] ⟨[(86, bB false), (0, nI a0), (1, lI a1)], []⟩ ?_
                    exact L_end
                · refine Av 1 [.o false (o3_10.drop 27), .c .ret] ⟨[(87, bB j14), (0, nI a0), (1, lI a1)], []⟩ ?_
                  refine L_take 8 o3_10t27_35 (o3_10.drop 35) ?_
                  refine L_join [.o false o3_10t27_35] [.o false (o3_10.drop 35), .c .ret] (fun x : Bool => ⟨[(95, bB x)], []⟩) ?_ (fun j17 => ?_)
                  · refine L_split 87 decT (fun _ => ?_) (fun _ => ?_)
                    · refine Av 2 [.o false (o3_10t27_35.drop 2)] ⟨[(89, lI a1), (87, bB true), (88, nI a0), (0, nI a0), (1, lI a1)], []⟩ ?_
                      refine L_call (ok_index_Check a0 a1) rfl rfl (fun _ => rfl) (fun _ => trivial) (fun r15 => ?_)
                      refine Av 2 [.o false (o3_10t27_35.drop 5)] ⟨[(92, lI a1), (87, bB true), (91, nI a0), (90, nI r15)], []⟩ ?_
                      refine L_call (ok_thrumref06_Check a0 a1) rfl rfl (fun _ => rfl) (fun _ => trivial) (fun r16 => ?_)
                      refine Av 3 [] ⟨[(95, bB (r15 == r16))], []⟩ ?_
                      exact L_end
                    · refine Av 9 [] ⟨[(95, bB false)], []⟩ ?_
                      exact L_end
                  · refine Avk 3 [] .ret ⟨[(8, bB j17)], []⟩ ?_
                    exact L_ret
/-- thrum/thrumlaw06.IndexBack. -/
def en_thrumlaw06_IndexBack (v : Bool) : PV := bB v
def o4_0 : List AOper := [mb 8 0 false]
def o4_1 : List AOper := [cl' 21 100 14 [], mv 9 101 21]
def o4_2 : List AOper := [mv 22 200 9, ⟨some 23, none, 201, .un .not (.t 22)⟩]
def o4_3 : List AOper := [mb 8 300 false]
def o4_4 : List AOper := [mv 24 400 1, ⟨some 25, none, 401, .bslice 22 1 [.t 24]⟩, cl' 26 402 15 [.t 25], ⟨some 27, none, 403, .un .not (.t 26)⟩, mv 28 404 27, gv 29 28 false 405 2, ⟨some 30, some (28, false), 406, .len (.t 29)⟩, gv 31 28 false 407 3, ⟨some 32, some (28, false), 408, .len (.t 31)⟩, ⟨some 33, some (28, false), 409, .bin .add .int (.t 30) (.t 32)⟩, ⟨some 34, some (28, false), 410, .bin .gtr .int (.t 33) (.c (.d (.int .i64 2000)))⟩, pz 35 411 28 34 true]
def o4_5 : List AOper := [mv 36 500 9, mv 8 501 36]
def o4_6 : List AOper := [mv 38 600 0, mv 39 601 1, cl' 40 602 16 [.t 38, .t 39], mv 37 603 40, xt 41 604 37 0, xt 42 605 37 1, mv 10 606 41, mv 11 607 42]
def o4_7 : List AOper := [mv 43 700 11, bc 44 701 .eql 43 0]
def o4_8 : List AOper := [mv 45 800 2, ⟨some 46, none, 801, .app 5 1 1 (.c .nils) (.t 45)⟩, mv 47 802 10, ⟨some 48, none, 803, .app 5 1 1 (.t 46) (.t 47)⟩, mv 49 804 3, ⟨some 50, none, 805, .app 5 1 1 (.t 48) (.t 49)⟩, mv 12 806 50]
def o4_9 : List AOper := [mv 52 900 0, mv 53 901 12, mv 54 902 2, ln 55 903 54, cl' 56 904 18 [.t 52, .t 53, .t 55], mv 51 905 56, xt 57 906 51 0, xt 58 907 51 1, xt 59 908 51 2, mv 13 909 57, mv 14 910 58, mv 15 911 59]
def o4_10 : List AOper := [mv 60 1000 15, bc 61 1001 .neq 60 0, mv 62 1002 61, gv 63 62 false 1003 14, gv 64 62 false 1004 2, ⟨some 65, some (62, false), 1005, .len (.t 64)⟩, gv 66 62 false 1006 10, ⟨some 67, some (62, false), 1007, .len (.t 66)⟩, ⟨some 68, some (62, false), 1008, .bin .add .int (.t 65) (.t 67)⟩, ⟨some 69, some (62, false), 1009, .bin .neq .int (.t 63) (.t 68)⟩, pz 70 1010 62 69 true, mv 71 1011 70, gv 72 71 false 1012 13, gv 73 71 false 1013 1, ⟨some 74, some (71, false), 1014, .call 21 [.t 72, .t 73]⟩, ⟨some 75, some (71, false), 1015, .un .not (.t 74)⟩, pz 76 1016 71 75 true]
def o4_11 : List AOper := [mb 8 1100 false]
def o4_12 : List AOper := [mv 78 1200 0, mv 79 1201 3, cl' 80 1202 18 [.t 78, .t 79, .c (.d (.int .i64 0))], mv 77 1203 80, xt 81 1204 77 0, xt 82 1205 77 1, xt 83 1206 77 2, mv 16 1207 81, mv 17 1208 82, mv 18 1209 83]
def o4_13 : List AOper := [mv 84 1300 18, bc 85 1301 .neq 84 0]
def o4_14 : List AOper := [mv 86 1400 9, mv 87 1401 86, gv 88 87 true 1402 16, ⟨some 89, some (87, true), 1403, .len (.t 88)⟩, ⟨some 90, some (87, true), 1404, .bin .eql .int (.t 89) (.c (.d (.int .i64 0)))⟩, pk 91 1405 87 90 false, mv 8 1406 91]
def o4_15 : List AOper := [mv 93 1500 0, mv 94 1501 16, cl' 95 1502 16 [.t 93, .t 94], mv 92 1503 95, xt 96 1504 92 0, xt 97 1505 92 1, mv 19 1506 96, mv 20 1507 97]
def o4_16 : List AOper := [mv 98 1600 9, mv 99 1601 98, gv 100 99 true 1602 20, ⟨some 101, some (99, true), 1603, .bin .eql .int (.t 100) (.c (.d (.int .i64 0)))⟩, pk 102 1604 99 101 false, mv 103 1605 102, gv 104 103 true 1606 17, ⟨some 105, some (103, true), 1607, .bin .geq .int (.t 104) (.c (.d (.int .i64 0)))⟩, pk 106 1608 103 105 false, mv 107 1609 106, gv 108 107 true 1610 17, gv 109 107 true 1611 3, ⟨some 110, some (107, true), 1612, .len (.t 109)⟩, ⟨some 111, some (107, true), 1613, .bin .leq .int (.t 108) (.t 110)⟩, pk 112 1614 107 111 false, mv 113 1615 112, gv 114 113 true 1616 19, gv 115 113 true 1617 3, gv 116 113 true 1618 17, ⟨some 117, some (113, true), 1619, .sliceS 1 (.t 115) none (some (.t 116)) none⟩, ⟨some 118, some (113, true), 1620, .call 20 [.t 114, .t 117]⟩, pk 119 1621 113 118 false, mv 8 1622 119]
def o4_4t5_12 : List AOper := (o4_4.drop 5).take 7
def o4_10t3_11 : List AOper := (o4_10.drop 3).take 8
def o4_10t12_17 : List AOper := (o4_10.drop 12).take 5
def o4_14t2_6 : List AOper := (o4_14.drop 2).take 4
def o4_16t2_5 : List AOper := (o4_16.drop 2).take 3
def o4_16t6_9 : List AOper := (o4_16.drop 6).take 3
def o4_16t10_15 : List AOper := (o4_16.drop 10).take 5
def o4_16t16_22 : List AOper := (o4_16.drop 16).take 6
def c4_7 : AC := .cond (.t 23) (.seq (.reg o4_3) .ret) .skip
def c4_14 : AC := .cond (.t 35) (.seq (.reg o4_5) .ret) .skip
def c4_25 : AC := .cond (.t 76) (.seq (.reg o4_11) .ret) .skip
def c4_26 : AC := .seq (.reg o4_10) c4_25
def c4_27 : AC := .seq (.reg o4_9) c4_26
def c4_30 : AC := .cond (.t 44) (.seq (.reg o4_8) c4_27) .skip
def c4_31 : AC := .seq (.reg o4_7) c4_30
def c4_39 : AC := .cond (.t 85) (.seq (.reg o4_14) .ret) .skip
def c4_44 : AC := .seq (.reg o4_16) .ret
def c4_45 : AC := .seq (.reg o4_15) c4_44
def c4_46 : AC := .seq (.seq (.reg o4_13) c4_39) c4_45
def c4_47 : AC := .seq (.reg o4_12) c4_46
def c4_48 : AC := .seq (.seq (.reg o4_6) c4_31) c4_47
def c4_49 : AC := .seq (.seq (.reg o4_4) c4_14) c4_48
def c4_50 : AC := .seq (.seq (.reg o4_2) c4_7) c4_49
def c4_52 : AC := .seq (.reg o4_0) (.seq (.reg o4_1) c4_50)
theorem fn4 : fnA Try.prog 4 = some (120, [.t 8], c4_52) := by kernel_rfl
theorem ok_thrumlaw06_IndexBack (a0 : Int) (a1 : List Int) (a2 : List Int) (a3 : List Int) : ∀ v, M_thrumlaw06_IndexBack a0 a1 a2 a3 = some v → EvF Try.prog 4 [.int .i64 a0, .lst (List.map (D.int .i64) a1), .lst (List.map (D.int .u8) a2), .lst (List.map (D.int .u8) a3)] (en_thrumlaw06_IndexBack v) := by
  intro v hv
  refine EvF_go fn4 (Nat.le_of_ble_eq_true rfl) ?_
  suffices h : Ok (M_thrumlaw06_IndexBack a0 a1 a2 a3) fun v => go Try.prog 120 (Fnl [.t 8] (en_thrumlaw06_IndexBack v) []) [.c c4_52] .norm (initSt (List.map PV.d [.int .i64 a0, .lst (List.map (D.int .i64) a1), .lst (List.map (D.int .u8) a2), .lst (List.map (D.int .u8) a3)]) []) from h v hv
  unfold M_thrumlaw06_IndexBack
  refine Av 6 [.o false o4_1, .c c4_50] ⟨[(0, nI a0), (1, lI a1), (2, lY a2), (3, lY a3)], []⟩ ?_
  refine L_call (ok_thrumlaw06_live) trivial rfl (fun _ => rfl) (fun _ => trivial) (fun r1 => ?_)
  refine Av 8 [.c c4_7, .c c4_49] ⟨[(23, bB (!r1)), (9, bB r1), (0, nI a0), (1, lI a1), (2, lY a2), (3, lY a3)], []⟩ ?_
  refine L_split 23 decF (fun _ => ?_) (fun _ => ?_)
  · refine Avk 7 [] .ret ⟨[(8, bB false)], []⟩ ?_
    exact L_ret
  · refine Av 7 [.o false (o4_4.drop 2), .c c4_14, .c c4_48] ⟨[(25, .sl (.s 6431) 1 0 (List.map (enL (D.int .i64)) [a1])), (9, bB r1), (0, nI a0), (1, lI a1), (2, lY a2), (3, lY a3)], []⟩ ?_
    refine L_call (ok_thrumlaw06_few [a1]) trivial rfl (fun _ => rfl) (fun _ => trivial) (fun r2 => ?_)
    refine Av 2 [.o false (o4_4.drop 5), .c c4_14, .c c4_48] ⟨[(28, bB (!r2)), (9, bB r1), (0, nI a0), (1, lI a1), (2, lY a2), (3, lY a3)], []⟩ ?_
    refine L_take 7 o4_4t5_12 (o4_4.drop 12) ?_
    refine L_join [.o false o4_4t5_12] [.o false (o4_4.drop 12), .c c4_14, .c c4_48] (fun x : Bool => ⟨[(35, bB x), (9, bB r1), (0, nI a0), (1, lI a1), (2, lY a2), (3, lY a3)], []⟩) ?_ (fun j3 => ?_)
    · refine L_split 28 decF (fun _ => ?_) (fun _ => ?_)
      · refine Av 8 [] ⟨[(35, bB true), (9, bB r1), (0, nI a0), (1, lI a1), (2, lY a2), (3, lY a3)], []⟩ ?_
        exact L_end
      · refine Av 1 [.o false (o4_4t5_12.drop 1)] ⟨[(29, lY a2), (28, bB false), (9, bB r1), (0, nI a0), (1, lI a1), (2, lY a2), (3, lY a3)], []⟩ ?_
        refine L_len (enc := D.int .u8) (l := a2) rfl rfl ?_
        refine Av 1 [.o false (o4_4t5_12.drop 3)] ⟨[(31, lY a3), (28, bB false), (30, nI (a2.length : Int)), (9, bB r1), (0, nI a0), (1, lI a1), (2, lY a2), (3, lY a3)], []⟩ ?_
        refine L_len (enc := D.int .u8) (l := a3) rfl rfl ?_
        refine Av 4 [] ⟨[(35, bB (decide ((IntKind.i64.wrap ((a2.length : Int) + (a3.length : Int))) > 2000))), (9, bB r1), (0, nI a0), (1, lI a1), (2, lY a2), (3, lY a3)], []⟩ ?_
        exact L_end
    · refine Av 1 [.c c4_14, .c c4_48] ⟨[(35, bB j3), (9, bB r1), (0, nI a0), (1, lI a1), (2, lY a2), (3, lY a3)], []⟩ ?_
      refine L_split 35 decT (fun _ => ?_) (fun _ => ?_)
      · refine Avk 8 [] .ret ⟨[(8, bB r1)], []⟩ ?_
        exact L_ret
      · refine Av 7 [.o false (o4_6.drop 2), .c c4_31, .c c4_47] ⟨[(39, lI a1), (38, nI a0), (9, bB r1), (0, nI a0), (1, lI a1), (2, lY a2), (3, lY a3)], []⟩ ?_
        refine L_call (ok_index_Put a0 a1) trivial rfl (fun _ => rfl) (fun _ => ⟨(flat_map_of fun _ => trivial), trivial, trivial⟩) (fun r4 => ?_)
        refine Av 11 [.c c4_30, .c c4_47] ⟨[(44, bB (r4.2 == 0)), (10, sY (.s 9632) r4.1), (9, bB r1), (0, nI a0), (1, lI a1), (2, lY a2), (3, lY a3)], []⟩ ?_
        refine L_joinR (QR := fun r => Fnl [.t 8] (en_thrumlaw06_IndexBack r) []) [.c c4_30] [.c c4_47] (fun x : Unit => ⟨[(9, bB r1), (0, nI a0), (3, lY a3)], []⟩) ?_ L_thru (fun j9 => ?_)
        · refine L_split 44 decE (fun _ => ?_) (fun _ => ?_)
          · refine Av 4 [.o false (o4_8.drop 1), .c c4_27] ⟨[(45, lY a2), (10, sY (.s 9632) r4.1), (9, bB r1), (0, nI a0), (1, lI a1), (2, lY a2), (3, lY a3)], []⟩ ?_
            refine L_appN (enc := D.int .u8) (l2 := a2) trivial rfl rfl (fun _ => rfl) (fun _ => ?_)
            refine Av 1 [.o false (o4_8.drop 3), .c c4_27] ⟨[(47, sY (.s 9632) r4.1), (46, sY (.s 12831) a2), (10, sY (.s 9632) r4.1), (9, bB r1), (0, nI a0), (1, lI a1), (2, lY a2), (3, lY a3)], []⟩ ?_
            refine L_app (enc := D.int .u8) (l := a2) (l2 := r4.1) trivial rfl rfl (fun _ => rfl) (fun _ => ?_)
            refine Av 1 [.o false (o4_8.drop 5), .c c4_27] ⟨[(49, lY a3), (48, sY (.s 12863) (a2 ++ r4.1)), (10, sY (.s 9632) r4.1), (9, bB r1), (0, nI a0), (1, lI a1), (2, lY a2), (3, lY a3)], []⟩ ?_
            refine L_app (enc := D.int .u8) (l := a2 ++ r4.1) (l2 := a3) trivial rfl rfl (fun _ => rfl) (fun _ => ?_)
            refine Av 7 [.o false (o4_9.drop 3), .c c4_26] ⟨[(54, lY a2), (53, sY (.s 12895) ((a2 ++ r4.1) ++ a3)), (52, nI a0), (10, sY (.s 9632) r4.1), (9, bB r1), (0, nI a0), (1, lI a1), (2, lY a2), (3, lY a3)], []⟩ ?_
            refine L_len (enc := D.int .u8) (l := a2) trivial rfl ?_
            refine Av 0 [.o false (o4_9.drop 4), .c c4_26] ⟨[(55, nI (a2.length : Int)), (53, sY (.s 12895) ((a2 ++ r4.1) ++ a3)), (52, nI a0), (10, sY (.s 9632) r4.1), (9, bB r1), (0, nI a0), (1, lI a1), (2, lY a2), (3, lY a3)], []⟩ ?_
            refine L_call (ok_index_Get a0 ((a2 ++ r4.1) ++ a3) (a2.length : Int)) trivial rfl (fun _ => rfl) (fun _ => ⟨(flat_map_of fun _ => trivial), trivial, trivial, trivial⟩) (fun r5 => ?_)
            refine Av 13 [.o false (o4_10.drop 3), .c c4_25] ⟨[(62, bB (r5.2.2 != 0)), (14, nI r5.2.1), (13, sI (.s 14464) r5.1), (10, sY (.s 9632) r4.1), (9, bB r1), (0, nI a0), (1, lI a1), (2, lY a2), (3, lY a3)], []⟩ ?_
            refine L_take 8 o4_10t3_11 (o4_10.drop 11) ?_
            refine L_join [.o false o4_10t3_11] [.o false (o4_10.drop 11), .c c4_25] (fun x : Bool => ⟨[(70, bB x), (13, sI (.s 14464) r5.1), (9, bB r1), (0, nI a0), (1, lI a1), (3, lY a3)], []⟩) ?_ (fun j6 => ?_)
            · refine L_split 62 decNe (fun _ => ?_) (fun _ => ?_)
              · refine Av 9 [] ⟨[(70, bB true), (13, sI (.s 14464) r5.1), (9, bB r1), (0, nI a0), (1, lI a1), (3, lY a3)], []⟩ ?_
                exact L_end
              · refine Av 2 [.o false (o4_10t3_11.drop 2)] ⟨[(64, lY a2), (62, bB false), (63, nI r5.2.1), (13, sI (.s 14464) r5.1), (10, sY (.s 9632) r4.1), (9, bB r1), (0, nI a0), (1, lI a1), (3, lY a3)], []⟩ ?_
                refine L_len (enc := D.int .u8) (l := a2) rfl rfl ?_
                refine Av 1 [.o false (o4_10t3_11.drop 4)] ⟨[(66, sY (.s 9632) r4.1), (62, bB false), (65, nI (a2.length : Int)), (63, nI r5.2.1), (13, sI (.s 14464) r5.1), (9, bB r1), (0, nI a0), (1, lI a1), (3, lY a3)], []⟩ ?_
                refine L_len (enc := D.int .u8) (l := r4.1) rfl rfl ?_
                refine Av 4 [] ⟨[(70, bB (r5.2.1 != (IntKind.i64.wrap ((a2.length : Int) + (r4.1.length : Int))))), (13, sI (.s 14464) r5.1), (9, bB r1), (0, nI a0), (1, lI a1), (3, lY a3)], []⟩ ?_
                exact L_end
            · refine Av 1 [.o false (o4_10.drop 12), .c c4_25] ⟨[(71, bB j6), (13, sI (.s 14464) r5.1), (9, bB r1), (0, nI a0), (1, lI a1), (3, lY a3)], []⟩ ?_
              refine L_take 5 o4_10t12_17 (o4_10.drop 17) ?_
              refine L_join [.o false o4_10t12_17] [.o false (o4_10.drop 17), .c c4_25] (fun x : Bool => ⟨[(76, bB x), (9, bB r1), (0, nI a0), (3, lY a3)], []⟩) ?_ (fun j8 => ?_)
              · refine L_split 71 decT (fun _ => ?_) (fun _ => ?_)
                · refine Av 6 [] ⟨[(76, bB true), (9, bB r1), (0, nI a0), (3, lY a3)], []⟩ ?_
                  exact L_end
                · refine Av 2 [.o false (o4_10t12_17.drop 2)] ⟨[(73, lI a1), (71, bB false), (72, sI (.s 14464) r5.1), (9, bB r1), (0, nI a0), (3, lY a3)], []⟩ ?_
                  refine L_call (ok_thrumref06_Equal r5.1 a1) rfl rfl (fun _ => rfl) (fun _ => trivial) (fun r7 => ?_)
                  refine Av 3 [] ⟨[(76, bB (!r7)), (9, bB r1), (0, nI a0), (3, lY a3)], []⟩ ?_
                  exact L_end
              · refine Av 1 [.c c4_25] ⟨[(76, bB j8), (9, bB r1), (0, nI a0), (3, lY a3)], []⟩ ?_
                refine L_split 76 decT (fun _ => ?_) (fun _ => ?_)
                · refine Avk 6 [] .ret ⟨[(8, bB false)], []⟩ ?_
                  exact L_retR
                · refine Av 2 [] ⟨[(9, bB r1), (0, nI a0), (3, lY a3)], []⟩ ?_
                  exact L_endR
          · refine Av 2 [] ⟨[(9, bB r1), (0, nI a0), (3, lY a3)], []⟩ ?_
            exact L_endR
        · refine Av 4 [.o false (o4_12.drop 2), .c c4_46] ⟨[(79, lY a3), (78, nI a0), (9, bB r1), (0, nI a0), (3, lY a3)], []⟩ ?_
          refine L_call (ok_index_Get a0 a3 0) trivial rfl (fun _ => rfl) (fun _ => ⟨(flat_map_of fun _ => trivial), trivial, trivial, trivial⟩) (fun r10 => ?_)
          refine Av 14 [.c c4_39, .c c4_45] ⟨[(85, bB (r10.2.2 != 0)), (17, nI r10.2.1), (16, sI (.s 19232) r10.1), (9, bB r1), (0, nI a0), (3, lY a3)], []⟩ ?_
          refine L_split 85 decNe (fun _ => ?_) (fun _ => ?_)
          · refine Av 5 [.o false (o4_14.drop 2), .c .ret, .c c4_45] ⟨[(87, bB r1), (16, sI (.s 19232) r10.1)], []⟩ ?_
            refine L_take 4 o4_14t2_6 (o4_14.drop 6) ?_
            refine L_join [.o false o4_14t2_6] [.o false (o4_14.drop 6), .c .ret, .c c4_45] (fun x : Bool => ⟨[(91, bB x)], []⟩) ?_ (fun j11 => ?_)
            · refine L_split 87 decT (fun _ => ?_) (fun _ => ?_)
              · refine Av 1 [.o false (o4_14t2_6.drop 1)] ⟨[(88, sI (.s 19232) r10.1), (87, bB true)], []⟩ ?_
                refine L_len (enc := D.int .i64) (l := r10.1) rfl rfl ?_
                refine Av 3 [] ⟨[(91, bB ((r10.1.length : Int) == 0))], []⟩ ?_
                exact L_end
              · refine Av 5 [] ⟨[(91, bB false)], []⟩ ?_
                exact L_end
            · refine Avk 4 [] .ret ⟨[(8, bB j11)], []⟩ ?_
              exact L_ret
          · refine Av 6 [.o false (o4_15.drop 2), .c c4_44] ⟨[(94, sI (.s 19232) r10.1), (93, nI a0), (17, nI r10.2.1), (9, bB r1), (3, lY a3)], []⟩ ?_
            refine L_call (ok_index_Put a0 r10.1) trivial rfl (fun _ => rfl) (fun _ => ⟨(flat_map_of fun _ => trivial), trivial, trivial⟩) (fun r12 => ?_)
            refine Av 10 [.o false (o4_16.drop 2), .c .ret] ⟨[(99, bB r1), (20, nI r12.2), (19, sY (.s 24032) r12.1), (17, nI r10.2.1), (3, lY a3)], []⟩ ?_
            refine L_take 3 o4_16t2_5 (o4_16.drop 5) ?_
            refine L_join [.o false o4_16t2_5] [.o false (o4_16.drop 5), .c .ret] (fun x : Bool => ⟨[(102, bB x), (19, sY (.s 24032) r12.1), (17, nI r10.2.1), (3, lY a3)], []⟩) ?_ (fun j13 => ?_)
            · refine L_split 99 decT (fun _ => ?_) (fun _ => ?_)
              · refine Av 4 [] ⟨[(102, bB (r12.2 == 0)), (19, sY (.s 24032) r12.1), (17, nI r10.2.1), (3, lY a3)], []⟩ ?_
                exact L_end
              · refine Av 4 [] ⟨[(102, bB false), (19, sY (.s 24032) r12.1), (17, nI r10.2.1), (3, lY a3)], []⟩ ?_
                exact L_end
            · refine Av 1 [.o false (o4_16.drop 6), .c .ret] ⟨[(103, bB j13), (19, sY (.s 24032) r12.1), (17, nI r10.2.1), (3, lY a3)], []⟩ ?_
              refine L_take 3 o4_16t6_9 (o4_16.drop 9) ?_
              refine L_join [.o false o4_16t6_9] [.o false (o4_16.drop 9), .c .ret] (fun x : Bool => ⟨[(106, bB x), (19, sY (.s 24032) r12.1), (17, nI r10.2.1), (3, lY a3)], []⟩) ?_ (fun j14 => ?_)
              · refine L_split 103 decT (fun _ => ?_) (fun _ => ?_)
                · refine Av 4 [] ⟨[(106, bB (decide (r10.2.1 ≥ 0))), (19, sY (.s 24032) r12.1), (17, nI r10.2.1), (3, lY a3)], []⟩ ?_
                  exact L_end
                · refine Av 4 [] ⟨[(106, bB false), (19, sY (.s 24032) r12.1), (17, nI r10.2.1), (3, lY a3)], []⟩ ?_
                  exact L_end
              · refine Av 1 [.o false (o4_16.drop 10), .c .ret] ⟨[(107, bB j14), (19, sY (.s 24032) r12.1), (17, nI r10.2.1), (3, lY a3)], []⟩ ?_
                refine L_take 5 o4_16t10_15 (o4_16.drop 15) ?_
                refine L_join [.o false o4_16t10_15] [.o false (o4_16.drop 15), .c .ret] (fun x : Bool => ⟨[(112, bB x), (19, sY (.s 24032) r12.1), (17, nI r10.2.1), (3, lY a3)], []⟩) ?_ (fun j15 => ?_)
                · refine L_split 107 decT (fun _ => ?_) (fun _ => ?_)
                  · refine Av 2 [.o false (o4_16t10_15.drop 2)] ⟨[(109, lY a3), (107, bB true), (108, nI r10.2.1), (19, sY (.s 24032) r12.1), (17, nI r10.2.1), (3, lY a3)], []⟩ ?_
                    refine L_len (enc := D.int .u8) (l := a3) rfl rfl ?_
                    refine Av 3 [] ⟨[(112, bB (decide (r10.2.1 ≤ (a3.length : Int)))), (19, sY (.s 24032) r12.1), (17, nI r10.2.1), (3, lY a3)], []⟩ ?_
                    exact L_end
                  · refine Av 6 [] ⟨[(112, bB false), (19, sY (.s 24032) r12.1), (17, nI r10.2.1), (3, lY a3)], []⟩ ?_
                    exact L_end
                · refine Av 1 [.o false (o4_16.drop 16), .c .ret] ⟨[(113, bB j15), (19, sY (.s 24032) r12.1), (17, nI r10.2.1), (3, lY a3)], []⟩ ?_
                  refine L_take 6 o4_16t16_22 (o4_16.drop 22) ?_
                  refine L_join [.o false o4_16t16_22] [.o false (o4_16.drop 22), .c .ret] (fun x : Bool => ⟨[(119, bB x)], []⟩) ?_ (fun j19 => ?_)
                  · refine L_split 113 decT (fun _ => ?_) (fun _ => ?_)
                    · refine Av 3 [.o false (o4_16t16_22.drop 3)] ⟨[(116, nI r10.2.1), (113, bB true), (115, lY a3), (114, sY (.s 24032) r12.1)], []⟩ ?_
                      refine L_cutD (enc := D.int .u8) (l := a3) (a := none) (b := (some r10.2.1)) rfl rfl rfl rfl (fun _ => rfl) (fun _ => ?_)
                      refine Al 0 [.o false (o4_16t16_22.drop 4)] .norm (fun y16 : List Int => ⟨[(117, lY y16), (113, bB true), (114, sY (.s 24032) r12.1)], []⟩) (fun y16 => ?_)
                      refine L_call (ok_thrumref03_Same r12.1 y16) rfl rfl (fun _ => rfl) (fun _ => trivial) (fun r18 => ?_)
                      refine Av 2 [] ⟨[(119, bB r18)], []⟩ ?_
                      exact L_end
                    · refine Av 7 [] ⟨[(119, bB false)], []⟩ ?_
                      exact L_end
                  · refine Avk 3 [] .ret ⟨[(8, bB j19)], []⟩ ?_
                    exact L_ret
/-- thrum/index.Gather$1. -/
def en_index_Gather_1_c (v : Bool) : PV := bB v
def o58_0 : List AOper := [mb 3 0 false]
def o58_1 : List AOper := [mv 4 100 0, bc 5 101 .lss 4 0, mv 6 102 5, gv 7 6 false 103 0, ⟨some 8, some (6, false), 104, .load false 1 (.t 1)⟩, ⟨some 9, some (6, false), 105, .len (.t 8)⟩, ⟨some 10, some (6, false), 106, .bin .geq .int (.t 7) (.t 9)⟩, pz 11 107 6 10 true, mv 3 108 11]
def o58_1t3_8 : List AOper := (o58_1.drop 3).take 5
def c58_4 : AC := .seq (.reg o58_0) (.seq (.reg o58_1) .ret)
theorem fn58 : fnA Try.prog 58 = some (12, [.t 3], c58_4) := by kernel_rfl
theorem ok_index_Gather_1_c (a0 : Int) (a1 : List Int) : ∀ v, M_index_Gather_1_c a0 a1 = some v → EvF Try.prog 58 [.int .i64 a0, .cp [.lst (List.map (D.int .i64) a1)] 0] (en_index_Gather_1_c v) := by
  intro v hv
  refine EvF_go fn58 (Nat.le_of_ble_eq_true rfl) ?_
  suffices h : Ok (M_index_Gather_1_c a0 a1) fun v => go Try.prog 12 (Fnl [.t 3] (en_index_Gather_1_c v) []) [.c c58_4] .norm (initSt (List.map PV.d [.int .i64 a0, .cp [.lst (List.map (D.int .i64) a1)] 0]) []) from h v hv
  unfold M_index_Gather_1_c
  refine Av 9 [.o false (o58_1.drop 3), .c .ret] ⟨[(6, bB (decide (a0 < 0))), (0, nI a0), (1, .d (.cp [.lst (List.map (D.int .i64) a1)] 0))], []⟩ ?_
  refine L_take 5 o58_1t3_8 (o58_1.drop 8) ?_
  refine L_join [.o false o58_1t3_8] [.o false (o58_1.drop 8), .c .ret] (fun x : Bool => ⟨[(11, bB x)], []⟩) ?_ (fun j1 => ?_)
  · refine L_split 6 rfl (fun _ => ?_) (fun _ => ?_)
    · refine Av 6 [] ⟨[(11, bB true)], []⟩ ?_
      exact L_end
    · refine Av 2 [.o false (o58_1t3_8.drop 2)] ⟨[(8, lI a1), (6, bB false), (7, nI a0)], []⟩ ?_
      refine L_len (enc := D.int .i64) (l := a1) rfl rfl ?_
      refine Av 3 [] ⟨[(11, bB (decide (a0 ≥ (a1.length : Int))))], []⟩ ?_
      exact L_end
  · refine Avk 3 [] .ret ⟨[(3, bB j1)], []⟩ ?_
    exact L_ret
/-- slices.IndexFunc[[]int,int]. -/
def en_slices_IndexFunc_int_int_index_Gather_1 (v : Int) : PV := nI v
def o68_0 : List AOper := [mi 4 0 0]
def o68_1 : List AOper := [mv 6 100 0, ln 7 101 6, mi 8 102 0]
def o68_2 : List AOper := [bi 9 200 .lss 8 7]
def o68_3 : List AOper := [mv 10 300 8, mv 5 301 10]
def o68_4 : List AOper := [mv 11 400 1, mv 12 401 0, mv 13 402 5, ⟨some 14, none, 403, .idxA 1 (.t 12) (.t 13)⟩, ld 15 404 14, ⟨some 16, none, 405, .callv (.t 11) [.t 15]⟩]
def o68_5 : List AOper := [mv 17 500 5, mv 4 501 17]
def o68_6 : List AOper := [bc 18 600 .add 8 1, mv 8 601 18]
def o68_7 : List AOper := [mi 4 700 (-1)]
def c68_5 : AC := .cond (.t 9) .skip (.exit 0)
def c68_12 : AC := .cond (.t 16) (.seq (.reg o68_5) .ret) .skip
def c68_16 : AC := .reg o68_6
def c68_17 : AC := .seq (.block 1 (.seq (.reg o68_3) (.seq (.reg o68_4) c68_12))) c68_16
def c68_19 : AC := .seq (.reg o68_2) (.seq c68_5 c68_17)
def c68_21 : AC := .block 0 (.loop c68_19)
def c68_25 : AC := .seq (.reg o68_7) .ret
def c68_27 : AC := .seq (.reg o68_0) (.seq (.seq (.reg o68_1) c68_21) c68_25)
theorem fn68 : fnA Try.prog 68 = some (19, [.t 4], c68_27) := by kernel_rfl
def q_ok_slices_IndexFunc_int_int_index_Gather_1_l0_ok (a0 : List Int) (a1 : List Int) (x0 : Int) (v : (Sum Int Unit)) : Prop := (fun v => go Try.prog 19 (PostR (fun r => Fnl [.t 4] (en_slices_IndexFunc_int_int_index_Gather_1 r) []) (.exit 0) (fun x : Unit => ⟨[], []⟩) v) [.l c68_19] .norm ⟨[(8, nI x0), (7, nI (a0.length : Int)), (0, lI a0), (1, .d (.clo (.func 58) [] [.cp [.lst (List.map (D.int .i64) a1)] 0]))], []⟩) v
theorem ok_slices_IndexFunc_int_int_index_Gather_1_l0_ok (a0 : List Int) (a1 : List Int) (x0 : Int) : Ok (M_slices_IndexFunc_int_int_index_Gather_1_l0 a0 a1 x0) (q_ok_slices_IndexFunc_int_int_index_Gather_1_l0_ok a0 a1 x0) := by
  refine M_slices_IndexFunc_int_int_index_Gather_1_l0.partial_correctness a0 a1 (q_ok_slices_IndexFunc_int_int_index_Gather_1_l0_ok a0 a1) ?_ x0
  clear x0
  intro f' IH x0
  refine okI ?_
  unfold q_ok_slices_IndexFunc_int_int_index_Gather_1_l0_ok at *
  refine Av 1 [.c c68_19, .l c68_19] ⟨[(8, nI x0), (7, nI (a0.length : Int)), (0, lI a0), (1, .d (.clo (.func 58) [] [.cp [.lst (List.map (D.int .i64) a1)] 0]))], []⟩ ?_
  refine Av 5 [.c c68_5, .c c68_17, .l c68_19] ⟨[(9, bB (decide (x0 < (a0.length : Int)))), (8, nI x0), (7, nI (a0.length : Int)), (0, lI a0), (1, .d (.clo (.func 58) [] [.cp [.lst (List.map (D.int .i64) a1)] 0]))], []⟩ ?_
  refine L_split 9 rfl (fun _ => ?_) (fun _ => ?_)
  · refine Av 14 [.o false (o68_4.drop 3), .c c68_12, .b 1, .c c68_16, .l c68_19] ⟨[(13, nI x0), (12, lI a0), (11, .d (.clo (.func 58) [] [.cp [.lst (List.map (D.int .i64) a1)] 0])), (5, nI x0), (8, nI x0), (7, nI (a0.length : Int)), (0, lI a0), (1, .d (.clo (.func 58) [] [.cp [.lst (List.map (D.int .i64) a1)] 0]))], []⟩ ?_
    refine L_idxD (enc := D.int .i64) (l := a0) (iv := x0) trivial rfl rfl (fun _ => rfl) (fun _ => ?_)
    refine Av 1 [.o false (o68_4.drop 5), .c c68_12, .b 1, .c c68_16, .l c68_19] ⟨[(15, nI (at' a0 x0)), (11, .d (.clo (.func 58) [] [.cp [.lst (List.map (D.int .i64) a1)] 0])), (5, nI x0), (8, nI x0), (7, nI (a0.length : Int)), (0, lI a0), (1, .d (.clo (.func 58) [] [.cp [.lst (List.map (D.int .i64) a1)] 0]))], []⟩ ?_
    refine L_callv (ok_index_Gather_1_c (at' a0 x0) a1) trivial (.inr ⟨_, _, rfl, rfl, rfl⟩) rfl rfl (fun _ => rfl) (fun _ => trivial) (fun r1 => ?_)
    refine Av 1 [.c c68_12, .b 1, .c c68_16, .l c68_19] ⟨[(16, bB r1), (5, nI x0), (8, nI x0), (7, nI (a0.length : Int)), (0, lI a0), (1, .d (.clo (.func 58) [] [.cp [.lst (List.map (D.int .i64) a1)] 0]))], []⟩ ?_
    refine L_split 16 decT (fun _ => ?_) (fun _ => ?_)
    · refine Avk 10 [] .ret ⟨[(4, nI x0)], []⟩ ?_
      exact L_retR
    · refine Av 7 [.l c68_19] ⟨[(8, nI (IntKind.i64.wrap (x0 + 1))), (7, nI (a0.length : Int)), (0, lI a0), (1, .d (.clo (.func 58) [] [.cp [.lst (List.map (D.int .i64) a1)] 0]))], []⟩ ?_
      exact L_again (IH (IntKind.i64.wrap (x0 + 1)))
  · refine Avk 4 [] (.exit 0) ⟨[], []⟩ ?_
    exact L_endR
theorem ok_slices_IndexFunc_int_int_index_Gather_1 (a0 : List Int) (a1 : List Int) : ∀ v, M_slices_IndexFunc_int_int_index_Gather_1 a0 a1 = some v → EvF Try.prog 68 [.lst (List.map (D.int .i64) a0), .clo (.func 58) [] [.cp [.lst (List.map (D.int .i64) a1)] 0]] (en_slices_IndexFunc_int_int_index_Gather_1 v) := by
  intro v hv
  refine EvF_go fn68 (Nat.le_of_ble_eq_true rfl) ?_
  suffices h : Ok (M_slices_IndexFunc_int_int_index_Gather_1 a0 a1) fun v => go Try.prog 19 (Fnl [.t 4] (en_slices_IndexFunc_int_int_index_Gather_1 v) []) [.c c68_27] .norm (initSt (List.map PV.d [.lst (List.map (D.int .i64) a0), .clo (.func 58) [] [.cp [.lst (List.map (D.int .i64) a1)] 0]]) []) from h v hv
  unfold M_slices_IndexFunc_int_int_index_Gather_1
  refine Av 8 [.o false (o68_1.drop 1), .c c68_21, .c c68_25] ⟨[(6, lI a0), (0, lI a0), (1, .d (.clo (.func 58) [] [.cp [.lst (List.map (D.int .i64) a1)] 0]))], []⟩ ?_
  refine L_len (enc := D.int .i64) (l := a0) trivial rfl ?_
  refine Av 4 [.l c68_19, .b 0, .c c68_25] ⟨[(8, nI 0), (7, nI (a0.length : Int)), (0, lI a0), (1, .d (.clo (.func 58) [] [.cp [.lst (List.map (D.int .i64) a1)] 0]))], []⟩ ?_
  refine L_pieceR (fs := [.l c68_19]) (ks := [.b 0, .c c68_25]) (ok_slices_IndexFunc_int_int_index_Gather_1_l0_ok a0 a1 0) L_thru (fun j2 => ?_)
  refine Avk 6 [] .ret ⟨[(4, nI (-1))], []⟩ ?_
  exact L_ret
/-- slices.ContainsFunc[[]int,int]. -/
def en_slices_ContainsFunc_int_int_index_Gather_1 (v : Bool) : PV := bB v
def o57_0 : List AOper := [mb 4 0 false]
def o57_1 : List AOper := [mv 5 100 0, mv 6 101 1, cl' 7 102 68 [.t 5, .t 6], bc 8 103 .geq 7 0, mv 4 104 8]
def c57_4 : AC := .seq (.reg o57_0) (.seq (.reg o57_1) .ret)
theorem fn57 : fnA Try.prog 57 = some (9, [.t 4], c57_4) := by kernel_rfl
theorem ok_slices_ContainsFunc_int_int_index_Gather_1 (a0 : List Int) (a1 : List Int) : ∀ v, M_slices_ContainsFunc_int_int_index_Gather_1 a0 a1 = some v → EvF Try.prog 57 [.lst (List.map (D.int .i64) a0), .clo (.func 58) [] [.cp [.lst (List.map (D.int .i64) a1)] 0]] (en_slices_ContainsFunc_int_int_index_Gather_1 v) := by
  intro v hv
  refine EvF_go fn57 (Nat.le_of_ble_eq_true rfl) ?_
  suffices h : Ok (M_slices_ContainsFunc_int_int_index_Gather_1 a0 a1) fun v => go Try.prog 9 (Fnl [.t 4] (en_slices_ContainsFunc_int_int_index_Gather_1 v) []) [.c c57_4] .norm (initSt (List.map PV.d [.lst (List.map (D.int .i64) a0), .clo (.func 58) [] [.cp [.lst (List.map (D.int .i64) a1)] 0]]) []) from h v hv
  unfold M_slices_ContainsFunc_int_int_index_Gather_1
  refine Av 8 [.o false (o57_1.drop 2), .c .ret] ⟨[(6, .d (.clo (.func 58) [] [.cp [.lst (List.map (D.int .i64) a1)] 0])), (5, lI a0)], []⟩ ?_
  refine L_call (ok_slices_IndexFunc_int_int_index_Gather_1 a0 a1) trivial rfl (fun _ => rfl) (fun _ => trivial) (fun r1 => ?_)
  refine Avk 4 [] .ret ⟨[(4, bB (decide (r1 ≥ 0)))], []⟩ ?_
  exact L_ret
/-- thrum/index.Gather. -/
def en_index_Gather (v : (List Int) × Int) : PV := .tup [sI (.s 0) v.1, nI v.2]
def o35_0 : List AOper := [⟨some 3, none, 0, .box 46 (.t 1)⟩, ⟨some 4, none, 1, .mov (.c .nils)⟩, mi 5 2 0]
def o35_1 : List AOper := [mv 9 100 0, cl' 10 101 52 [.t 9], ⟨some 11, none, 102, .un .not (.t 10)⟩, mv 12 103 11, gv 13 12 false 104 0, ⟨some 14, some (12, false), 105, .mkfn (.func 58) [] [.t 3]⟩, ⟨some 15, some (12, false), 106, .call 57 [.t 13, .t 14]⟩, pz 16 107 12 15 true]
def o35_2 : List AOper := [⟨some 4, none, 200, .mov (.c .nils)⟩, mi 5 201 1]
def o35_3 : List AOper := [mv 17 300 0, ln 18 301 17, ⟨some 19, none, 302, .mkS 2 1 8 (.int .i64 0) (.c (.d (.int .i64 0))) (.t 18)⟩, mv 6 303 19]
def o35_4 : List AOper := [mv 20 400 0, ln 21 401 20, mi 22 402 0]
def o35_5 : List AOper := [bi 23 500 .lss 22 21]
def o35_6 : List AOper := [⟨some 24, none, 600, .idxA 1 (.t 20) (.t 22)⟩, ld 25 601 24, mv 8 602 25]
def o35_7 : List AOper := [mv 26 700 6, ld 27 701 3, mv 28 702 8, ⟨some 29, none, 703, .idxA 1 (.t 27) (.t 28)⟩, ld 30 704 29, ⟨some 31, none, 705, .bslice 2 1 [.t 30]⟩, ⟨some 32, none, 706, .app 2 1 8 (.t 26) (.t 31)⟩, mv 6 707 32]
def o35_8 : List AOper := [bc 33 800 .add 22 1, mv 22 801 33]
def o35_9 : List AOper := [mv 34 900 6, mv 4 901 34, mi 5 902 0]
def o35_1t4_8 : List AOper := (o35_1.drop 4).take 4
def c35_6 : AC := .cond (.t 16) (.seq (.reg o35_2) .ret) .skip
def c35_13 : AC := .cond (.t 23) .skip (.exit 0)
def c35_15 : AC := .reg o35_7
def c35_18 : AC := .reg o35_8
def c35_19 : AC := .seq (.block 1 (.seq (.reg o35_6) c35_15)) c35_18
def c35_21 : AC := .seq (.reg o35_5) (.seq c35_13 c35_19)
def c35_23 : AC := .block 0 (.loop c35_21)
def c35_27 : AC := .seq (.reg o35_9) .ret
def c35_28 : AC := .seq (.seq (.reg o35_4) c35_23) c35_27
def c35_29 : AC := .seq (.reg o35_3) c35_28
def c35_31 : AC := .seq (.reg o35_0) (.seq (.seq (.reg o35_1) c35_6) c35_29)
theorem fn35 : fnA Try.prog 35 = some (35, [.t 4, .t 5], c35_31) := by kernel_rfl
def q_ok_index_Gather_l0_ok (a0 : List Int) (a1 : List Int) (x0 : Int) (x1 : List Int) (v : (List Int)) : Prop := (fun v => go Try.prog 35 (PostN (.exit 0) (fun x : (List Int) => ⟨[(6, sI (.h 0) x)], []⟩) v) [.l c35_21] .norm ⟨[(22, nI x0), (21, nI (a0.length : Int)), (20, lI a0), (6, sI (.h 0) x1), (3, .ptr (.s 15) 0)], [(.s 15, [lI a1])]⟩) v
theorem ok_index_Gather_l0_ok (a0 : List Int) (a1 : List Int) (x0 : Int) (x1 : List Int) : Ok (M_index_Gather_l0 a0 a1 x0 x1) (q_ok_index_Gather_l0_ok a0 a1 x0 x1) := by
  refine M_index_Gather_l0.partial_correctness a0 a1 (q_ok_index_Gather_l0_ok a0 a1) ?_ x0 x1
  clear x0 x1
  intro f' IH x0 x1
  refine okI ?_
  unfold q_ok_index_Gather_l0_ok at *
  refine Av 1 [.c c35_21, .l c35_21] ⟨[(22, nI x0), (21, nI (a0.length : Int)), (20, lI a0), (6, sI (.h 0) x1), (3, .ptr (.s 15) 0)], [(.s 15, [lI a1])]⟩ ?_
  refine Av 5 [.c c35_13, .c c35_19, .l c35_21] ⟨[(23, bB (decide (x0 < (a0.length : Int)))), (22, nI x0), (21, nI (a0.length : Int)), (20, lI a0), (6, sI (.h 0) x1), (3, .ptr (.s 15) 0)], [(.s 15, [lI a1])]⟩ ?_
  refine L_split 23 rfl (fun _ => ?_) (fun _ => ?_)
  · refine Av 6 [.o false o35_6, .c c35_15, .b 1, .c c35_18, .l c35_21] ⟨[(22, nI x0), (21, nI (a0.length : Int)), (20, lI a0), (6, sI (.h 0) x1), (3, .ptr (.s 15) 0)], [(.s 15, [lI a1])]⟩ ?_
    refine L_idxD (enc := D.int .i64) (l := a0) (iv := x0) trivial rfl rfl (fun _ => rfl) (fun _ => ?_)
    refine Av 7 [.o false (o35_7.drop 3), .b 1, .c c35_18, .l c35_21] ⟨[(28, nI (at' a0 x0)), (27, lI a1), (26, sI (.h 0) x1), (22, nI x0), (21, nI (a0.length : Int)), (20, lI a0), (3, .ptr (.s 15) 0)], [(.s 15, [lI a1])]⟩ ?_
    refine L_idxD (enc := D.int .i64) (l := a1) (iv := at' a0 x0) trivial rfl rfl (fun _ => rfl) (fun _ => ?_)
    refine Av 2 [.o false (o35_7.drop 6), .b 1, .c c35_18, .l c35_21] ⟨[(31, sI (.s 11295) [at' a1 (at' a0 x0)]), (26, sI (.h 0) x1), (22, nI x0), (21, nI (a0.length : Int)), (20, lI a0), (3, .ptr (.s 15) 0)], [(.s 15, [lI a1])]⟩ ?_
    refine L_app (enc := D.int .i64) (l := x1) (l2 := [at' a1 (at' a0 x0)]) trivial rfl rfl (fun _ => rfl) (fun _ => ?_)
    refine Al 7 [.l c35_21] .norm (fun y6 : List Int => ⟨[(22, nI (IntKind.i64.wrap (x0 + 1))), (6, sI (.s 11311) y6), (21, nI (a0.length : Int)), (20, lI a0), (3, .ptr (.s 15) 0)], [(.s 15, [lI a1])]⟩) (fun y6 => ?_)
    exact L_again (IH (IntKind.i64.wrap (x0 + 1)) y6)
  · refine Avk 4 [] (.exit 0) ⟨[(6, sI (.h 0) x1)], []⟩ ?_
    exact L_end
theorem ok_index_Gather (a0 : List Int) (a1 : List Int) : ∀ v, M_index_Gather a0 a1 = some v → EvF Try.prog 35 [.lst (List.map (D.int .i64) a0), .lst (List.map (D.int .i64) a1)] (en_index_Gather v) := by
  intro v hv
  refine EvF_go fn35 (Nat.le_of_ble_eq_true rfl) ?_
  suffices h : Ok (M_index_Gather a0 a1) fun v => go Try.prog 35 (Fnl [.t 4, .t 5] (en_index_Gather v) []) [.c c35_31] .norm (initSt (List.map PV.d [.lst (List.map (D.int .i64) a0), .lst (List.map (D.int .i64) a1)]) []) from h v hv
  unfold M_index_Gather
  refine Av 10 [.o false (o35_1.drop 1), .c c35_6, .c c35_29] ⟨[(9, lI a0), (3, .ptr (.s 15) 0), (0, lI a0)], [(.s 15, [lI a1])]⟩ ?_
  refine L_call (ok_index_rises a0) trivial rfl (fun _ => rfl) (fun _ => trivial) (fun r1 => ?_)
  refine Av 2 [.o false (o35_1.drop 4), .c c35_6, .c c35_29] ⟨[(12, bB (!r1)), (3, .ptr (.s 15) 0), (0, lI a0)], [(.s 15, [lI a1])]⟩ ?_
  refine L_take 4 o35_1t4_8 (o35_1.drop 8) ?_
  refine L_join [.o false o35_1t4_8] [.o false (o35_1.drop 8), .c c35_6, .c c35_29] (fun x : Bool => ⟨[(16, bB x), (3, .ptr (.s 15) 0), (0, lI a0)], [(.s 15, [lI a1])]⟩) ?_ (fun j3 => ?_)
  · refine L_split 12 decF (fun _ => ?_) (fun _ => ?_)
    · refine Av 5 [] ⟨[(16, bB true), (3, .ptr (.s 15) 0), (0, lI a0)], [(.s 15, [lI a1])]⟩ ?_
      exact L_end
    · refine Av 2 [.o false (o35_1t4_8.drop 2)] ⟨[(14, .clo (.func 58) [] [.ptr (.s 15) 0]), (12, bB false), (13, lI a0), (3, .ptr (.s 15) 0), (0, lI a0)], [(.s 15, [lI a1])]⟩ ?_
      refine L_call (ok_slices_ContainsFunc_int_int_index_Gather_1 a0 a1) rfl rfl (fun _ => rfl) (fun _ => trivial) (fun r2 => ?_)
      refine Av 2 [] ⟨[(16, bB r2), (3, .ptr (.s 15) 0), (0, lI a0)], [(.s 15, [lI a1])]⟩ ?_
      exact L_end
  · refine Av 1 [.c c35_6, .c c35_29] ⟨[(16, bB j3), (3, .ptr (.s 15) 0), (0, lI a0)], [(.s 15, [lI a1])]⟩ ?_
    refine L_split 16 decT (fun _ => ?_) (fun _ => ?_)
    · refine Avk 8 [] .ret ⟨[(5, nI 1), (4, .nils)], []⟩ ?_
      exact L_ret
    · refine Av 5 [.o false (o35_3.drop 1), .c c35_28] ⟨[(17, lI a0), (3, .ptr (.s 15) 0), (0, lI a0)], [(.s 15, [lI a1])]⟩ ?_
      refine L_len (enc := D.int .i64) (l := a0) trivial rfl ?_
      refine Av 0 [.o false (o35_3.drop 2), .c c35_28] ⟨[(18, nI (a0.length : Int)), (3, .ptr (.s 15) 0), (0, lI a0)], [(.s 15, [lI a1])]⟩ ?_
      refine L_mk (enc := D.int .i64) (z0 := 0) (a := 0) (b := (a0.length : Int)) trivial rfl rfl rfl (fun _ => ?_)
      refine Al 6 [.o false (o35_4.drop 1), .c c35_23, .c c35_27] .norm (fun y4 : List Int => ⟨[(20, lI a0), (6, sI (.s 4847) y4), (3, .ptr (.s 15) 0)], [(.s 15, [lI a1])]⟩) (fun y4 => ?_)
      refine L_len (enc := D.int .i64) (l := a0) trivial rfl ?_
      refine Av 4 [.l c35_21, .b 0, .c c35_27] ⟨[(22, nI 0), (21, nI (a0.length : Int)), (20, lI a0), (6, sI (.s 4847) y4), (3, .ptr (.s 15) 0)], [(.s 15, [lI a1])]⟩ ?_
      refine L_piece (fs := [.l c35_21]) (ks := [.b 0, .c c35_27]) (ok_index_Gather_l0_ok a0 a1 0 y4) (fun j8 => ?_)
      refine Avk 8 [] .ret ⟨[(5, nI 0), (4, sI (.h 0) j8)], []⟩ ?_
      exact L_ret
/-- thrum/index.Left. -/
def en_index_Left (v : (List Int) × Int) : PV := .tup [sI (.s 0) v.1, nI v.2]
def o36_0 : List AOper := [⟨some 4, none, 0, .mov (.c .nils)⟩, mi 5 1 0]
def o36_1 : List AOper := [mv 9 100 0, mv 10 101 1, cl' 11 102 22 [.t 9, .t 10], mv 6 103 11]
def o36_2 : List AOper := [mv 12 200 6, bc 13 201 .neq 12 0]
def o36_3 : List AOper := [mv 14 300 6, ⟨some 4, none, 301, .mov (.c .nils)⟩, mv 5 302 14]
def o36_4 : List AOper := [⟨some 7, none, 400, .mov (.c .nils)⟩]
def o36_5 : List AOper := [mv 15 500 0, mi 16 501 0]
def o36_6 : List AOper := [bi 17 600 .lss 16 15]
def o36_7 : List AOper := [mv 18 700 16, mv 8 701 18]
def o36_8 : List AOper := [mv 19 800 1, ln 20 801 19, bc 21 802 .gtr 20 0, mv 22 803 21, gv 23 22 true 804 1, ⟨some 24, some (22, true), 805, .idxA 1 (.t 23) (.c (.d (.int .i64 0)))⟩, ⟨some 25, some (22, true), 806, .load false 1 (.t 24)⟩, gv 26 22 true 807 8, ⟨some 27, some (22, true), 808, .bin .eql .int (.t 25) (.t 26)⟩, pk 28 809 22 27 false]
def o36_9 : List AOper := [mv 29 900 1, ⟨some 30, none, 901, .sliceS 1 (.t 29) (some (.c (.d (.int .i64 1)))) none none⟩, mv 1 902 30]
def o36_10 : List AOper := [mv 31 1000 7, mv 32 1001 8, ⟨some 33, none, 1002, .bslice 3 1 [.t 32]⟩, ⟨some 34, none, 1003, .app 3 1 8 (.t 31) (.t 33)⟩, mv 7 1004 34]
def o36_11 : List AOper := [bc 35 1100 .add 16 1, mv 16 1101 35]
def o36_12 : List AOper := [mv 36 1200 7, mv 4 1201 36, mi 5 1202 0]
def o36_8t4_10 : List AOper := (o36_8.drop 4).take 6
def c36_7 : AC := .cond (.t 13) (.seq (.reg o36_3) .ret) .skip
def c36_8 : AC := .seq (.reg o36_2) c36_7
def c36_15 : AC := .cond (.t 17) .skip (.exit 0)
def c36_22 : AC := .cond (.t 28) (.seq (.reg o36_9) (.exit 1)) .skip
def c36_24 : AC := .reg o36_10
def c36_28 : AC := .reg o36_11
def c36_29 : AC := .seq (.block 1 (.seq (.reg o36_7) (.seq (.seq (.reg o36_8) c36_22) c36_24))) c36_28
def c36_31 : AC := .seq (.reg o36_6) (.seq c36_15 c36_29)
def c36_37 : AC := .seq (.reg o36_12) .ret
def c36_39 : AC := .seq (.reg o36_4) (.seq (.seq (.reg o36_5) (.block 0 (.loop c36_31))) c36_37)
def c36_41 : AC := .seq (.reg o36_0) (.seq (.seq (.reg o36_1) c36_8) c36_39)
theorem fn36 : fnA Try.prog 36 = some (37, [.t 4, .t 5], c36_41) := by kernel_rfl
def q_ok_index_Left_l0_ok (a0 : Int) (x0 : Int) (x1 : List Int) (x2 : List Int) (v : (List Int)) : Prop := (fun v => go Try.prog 37 (PostN (.exit 0) (fun x : (List Int) => ⟨[(7, sI (.h 0) x)], []⟩) v) [.l c36_31] .norm ⟨[(16, nI x0), (15, nI a0), (7, sI (.h 0) x1), (1, lI x2)], []⟩) v
theorem ok_index_Left_l0_ok (a0 : Int) (x0 : Int) (x1 : List Int) (x2 : List Int) : Ok (M_index_Left_l0 a0 x0 x1 x2) (q_ok_index_Left_l0_ok a0 x0 x1 x2) := by
  refine M_index_Left_l0.partial_correctness a0 (q_ok_index_Left_l0_ok a0) ?_ x0 x1 x2
  clear x0 x1 x2
  intro f' IH x0 x1 x2
  refine okI ?_
  unfold q_ok_index_Left_l0_ok at *
  refine Av 1 [.c c36_31, .l c36_31] ⟨[(16, nI x0), (15, nI a0), (7, sI (.h 0) x1), (1, lI x2)], []⟩ ?_
  refine Av 5 [.c c36_15, .c c36_29, .l c36_31] ⟨[(17, bB (decide (x0 < a0))), (16, nI x0), (15, nI a0), (7, sI (.h 0) x1), (1, lI x2)], []⟩ ?_
  refine L_split 17 rfl (fun _ => ?_) (fun _ => ?_)
  · refine Av 13 [.o false (o36_8.drop 1), .c c36_22, .c c36_24, .b 1, .c c36_28, .l c36_31] ⟨[(19, lI x2), (8, nI x0), (16, nI x0), (15, nI a0), (7, sI (.h 0) x1), (1, lI x2)], []⟩ ?_
    refine L_len (enc := D.int .i64) (l := x2) trivial rfl ?_
    refine Av 2 [.o false (o36_8.drop 4), .c c36_22, .c c36_24, .b 1, .c c36_28, .l c36_31] ⟨[(22, bB (decide ((x2.length : Int) > 0))), (8, nI x0), (16, nI x0), (15, nI a0), (7, sI (.h 0) x1), (1, lI x2)], []⟩ ?_
    refine L_take 6 o36_8t4_10 (o36_8.drop 10) ?_
    refine L_join [.o false o36_8t4_10] [.o false (o36_8.drop 10), .c c36_22, .c c36_24, .b 1, .c c36_28, .l c36_31] (fun x : Bool => ⟨[(28, bB x), (8, nI x0), (16, nI x0), (15, nI a0), (7, sI (.h 0) x1), (1, lI x2)], []⟩) ?_ (fun j2 => ?_)
    · refine L_split 22 rfl (fun _ => ?_) (fun _ => ?_)
      · refine Av 1 [.o false (o36_8t4_10.drop 1)] ⟨[(23, lI x2), (22, bB true), (8, nI x0), (16, nI x0), (15, nI a0), (7, sI (.h 0) x1), (1, lI x2)], []⟩ ?_
        refine L_idxD (enc := D.int .i64) (l := x2) (iv := 0) rfl rfl rfl (fun _ => rfl) (fun _ => ?_)
        refine Av 5 [] ⟨[(28, bB ((at' x2 0) == x0)), (8, nI x0), (16, nI x0), (15, nI a0), (7, sI (.h 0) x1), (1, lI x2)], []⟩ ?_
        exact L_end
      · refine Av 7 [] ⟨[(28, bB false), (8, nI x0), (16, nI x0), (15, nI a0), (7, sI (.h 0) x1), (1, lI x2)], []⟩ ?_
        exact L_end
    · refine Av 1 [.c c36_22, .c c36_24, .b 1, .c c36_28, .l c36_31] ⟨[(28, bB j2), (8, nI x0), (16, nI x0), (15, nI a0), (7, sI (.h 0) x1), (1, lI x2)], []⟩ ?_
      refine L_split 28 decT (fun _ => ?_) (fun _ => ?_)
      · refine Av 4 [.o false (o36_9.drop 1), .c (.exit 1), .c c36_24, .b 1, .c c36_28, .l c36_31] ⟨[(29, lI x2), (16, nI x0), (15, nI a0), (7, sI (.h 0) x1)], []⟩ ?_
        refine L_cutD (enc := D.int .i64) (l := x2) (a := (some 1)) (b := none) trivial rfl rfl rfl (fun _ => rfl) (fun _ => ?_)
        refine Av 9 [.l c36_31] ⟨[(16, nI (IntKind.i64.wrap (x0 + 1))), (1, lI (cut' x2 (some 1) none)), (15, nI a0), (7, sI (.h 0) x1)], []⟩ ?_
        exact L_again (IH (IntKind.i64.wrap (x0 + 1)) x1 (cut' x2 (some 1) none))
      · refine Av 6 [.o false (o36_10.drop 3), .b 1, .c c36_28, .l c36_31] ⟨[(33, sI (.s 16047) [x0]), (31, sI (.h 0) x1), (16, nI x0), (15, nI a0), (1, lI x2)], []⟩ ?_
        refine L_app (enc := D.int .i64) (l := x1) (l2 := [x0]) trivial rfl rfl (fun _ => rfl) (fun _ => ?_)
        refine Av 7 [.l c36_31] ⟨[(16, nI (IntKind.i64.wrap (x0 + 1))), (7, sI (.s 16063) (x1 ++ [x0])), (15, nI a0), (1, lI x2)], []⟩ ?_
        exact L_again (IH (IntKind.i64.wrap (x0 + 1)) (x1 ++ [x0]) x2)
  · refine Avk 4 [] (.exit 0) ⟨[(7, sI (.h 0) x1)], []⟩ ?_
    exact L_end
theorem ok_index_Left (a0 : Int) (a1 : List Int) : ∀ v, M_index_Left a0 a1 = some v → EvF Try.prog 36 [.int .i64 a0, .lst (List.map (D.int .i64) a1)] (en_index_Left v) := by
  intro v hv
  refine EvF_go fn36 (Nat.le_of_ble_eq_true rfl) ?_
  suffices h : Ok (M_index_Left a0 a1) fun v => go Try.prog 37 (Fnl [.t 4, .t 5] (en_index_Left v) []) [.c c36_41] .norm (initSt (List.map PV.d [.int .i64 a0, .lst (List.map (D.int .i64) a1)]) []) from h v hv
  unfold M_index_Left
  refine Av 10 [.o false (o36_1.drop 2), .c c36_8, .c c36_39] ⟨[(10, lI a1), (9, nI a0), (0, nI a0), (1, lI a1)], []⟩ ?_
  refine L_call (ok_index_Check a0 a1) trivial rfl (fun _ => rfl) (fun _ => trivial) (fun r1 => ?_)
  refine Av 7 [.c c36_7, .c c36_39] ⟨[(13, bB (r1 != 0)), (6, nI r1), (0, nI a0), (1, lI a1)], []⟩ ?_
  refine L_split 13 decNe (fun _ => ?_) (fun _ => ?_)
  · refine Avk 9 [] .ret ⟨[(5, nI r1), (4, .nils)], []⟩ ?_
    exact L_ret
  · refine Av 14 [.l c36_31, .b 0, .c c36_37] ⟨[(16, nI 0), (15, nI a0), (7, .nils), (1, lI a1)], []⟩ ?_
    refine L_piece (fs := [.l c36_31]) (ks := [.b 0, .c c36_37]) (ok_index_Left_l0_ok a0 0 [] a1) (fun j3 => ?_)
    refine Avk 8 [] .ret ⟨[(5, nI 0), (4, sI (.h 0) j3)], []⟩ ?_
    exact L_ret
/-- thrum/index.Spread. -/
def en_index_Spread (v : (List Int) × Int) : PV := .tup [sI (.s 0) v.1, nI v.2]
def o37_0 : List AOper := [⟨some 6, none, 0, .mov (.c .nils)⟩, mi 7 1 0]
def o37_1 : List AOper := [mv 12 100 0, mv 13 101 1, cl' 14 102 22 [.t 12, .t 13], mv 8 103 14]
def o37_2 : List AOper := [mv 16 200 8, bc 17 201 .neq 16 0, mv 15 202 17]
def o37_3 : List AOper := [mv 18 300 8, ⟨some 6, none, 301, .mov (.c .nils)⟩, mv 7 302 18]
def o37_4 : List AOper := [mv 20 400 1, ln 21 401 20, mv 22 402 2, ln 23 403 22, bi 24 404 .neq 21 23, mv 19 405 24]
def o37_5 : List AOper := [⟨some 6, none, 500, .mov (.c .nils)⟩, mi 7 501 4]
def o37_6 : List AOper := [mv 25 600 0, ⟨some 26, none, 601, .mkS 2 1 8 (.int .i64 0) (.t 25) (.t 25)⟩, mv 9 602 26]
def o37_7 : List AOper := [mv 27 700 1, ln 28 701 27, mi 29 702 0]
def o37_8 : List AOper := [bi 30 800 .lss 29 28]
def o37_9 : List AOper := [mv 31 900 29, ⟨some 32, none, 901, .idxA 1 (.t 27) (.t 29)⟩, ld 33 902 32, mv 10 903 31, mv 11 904 33]
def o37_10 : List AOper := [mv 34 1000 9, mv 35 1001 11, mv 36 1002 2, mv 37 1003 10, ⟨some 38, none, 1004, .idxA 1 (.t 36) (.t 37)⟩, ld 39 1005 38, ⟨some 40, none, 1006, .idxA 1 (.t 34) (.t 35)⟩, ⟨none, none, 1007, .store 1 (.t 40) (.t 39)⟩]
def o37_11 : List AOper := [bc 41 1100 .add 29 1, mv 29 1101 41]
def o37_12 : List AOper := [mv 42 1200 9, mv 6 1201 42, mi 7 1202 0]
def c37_11 : AC := .cond (.t 19) (.seq (.reg o37_5) .ret) .skip
def c37_13 : AC := .cond (.t 15) (.seq (.reg o37_3) .ret) (.seq (.reg o37_4) c37_11)
def c37_15 : AC := .block 0 (.seq (.reg o37_2) c37_13)
def c37_22 : AC := .cond (.t 30) .skip (.exit 1)
def c37_24 : AC := .reg o37_10
def c37_27 : AC := .reg o37_11
def c37_28 : AC := .seq (.block 2 (.seq (.reg o37_9) c37_24)) c37_27
def c37_30 : AC := .seq (.reg o37_8) (.seq c37_22 c37_28)
def c37_32 : AC := .block 1 (.loop c37_30)
def c37_36 : AC := .seq (.reg o37_12) .ret
def c37_37 : AC := .seq (.seq (.reg o37_7) c37_32) c37_36
def c37_38 : AC := .seq (.reg o37_6) c37_37
def c37_40 : AC := .seq (.reg o37_0) (.seq (.seq (.reg o37_1) c37_15) c37_38)
theorem fn37 : fnA Try.prog 37 = some (43, [.t 6, .t 7], c37_40) := by kernel_rfl
def q_ok_index_Spread_l0_ok (a1 : List Int) (a2 : List Int) (x0 : Int) (x1 : List Int) (v : (List Int)) : Prop := (fun v => go Try.prog 43 (PostN (.exit 1) (fun x : (List Int) => ⟨[(9, sI (.h 0) x)], []⟩) v) [.l c37_30] .norm ⟨[(29, nI x0), (28, nI (a1.length : Int)), (27, lI a1), (9, sI (.h 0) x1), (2, lI a2)], []⟩) v
theorem ok_index_Spread_l0_ok (a1 : List Int) (a2 : List Int) (x0 : Int) (x1 : List Int) : Ok (M_index_Spread_l0 a1 a2 x0 x1) (q_ok_index_Spread_l0_ok a1 a2 x0 x1) := by
  refine M_index_Spread_l0.partial_correctness a1 a2 (q_ok_index_Spread_l0_ok a1 a2) ?_ x0 x1
  clear x0 x1
  intro f' IH x0 x1
  refine okI ?_
  unfold q_ok_index_Spread_l0_ok at *
  refine Av 1 [.c c37_30, .l c37_30] ⟨[(29, nI x0), (28, nI (a1.length : Int)), (27, lI a1), (9, sI (.h 0) x1), (2, lI a2)], []⟩ ?_
  refine Av 5 [.c c37_22, .c c37_28, .l c37_30] ⟨[(30, bB (decide (x0 < (a1.length : Int)))), (29, nI x0), (28, nI (a1.length : Int)), (27, lI a1), (9, sI (.h 0) x1), (2, lI a2)], []⟩ ?_
  refine L_split 30 rfl (fun _ => ?_) (fun _ => ?_)
  · refine Av 7 [.o false (o37_9.drop 1), .c c37_24, .b 2, .c c37_27, .l c37_30] ⟨[(31, nI x0), (29, nI x0), (28, nI (a1.length : Int)), (27, lI a1), (9, sI (.h 0) x1), (2, lI a2)], []⟩ ?_
    refine L_idxD (enc := D.int .i64) (l := a1) (iv := x0) trivial rfl rfl (fun _ => rfl) (fun _ => ?_)
    refine Av 9 [.o false (o37_10.drop 4), .b 2, .c c37_27, .l c37_30] ⟨[(37, nI x0), (36, lI a2), (35, nI (at' a1 x0)), (34, sI (.h 0) x1), (29, nI x0), (28, nI (a1.length : Int)), (27, lI a1), (9, sI (.h 0) x1), (2, lI a2)], []⟩ ?_
    refine L_idxD (enc := D.int .i64) (l := a2) (iv := x0) trivial rfl rfl (fun _ => rfl) (fun _ => ?_)
    refine Av 1 [.o false (o37_10.drop 6), .b 2, .c c37_27, .l c37_30] ⟨[(39, nI (at' a2 x0)), (35, nI (at' a1 x0)), (34, sI (.h 0) x1), (29, nI x0), (28, nI (a1.length : Int)), (27, lI a1), (9, sI (.h 0) x1), (2, lI a2)], []⟩ ?_
    refine L_idxO (enc := D.int .i64) (l := x1) (iv := at' a1 x0) trivial rfl rfl (fun _ => ?_)
    refine Av 0 [.o false (o37_10.drop 7), .b 2, .c c37_27, .l c37_30] ⟨[(40, .ep (.h 0) 1 (0 + Int.toNat (at' a1 x0)) none (some (.int .i64 (at' x1 (at' a1 x0))))), (39, nI (at' a2 x0)), (29, nI x0), (28, nI (a1.length : Int)), (27, lI a1), (9, sI (.h 0) x1), (2, lI a2)], []⟩ ?_
    refine L_sto (p := nI (at' a2 x0)) (d := .int .i64 (at' a2 x0)) trivial rfl rfl rfl (of_decide_eq_true (by kernel_rfl)) rfl ?_
    refine Av 0 [.o false (o37_10.drop 8), .b 2, .c c37_27, .l c37_30] ⟨[(29, nI x0), (28, nI (a1.length : Int)), (27, lI a1), (9, .sl (.h 0) 1 0 (updEs none (.int .i64 (at' a2 x0)) (List.map (D.int .i64) x1) (0 + Int.toNat (at' a1 x0)))), (2, lI a2)], []⟩ ?_
    refine L_rw (fun z => ⟨[(29, nI x0), (28, nI (a1.length : Int)), (27, lI a1), (9, .sl (.h 0) 1 0 z), (2, lI a2)], []⟩) (b := List.map (D.int .i64) (x1.set (Int.toNat (at' a1 x0)) (at' a2 x0))) (by rw [Nat.zero_add]; exact set_map) ?_
    refine Al 6 [.l c37_30] .norm (fun y4 : List Int => ⟨[(29, nI (IntKind.i64.wrap (x0 + 1))), (28, nI (a1.length : Int)), (27, lI a1), (9, sI (.h 0) y4), (2, lI a2)], []⟩) (fun y4 => ?_)
    exact L_again (IH (IntKind.i64.wrap (x0 + 1)) y4)
  · refine Avk 4 [] (.exit 1) ⟨[(9, sI (.h 0) x1)], []⟩ ?_
    exact L_end
theorem ok_index_Spread (a0 : Int) (a1 : List Int) (a2 : List Int) : ∀ v, M_index_Spread a0 a1 a2 = some v → EvF Try.prog 37 [.int .i64 a0, .lst (List.map (D.int .i64) a1), .lst (List.map (D.int .i64) a2)] (en_index_Spread v) := by
  intro v hv
  refine EvF_go fn37 (Nat.le_of_ble_eq_true rfl) ?_
  suffices h : Ok (M_index_Spread a0 a1 a2) fun v => go Try.prog 43 (Fnl [.t 6, .t 7] (en_index_Spread v) []) [.c c37_40] .norm (initSt (List.map PV.d [.int .i64 a0, .lst (List.map (D.int .i64) a1), .lst (List.map (D.int .i64) a2)]) []) from h v hv
  unfold M_index_Spread
  refine Av 10 [.o false (o37_1.drop 2), .c c37_15, .c c37_38] ⟨[(13, lI a1), (12, nI a0), (0, nI a0), (1, lI a1), (2, lI a2)], []⟩ ?_
  refine L_call (ok_index_Check a0 a1) trivial rfl (fun _ => rfl) (fun _ => trivial) (fun r1 => ?_)
  refine Av 9 [.c c37_13, .b 0, .c c37_38] ⟨[(15, bB (r1 != 0)), (8, nI r1), (0, nI a0), (1, lI a1), (2, lI a2)], []⟩ ?_
  refine L_split 15 decNe (fun _ => ?_) (fun _ => ?_)
  · refine Avk 10 [] .ret ⟨[(7, nI r1), (6, .nils)], []⟩ ?_
    exact L_ret
  · refine Av 4 [.o false (o37_4.drop 1), .c c37_11, .b 0, .c c37_38] ⟨[(20, lI a1), (0, nI a0), (1, lI a1), (2, lI a2)], []⟩ ?_
    refine L_len (enc := D.int .i64) (l := a1) trivial rfl ?_
    refine Av 1 [.o false (o37_4.drop 3), .c c37_11, .b 0, .c c37_38] ⟨[(22, lI a2), (21, nI (a1.length : Int)), (0, nI a0), (1, lI a1), (2, lI a2)], []⟩ ?_
    refine L_len (enc := D.int .i64) (l := a2) trivial rfl ?_
    refine Av 3 [.c c37_11, .b 0, .c c37_38] ⟨[(19, bB ((a1.length : Int) != (a2.length : Int))), (0, nI a0), (1, lI a1), (2, lI a2)], []⟩ ?_
    refine L_split 19 decNe (fun _ => ?_) (fun _ => ?_)
    · refine Avk 9 [] .ret ⟨[(7, nI 4), (6, .nils)], []⟩ ?_
      exact L_ret
    · refine Av 6 [.o false (o37_6.drop 1), .c c37_37] ⟨[(25, nI a0), (1, lI a1), (2, lI a2)], []⟩ ?_
      refine L_mk (enc := D.int .i64) (z0 := 0) (a := a0) (b := a0) trivial rfl rfl rfl (fun _ => ?_)
      refine Al 6 [.o false (o37_7.drop 1), .c c37_32, .c c37_36] .norm (fun y2 : List Int => ⟨[(27, lI a1), (9, sI (.s 9631) y2), (2, lI a2)], []⟩) (fun y2 => ?_)
      refine L_len (enc := D.int .i64) (l := a1) trivial rfl ?_
      refine Av 4 [.l c37_30, .b 1, .c c37_36] ⟨[(29, nI 0), (28, nI (a1.length : Int)), (27, lI a1), (9, sI (.s 9631) y2), (2, lI a2)], []⟩ ?_
      refine L_piece (fs := [.l c37_30]) (ks := [.b 1, .c c37_36]) (ok_index_Spread_l0_ok a1 a2 0 y2) (fun j6 => ?_)
      refine Avk 8 [] .ret ⟨[(7, nI 0), (6, sI (.h 0) j6)], []⟩ ?_
      exact L_ret
/-- thrum/thrumref02.Same. -/
def en_thrumref02_Same (v : Bool) : PV := bB v
def o38_0 : List AOper := [mb 4 0 false]
def o38_1 : List AOper := [mv 6 100 0, ln 7 101 6, mv 8 102 1, ln 9 103 8, bi 10 104 .neq 7 9]
def o38_2 : List AOper := [mb 4 200 false]
def o38_3 : List AOper := [mv 11 300 0, ln 12 301 11, mi 13 302 0]
def o38_4 : List AOper := [bi 14 400 .lss 13 12]
def o38_5 : List AOper := [mv 15 500 13, mv 5 501 15]
def o38_6 : List AOper := [mv 16 600 0, mv 17 601 5, ⟨some 18, none, 602, .idxA 1 (.t 16) (.t 17)⟩, ld 19 603 18, mv 20 604 1, mv 21 605 5, ⟨some 22, none, 606, .idxA 1 (.t 20) (.t 21)⟩, ld 23 607 22, bi 24 608 .neq 19 23]
def o38_7 : List AOper := [mb 4 700 false]
def o38_8 : List AOper := [bc 25 800 .add 13 1, mv 13 801 25]
def o38_9 : List AOper := [mb 4 900 true]
def c38_6 : AC := .cond (.t 10) (.seq (.reg o38_2) .ret) .skip
def c38_12 : AC := .cond (.t 14) .skip (.exit 0)
def c38_14 : AC := .draw [⟨mv 16 600 0, false, []⟩, ⟨mv 17 601 5, false, []⟩, ⟨⟨some 18, none, 602, .idxA 1 (.t 16) (.t 17)⟩, false, []⟩, ⟨ld 19 603 18, false, []⟩, ⟨mv 20 604 1, false, []⟩, ⟨mv 21 605 5, false, []⟩, ⟨⟨some 22, none, 606, .idxA 1 (.t 20) (.t 21)⟩, false, []⟩, ⟨ld 23 607 22, false, []⟩, ⟨bi 24 608 .neq 19 23, false, []⟩]
def c38_19 : AC := .cond (.t 24) (.seq (.reg o38_7) .ret) .skip
def c38_23 : AC := .reg o38_8
def c38_24 : AC := .seq (.block 1 (.seq (.reg o38_5) (.seq c38_14 c38_19))) c38_23
def c38_26 : AC := .seq (.reg o38_4) (.seq c38_12 c38_24)
def c38_28 : AC := .block 0 (.loop c38_26)
def c38_32 : AC := .seq (.reg o38_9) .ret
def c38_33 : AC := .seq (.seq (.reg o38_3) c38_28) c38_32
def c38_35 : AC := .seq (.reg o38_0) (.seq (.seq (.reg o38_1) c38_6) c38_33)
theorem fn38 : fnA Try.prog 38 = some (26, [.t 4], c38_35) := by kernel_rfl
def q_ok_thrumref02_Same_l0_ok (a0 : List Int) (a1 : List Int) (x0 : Int) (v : (Sum Bool Unit)) : Prop := (fun v => go Try.prog 26 (PostR (fun r => Fnl [.t 4] (en_thrumref02_Same r) []) (.exit 0) (fun x : Unit => ⟨[], []⟩) v) [.l c38_26] .norm ⟨[(13, nI x0), (12, nI (a0.length : Int)), (0, lI a0), (1, lI a1)], []⟩) v
theorem ok_thrumref02_Same_l0_ok (a0 : List Int) (a1 : List Int) (x0 : Int) : Ok (M_thrumref02_Same_l0 a0 a1 x0) (q_ok_thrumref02_Same_l0_ok a0 a1 x0) := by
  refine M_thrumref02_Same_l0.partial_correctness a0 a1 (q_ok_thrumref02_Same_l0_ok a0 a1) ?_ x0
  clear x0
  intro f' IH x0
  refine okI ?_
  unfold q_ok_thrumref02_Same_l0_ok at *
  refine Av 1 [.c c38_26, .l c38_26] ⟨[(13, nI x0), (12, nI (a0.length : Int)), (0, lI a0), (1, lI a1)], []⟩ ?_
  refine Av 5 [.c c38_12, .c c38_24, .l c38_26] ⟨[(14, bB (decide (x0 < (a0.length : Int)))), (13, nI x0), (12, nI (a0.length : Int)), (0, lI a0), (1, lI a1)], []⟩ ?_
  refine L_split 14 rfl (fun _ => ?_) (fun _ => ?_)
  · refine Av 10 [.c c38_14, .c c38_19, .b 1, .c c38_23, .l c38_26] ⟨[(5, nI x0), (13, nI x0), (12, nI (a0.length : Int)), (0, lI a0), (1, lI a1)], []⟩ ?_
    refine Ae 3 [.o true (o38_6.drop 2), .c c38_19, .b 1, .c c38_23, .l c38_26] ⟨[(17, nI x0), (16, lI a0), (5, nI x0), (13, nI x0), (12, nI (a0.length : Int)), (0, lI a0), (1, lI a1)], []⟩ ?_
    refine L_idxD (enc := D.int .i64) (l := a0) (iv := x0) trivial rfl rfl (fun _ => rfl) (fun _ => ?_)
    refine Ae 3 [.o true (o38_6.drop 6), .c c38_19, .b 1, .c c38_23, .l c38_26] ⟨[(21, nI x0), (20, lI a1), (19, nI (at' a0 x0)), (18, .d (.cp [.int .i64 (at' a0 x0)] 0)), (17, nI x0), (16, lI a0), (5, nI x0), (13, nI x0), (12, nI (a0.length : Int)), (0, lI a0), (1, lI a1)], []⟩ ?_
    refine L_idxD (enc := D.int .i64) (l := a1) (iv := x0) trivial rfl rfl (fun _ => rfl) (fun _ => ?_)
    refine Av 3 [.c c38_19, .b 1, .c c38_23, .l c38_26] ⟨[(24, bB ((at' a0 x0) != (at' a1 x0))), (13, nI x0), (12, nI (a0.length : Int)), (0, lI a0), (1, lI a1)], []⟩ ?_
    refine L_split 24 decNe (fun _ => ?_) (fun _ => ?_)
    · refine Avk 9 [] .ret ⟨[(4, bB false)], []⟩ ?_
      exact L_retR
    · refine Av 7 [.l c38_26] ⟨[(13, nI (IntKind.i64.wrap (x0 + 1))), (12, nI (a0.length : Int)), (0, lI a0), (1, lI a1)], []⟩ ?_
      exact L_again (IH (IntKind.i64.wrap (x0 + 1)))
  · refine Avk 4 [] (.exit 0) ⟨[], []⟩ ?_
    exact L_endR
theorem ok_thrumref02_Same (a0 : List Int) (a1 : List Int) : ∀ v, M_thrumref02_Same a0 a1 = some v → EvF Try.prog 38 [.lst (List.map (D.int .i64) a0), .lst (List.map (D.int .i64) a1)] (en_thrumref02_Same v) := by
  intro v hv
  refine EvF_go fn38 (Nat.le_of_ble_eq_true rfl) ?_
  suffices h : Ok (M_thrumref02_Same a0 a1) fun v => go Try.prog 26 (Fnl [.t 4] (en_thrumref02_Same v) []) [.c c38_35] .norm (initSt (List.map PV.d [.lst (List.map (D.int .i64) a0), .lst (List.map (D.int .i64) a1)]) []) from h v hv
  unfold M_thrumref02_Same
  refine Av 8 [.o false (o38_1.drop 1), .c c38_6, .c c38_33] ⟨[(6, lI a0), (0, lI a0), (1, lI a1)], []⟩ ?_
  refine L_len (enc := D.int .i64) (l := a0) trivial rfl ?_
  refine Av 1 [.o false (o38_1.drop 3), .c c38_6, .c c38_33] ⟨[(8, lI a1), (7, nI (a0.length : Int)), (0, lI a0), (1, lI a1)], []⟩ ?_
  refine L_len (enc := D.int .i64) (l := a1) trivial rfl ?_
  refine Av 2 [.c c38_6, .c c38_33] ⟨[(10, bB ((a0.length : Int) != (a1.length : Int))), (0, lI a0), (1, lI a1)], []⟩ ?_
  refine L_split 10 decNe (fun _ => ?_) (fun _ => ?_)
  · refine Avk 7 [] .ret ⟨[(4, bB false)], []⟩ ?_
    exact L_ret
  · refine Av 6 [.o false (o38_3.drop 1), .c c38_28, .c c38_32] ⟨[(11, lI a0), (0, lI a0), (1, lI a1)], []⟩ ?_
    refine L_len (enc := D.int .i64) (l := a0) trivial rfl ?_
    refine Av 4 [.l c38_26, .b 0, .c c38_32] ⟨[(13, nI 0), (12, nI (a0.length : Int)), (0, lI a0), (1, lI a1)], []⟩ ?_
    refine L_pieceR (fs := [.l c38_26]) (ks := [.b 0, .c c38_32]) (ok_thrumref02_Same_l0_ok a0 a1 0) L_thru (fun j1 => ?_)
    refine Avk 6 [] .ret ⟨[(4, bB true)], []⟩ ?_
    exact L_ret
/-- thrum/thrumlaw06.IndexSpreads. -/
def en_thrumlaw06_IndexSpreads (v : Bool) : PV := bB v
def o10_0 : List AOper := [mb 6 0 false]
def o10_1 : List AOper := [cl' 24 100 14 [], mv 7 101 24]
def o10_2 : List AOper := [mv 25 200 7, ⟨some 26, none, 201, .un .not (.t 25)⟩]
def o10_3 : List AOper := [mb 6 300 false]
def o10_4 : List AOper := [mv 27 400 1, ln 28 401 27, mv 8 402 28]
def o10_5 : List AOper := [mv 29 500 0, ⟨some 30, none, 501, .bslice 22 1 [.t 29]⟩, cl' 31 502 15 [.t 30], ⟨some 32, none, 503, .un .not (.t 31)⟩, mv 33 504 32, gv 34 33 false 505 8, gv 35 33 false 506 0, ⟨some 36, some (33, false), 507, .call 22 [.t 34, .t 35]⟩, ⟨some 37, some (33, false), 508, .bin .neq .int (.t 36) (.c (.d (.int .i64 0)))⟩, pz 38 509 33 37 true]
def o10_6 : List AOper := [mv 39 600 7, mv 6 601 39]
def o10_7 : List AOper := [mv 41 700 0, mv 42 701 1, cl' 43 702 35 [.t 41, .t 42], mv 40 703 43, xt 44 704 40 0, xt 45 705 40 1, mv 9 706 44, mv 10 707 45]
def o10_8 : List AOper := [mv 47 800 8, mv 48 801 0, cl' 49 802 36 [.t 47, .t 48], mv 46 803 49, xt 50 804 46 0, xt 51 805 46 1, mv 11 806 50, mv 12 807 51]
def o10_9 : List AOper := [mv 53 900 11, mv 54 901 1, cl' 55 902 35 [.t 53, .t 54], mv 52 903 55, xt 56 904 52 0, xt 57 905 52 1, mv 13 906 56, mv 14 907 57]
def o10_10 : List AOper := [mv 59 1000 8, mv 60 1001 0, mv 61 1002 9, cl' 62 1003 37 [.t 59, .t 60, .t 61], mv 58 1004 62, xt 63 1005 58 0, xt 64 1006 58 1, mv 15 1007 63, mv 16 1008 64]
def o10_11 : List AOper := [mv 66 1100 8, mv 67 1101 11, mv 68 1102 13, cl' 69 1103 37 [.t 66, .t 67, .t 68], mv 65 1104 69, xt 70 1105 65 0, xt 71 1106 65 1, mv 17 1107 70, mv 18 1108 71]
def o10_12 : List AOper := [mv 72 1200 10, bc 73 1201 .neq 72 0, mv 74 1202 73, gv 75 74 false 1203 12, ⟨some 76, some (74, false), 1204, .bin .neq .int (.t 75) (.c (.d (.int .i64 0)))⟩, pz 77 1205 74 76 true, mv 78 1206 77, gv 79 78 false 1207 14, ⟨some 80, some (78, false), 1208, .bin .neq .int (.t 79) (.c (.d (.int .i64 0)))⟩, pz 81 1209 78 80 true, mv 82 1210 81, gv 83 82 false 1211 16, ⟨some 84, some (82, false), 1212, .bin .neq .int (.t 83) (.c (.d (.int .i64 0)))⟩, pz 85 1213 82 84 true, mv 86 1214 85, gv 87 86 false 1215 18, ⟨some 88, some (86, false), 1216, .bin .neq .int (.t 87) (.c (.d (.int .i64 0)))⟩, pz 89 1217 86 88 true, mv 90 1218 89, gv 91 90 false 1219 0, ⟨some 92, some (90, false), 1220, .len (.t 91)⟩, gv 93 90 false 1221 11, ⟨some 94, some (90, false), 1222, .len (.t 93)⟩, ⟨some 95, some (90, false), 1223, .bin .add .int (.t 92) (.t 94)⟩, gv 96 90 false 1224 8, ⟨some 97, some (90, false), 1225, .bin .neq .int (.t 95) (.t 96)⟩, pz 98 1226 90 97 true, mv 99 1227 98, gv 100 99 false 1228 15, ⟨some 101, some (99, false), 1229, .len (.t 100)⟩, gv 102 99 false 1230 8, ⟨some 103, some (99, false), 1231, .bin .neq .int (.t 101) (.t 102)⟩, pz 104 1232 99 103 true, mv 105 1233 104, gv 106 105 false 1234 17, ⟨some 107, some (105, false), 1235, .len (.t 106)⟩, gv 108 105 false 1236 8, ⟨some 109, some (105, false), 1237, .bin .neq .int (.t 107) (.t 108)⟩, pz 110 1238 105 109 true]
def o10_13 : List AOper := [mb 6 1300 false]
def o10_14 : List AOper := [mv 111 1400 1, ln 112 1401 111, mi 113 1402 0]
def o10_15 : List AOper := [bi 114 1500 .lss 113 112]
def o10_16 : List AOper := [mv 115 1600 113, mv 19 1601 115]
def o10_17 : List AOper := [mv 116 1700 15, mv 117 1701 19, ⟨some 118, none, 1702, .idxA 1 (.t 116) (.t 117)⟩, ld 119 1703 118, mv 120 1704 17, mv 121 1705 19, ⟨some 122, none, 1706, .idxA 1 (.t 120) (.t 121)⟩, ld 123 1707 122, bi 124 1708 .add 119 123, mv 125 1709 1, mv 126 1710 19, ⟨some 127, none, 1711, .idxA 1 (.t 125) (.t 126)⟩, ld 128 1712 127, bi 129 1713 .neq 124 128, mv 130 1714 129, gv 131 130 false 1715 15, gv 132 130 false 1716 19, ⟨some 133, some (130, false), 1717, .idxA 1 (.t 131) (.t 132)⟩, ⟨some 134, some (130, false), 1718, .load false 1 (.t 133)⟩, ⟨some 135, some (130, false), 1719, .bin .neq .int (.t 134) (.c (.d (.int .i64 0)))⟩, gv 136 130 false 1720 135, gv 137 136 true 1721 17, gv 138 136 true 1722 19, ⟨some 139, some (136, true), 1723, .idxA 1 (.t 137) (.t 138)⟩, ⟨some 140, some (136, true), 1724, .load false 1 (.t 139)⟩, ⟨some 141, some (136, true), 1725, .bin .neq .int (.t 140) (.c (.d (.int .i64 0)))⟩, ⟨some 142, some (130, false), 1726, .pick (.t 136) (.t 141) (.c (.d (.bool false)))⟩, pz 143 1727 130 142 true]
def o10_18 : List AOper := [mb 6 1800 false]
def o10_19 : List AOper := [bc 144 1900 .add 113 1, mv 113 1901 144]
def o10_20 : List AOper := [mv 145 2000 2, ln 146 2001 145, mv 147 2002 0, ln 148 2003 147, bi 149 2004 .lss 146 148]
def o10_21 : List AOper := [mv 150 2100 7, mv 6 2101 150]
def o10_22 : List AOper := [mv 152 2200 8, mv 153 2201 0, mv 154 2202 2, mv 155 2203 0, ln 156 2204 155, ⟨some 157, none, 2205, .sliceS 1 (.t 154) none (some (.t 156)) none⟩, cl' 158 2206 37 [.t 152, .t 153, .t 157], mv 151 2207 158, xt 159 2208 151 0, xt 160 2209 151 1, mv 20 2210 159, mv 21 2211 160]
def o10_23 : List AOper := [mv 162 2300 0, mv 163 2301 20, cl' 164 2302 35 [.t 162, .t 163], mv 161 2303 164, xt 165 2304 161 0, xt 166 2305 161 1, mv 22 2306 165, mv 23 2307 166]
def o10_24 : List AOper := [mv 167 2400 7, mv 168 2401 167, gv 169 168 true 2402 21, ⟨some 170, some (168, true), 2403, .bin .eql .int (.t 169) (.c (.d (.int .i64 0)))⟩, pk 171 2404 168 170 false, mv 172 2405 171, gv 173 172 true 2406 23, ⟨some 174, some (172, true), 2407, .bin .eql .int (.t 173) (.c (.d (.int .i64 0)))⟩, pk 175 2408 172 174 false, mv 176 2409 175, gv 177 176 true 2410 22, gv 178 176 true 2411 2, gv 179 176 true 2412 0, ⟨some 180, some (176, true), 2413, .len (.t 179)⟩, ⟨some 181, some (176, true), 2414, .sliceS 1 (.t 178) none (some (.t 180)) none⟩, ⟨some 182, some (176, true), 2415, .call 38 [.t 177, .t 181]⟩, pk 183 2416 176 182 false, mv 6 2417 183]
def o10_5t5_10 : List AOper := (o10_5.drop 5).take 5
def o10_12t3_6 : List AOper := (o10_12.drop 3).take 3
def o10_12t7_10 : List AOper := (o10_12.drop 7).take 3
def o10_12t11_14 : List AOper := (o10_12.drop 11).take 3
def o10_12t15_18 : List AOper := (o10_12.drop 15).take 3
def o10_12t19_27 : List AOper := (o10_12.drop 19).take 8
def o10_12t28_33 : List AOper := (o10_12.drop 28).take 5
def o10_12t34_39 : List AOper := (o10_12.drop 34).take 5
def o10_24t2_5 : List AOper := (o10_24.drop 2).take 3
def o10_24t6_9 : List AOper := (o10_24.drop 6).take 3
def o10_24t10_17 : List AOper := (o10_24.drop 10).take 7
def c10_7 : AC := .cond (.t 26) (.seq (.reg o10_3) .ret) .skip
def c10_15 : AC := .cond (.t 38) (.seq (.reg o10_6) .ret) .skip
def c10_27 : AC := .cond (.t 110) (.seq (.reg o10_13) .ret) .skip
def c10_33 : AC := .cond (.t 114) .skip (.exit 0)
def c10_35 : AC := .draw [⟨mv 116 1700 15, false, []⟩, ⟨mv 117 1701 19, false, []⟩, ⟨⟨some 118, none, 1702, .idxA 1 (.t 116) (.t 117)⟩, false, []⟩, ⟨ld 119 1703 118, false, []⟩, ⟨mv 120 1704 17, false, []⟩, ⟨mv 121 1705 19, false, []⟩, ⟨⟨some 122, none, 1706, .idxA 1 (.t 120) (.t 121)⟩, false, []⟩, ⟨ld 123 1707 122, false, []⟩, ⟨bi 124 1708 .add 119 123, false, []⟩, ⟨mv 125 1709 1, false, []⟩, ⟨mv 126 1710 19, false, []⟩, ⟨⟨some 127, none, 1711, .idxA 1 (.t 125) (.t 126)⟩, false, []⟩, ⟨ld 128 1712 127, false, []⟩, ⟨bi 129 1713 .neq 124 128, false, []⟩, ⟨mv 130 1714 129, false, []⟩, ⟨gv 131 130 false 1715 15, false, []⟩, ⟨gv 132 130 false 1716 19, false, []⟩, ⟨⟨some 133, some (130, false), 1717, .idxA 1 (.t 131) (.t 132)⟩, false, []⟩, ⟨⟨some 134, some (130, false), 1718, .load false 1 (.t 133)⟩, false, []⟩, ⟨⟨some 135, some (130, false), 1719, .bin .neq .int (.t 134) (.c (.d (.int .i64 0)))⟩, false, []⟩, ⟨gv 136 130 false 1720 135, false, []⟩, ⟨gv 137 136 true 1721 17, false, []⟩, ⟨gv 138 136 true 1722 19, false, []⟩, ⟨⟨some 139, some (136, true), 1723, .idxA 1 (.t 137) (.t 138)⟩, false, []⟩, ⟨⟨some 140, some (136, true), 1724, .load false 1 (.t 139)⟩, false, []⟩, ⟨⟨some 141, some (136, true), 1725, .bin .neq .int (.t 140) (.c (.d (.int .i64 0)))⟩, false, []⟩, ⟨⟨some 142, some (130, false), 1726, .pick (.t 136) (.t 141) (.c (.d (.bool false)))⟩, false, []⟩, ⟨pz 143 1727 130 142 true, false, []⟩]
def c10_40 : AC := .cond (.t 143) (.seq (.reg o10_18) .ret) .skip
def c10_44 : AC := .reg o10_19
def c10_45 : AC := .seq (.block 1 (.seq (.reg o10_16) (.seq c10_35 c10_40))) c10_44
def c10_47 : AC := .seq (.reg o10_15) (.seq c10_33 c10_45)
def c10_49 : AC := .block 0 (.loop c10_47)
def c10_56 : AC := .cond (.t 149) (.seq (.reg o10_21) .ret) .skip
def c10_62 : AC := .seq (.reg o10_24) .ret
def c10_63 : AC := .seq (.reg o10_23) c10_62
def c10_64 : AC := .seq (.reg o10_22) c10_63
def c10_65 : AC := .seq (.seq (.reg o10_20) c10_56) c10_64
def c10_66 : AC := .seq (.seq (.reg o10_14) c10_49) c10_65
def c10_67 : AC := .seq (.seq (.reg o10_12) c10_27) c10_66
def c10_68 : AC := .seq (.reg o10_11) c10_67
def c10_69 : AC := .seq (.reg o10_10) c10_68
def c10_70 : AC := .seq (.reg o10_9) c10_69
def c10_71 : AC := .seq (.reg o10_8) c10_70
def c10_72 : AC := .seq (.reg o10_7) c10_71
def c10_73 : AC := .seq (.seq (.reg o10_5) c10_15) c10_72
def c10_74 : AC := .seq (.reg o10_4) c10_73
def c10_75 : AC := .seq (.seq (.reg o10_2) c10_7) c10_74
def c10_77 : AC := .seq (.reg o10_0) (.seq (.reg o10_1) c10_75)
theorem fn10 : fnA Try.prog 10 = some (184, [.t 6], c10_77) := by kernel_rfl
def q_ok_thrumlaw06_IndexSpreads_l0_ok (a0 : List Int) (a1 : List Int) (a2 : List Int) (r1 : Bool) (r8 : (List Int) × Int) (r9 : (List Int) × Int) (x0 : Int) (v : (Sum Bool Unit)) : Prop := (fun v => go Try.prog 184 (PostR (fun r => Fnl [.t 6] (en_thrumlaw06_IndexSpreads r) []) (.exit 0) (fun x : Unit => ⟨[(8, nI (a1.length : Int)), (7, bB r1), (0, lI a0), (2, lI a2)], []⟩) v) [.l c10_47] .norm ⟨[(113, nI x0), (112, nI (a1.length : Int)), (17, sI (.s 17648) r9.1), (15, sI (.s 16048) r8.1), (8, nI (a1.length : Int)), (7, bB r1), (0, lI a0), (1, lI a1), (2, lI a2)], []⟩) v
theorem ok_thrumlaw06_IndexSpreads_l0_ok (a0 : List Int) (a1 : List Int) (a2 : List Int) (r1 : Bool) (r8 : (List Int) × Int) (r9 : (List Int) × Int) (x0 : Int) : Ok (M_thrumlaw06_IndexSpreads_l0 a0 a1 a2 r1 r8 r9 x0) (q_ok_thrumlaw06_IndexSpreads_l0_ok a0 a1 a2 r1 r8 r9 x0) := by
  refine M_thrumlaw06_IndexSpreads_l0.partial_correctness a0 a1 a2 r1 r8 r9 (q_ok_thrumlaw06_IndexSpreads_l0_ok a0 a1 a2 r1 r8 r9) ?_ x0
  clear x0
  intro f' IH x0
  refine okI ?_
  unfold q_ok_thrumlaw06_IndexSpreads_l0_ok at *
  refine Av 1 [.c c10_47, .l c10_47] ⟨[(113, nI x0), (112, nI (a1.length : Int)), (17, sI (.s 17648) r9.1), (15, sI (.s 16048) r8.1), (8, nI (a1.length : Int)), (7, bB r1), (0, lI a0), (1, lI a1), (2, lI a2)], []⟩ ?_
  refine Av 5 [.c c10_33, .c c10_45, .l c10_47] ⟨[(114, bB (decide (x0 < (a1.length : Int)))), (113, nI x0), (112, nI (a1.length : Int)), (17, sI (.s 17648) r9.1), (15, sI (.s 16048) r8.1), (8, nI (a1.length : Int)), (7, bB r1), (0, lI a0), (1, lI a1), (2, lI a2)], []⟩ ?_
  refine L_split 114 rfl (fun _ => ?_) (fun _ => ?_)
  · refine Av 10 [.c c10_35, .c c10_40, .b 1, .c c10_44, .l c10_47] ⟨[(19, nI x0), (113, nI x0), (112, nI (a1.length : Int)), (17, sI (.s 17648) r9.1), (15, sI (.s 16048) r8.1), (8, nI (a1.length : Int)), (7, bB r1), (0, lI a0), (1, lI a1), (2, lI a2)], []⟩ ?_
    refine Ae 3 [.o true (o10_17.drop 2), .c c10_40, .b 1, .c c10_44, .l c10_47] ⟨[(117, nI x0), (116, sI (.s 16048) r8.1), (19, nI x0), (113, nI x0), (112, nI (a1.length : Int)), (17, sI (.s 17648) r9.1), (15, sI (.s 16048) r8.1), (8, nI (a1.length : Int)), (7, bB r1), (0, lI a0), (1, lI a1), (2, lI a2)], []⟩ ?_
    refine L_idxO (enc := D.int .i64) (l := r8.1) (iv := x0) trivial rfl rfl (fun _ => ?_)
    refine Ae 3 [.o true (o10_17.drop 6), .c c10_40, .b 1, .c c10_44, .l c10_47] ⟨[(121, nI x0), (120, sI (.s 17648) r9.1), (119, nI (at' r8.1 x0)), (118, .ep (.s 16048) 1 (0 + Int.toNat x0) none (some (.int .i64 (at' r8.1 x0)))), (117, nI x0), (116, sI (.s 16048) r8.1), (19, nI x0), (113, nI x0), (112, nI (a1.length : Int)), (17, sI (.s 17648) r9.1), (15, sI (.s 16048) r8.1), (8, nI (a1.length : Int)), (7, bB r1), (0, lI a0), (1, lI a1), (2, lI a2)], []⟩ ?_
    refine L_idxO (enc := D.int .i64) (l := r9.1) (iv := x0) trivial rfl rfl (fun _ => ?_)
    refine Ae 4 [.o true (o10_17.drop 11), .c c10_40, .b 1, .c c10_44, .l c10_47] ⟨[(126, nI x0), (125, lI a1), (124, nI (IntKind.i64.wrap ((at' r8.1 x0) + (at' r9.1 x0)))), (123, nI (at' r9.1 x0)), (122, .ep (.s 17648) 1 (0 + Int.toNat x0) none (some (.int .i64 (at' r9.1 x0)))), (121, nI x0), (120, sI (.s 17648) r9.1), (119, nI (at' r8.1 x0)), (118, .ep (.s 16048) 1 (0 + Int.toNat x0) none (some (.int .i64 (at' r8.1 x0)))), (117, nI x0), (116, sI (.s 16048) r8.1), (19, nI x0), (113, nI x0), (112, nI (a1.length : Int)), (17, sI (.s 17648) r9.1), (15, sI (.s 16048) r8.1), (8, nI (a1.length : Int)), (7, bB r1), (0, lI a0), (1, lI a1), (2, lI a2)], []⟩ ?_
    refine L_idxD (enc := D.int .i64) (l := a1) (iv := x0) trivial rfl rfl (fun _ => rfl) (fun _ => ?_)
    refine Ae 3 [.o true (o10_17.drop 15), .c c10_40, .b 1, .c c10_44, .l c10_47] ⟨[(130, bB ((IntKind.i64.wrap ((at' r8.1 x0) + (at' r9.1 x0))) != (at' a1 x0))), (129, bB ((IntKind.i64.wrap ((at' r8.1 x0) + (at' r9.1 x0))) != (at' a1 x0))), (128, nI (at' a1 x0)), (127, .d (.cp [.int .i64 (at' a1 x0)] 0)), (126, nI x0), (125, lI a1), (124, nI (IntKind.i64.wrap ((at' r8.1 x0) + (at' r9.1 x0)))), (123, nI (at' r9.1 x0)), (122, .ep (.s 17648) 1 (0 + Int.toNat x0) none (some (.int .i64 (at' r9.1 x0)))), (121, nI x0), (120, sI (.s 17648) r9.1), (119, nI (at' r8.1 x0)), (118, .ep (.s 16048) 1 (0 + Int.toNat x0) none (some (.int .i64 (at' r8.1 x0)))), (117, nI x0), (116, sI (.s 16048) r8.1), (19, nI x0), (113, nI x0), (112, nI (a1.length : Int)), (17, sI (.s 17648) r9.1), (15, sI (.s 16048) r8.1), (8, nI (a1.length : Int)), (7, bB r1), (0, lI a0), (1, lI a1), (2, lI a2)], []⟩ ?_
    refine L_splitE (b := (IntKind.i64.wrap ((at' r8.1 x0) + (at' r9.1 x0))) != (at' a1 x0)) (fun z => ⟨[(130, bB z), (129, bB ((IntKind.i64.wrap ((at' r8.1 x0) + (at' r9.1 x0))) != (at' a1 x0))), (128, nI (at' a1 x0)), (127, .d (.cp [.int .i64 (at' a1 x0)] 0)), (126, nI x0), (125, lI a1), (124, nI (IntKind.i64.wrap ((at' r8.1 x0) + (at' r9.1 x0)))), (123, nI (at' r9.1 x0)), (122, .ep (.s 17648) 1 (0 + Int.toNat x0) none (some (.int .i64 (at' r9.1 x0)))), (121, nI x0), (120, sI (.s 17648) r9.1), (119, nI (at' r8.1 x0)), (118, .ep (.s 16048) 1 (0 + Int.toNat x0) none (some (.int .i64 (at' r8.1 x0)))), (117, nI x0), (116, sI (.s 16048) r8.1), (19, nI x0), (113, nI x0), (112, nI (a1.length : Int)), (17, sI (.s 17648) r9.1), (15, sI (.s 16048) r8.1), (8, nI (a1.length : Int)), (7, bB r1), (0, lI a0), (1, lI a1), (2, lI a2)], []⟩) decNe (fun _ => ?_) (fun _ => ?_)
    · refine Avk 23 [] .ret ⟨[(6, bB false)], []⟩ ?_
      exact L_retR
    · refine Ae 2 [.o true (o10_17.drop 17), .c c10_40, .b 1, .c c10_44, .l c10_47] ⟨[(132, nI x0), (130, bB false), (131, sI (.s 16048) r8.1), (129, bB ((IntKind.i64.wrap ((at' r8.1 x0) + (at' r9.1 x0))) != (at' a1 x0))), (128, nI (at' a1 x0)), (127, .d (.cp [.int .i64 (at' a1 x0)] 0)), (126, nI x0), (125, lI a1), (124, nI (IntKind.i64.wrap ((at' r8.1 x0) + (at' r9.1 x0)))), (123, nI (at' r9.1 x0)), (122, .ep (.s 17648) 1 (0 + Int.toNat x0) none (some (.int .i64 (at' r9.1 x0)))), (121, nI x0), (120, sI (.s 17648) r9.1), (119, nI (at' r8.1 x0)), (118, .ep (.s 16048) 1 (0 + Int.toNat x0) none (some (.int .i64 (at' r8.1 x0)))), (117, nI x0), (116, sI (.s 16048) r8.1), (19, nI x0), (113, nI x0), (112, nI (a1.length : Int)), (17, sI (.s 17648) r9.1), (15, sI (.s 16048) r8.1), (8, nI (a1.length : Int)), (7, bB r1), (0, lI a0), (1, lI a1), (2, lI a2)], []⟩ ?_
      refine L_idxO (enc := D.int .i64) (l := r8.1) (iv := x0) rfl rfl rfl (fun _ => ?_)
      refine Ae 3 [.o true (o10_17.drop 21), .c c10_40, .b 1, .c c10_44, .l c10_47] ⟨[(136, bB ((at' r8.1 x0) != 0)), (130, bB false), (135, bB ((at' r8.1 x0) != 0)), (134, nI (at' r8.1 x0)), (133, .ep (.s 16048) 1 (0 + Int.toNat x0) none (some (.int .i64 (at' r8.1 x0)))), (132, nI x0), (131, sI (.s 16048) r8.1), (129, bB ((IntKind.i64.wrap ((at' r8.1 x0) + (at' r9.1 x0))) != (at' a1 x0))), (128, nI (at' a1 x0)), (127, .d (.cp [.int .i64 (at' a1 x0)] 0)), (126, nI x0), (125, lI a1), (124, nI (IntKind.i64.wrap ((at' r8.1 x0) + (at' r9.1 x0)))), (123, nI (at' r9.1 x0)), (122, .ep (.s 17648) 1 (0 + Int.toNat x0) none (some (.int .i64 (at' r9.1 x0)))), (121, nI x0), (120, sI (.s 17648) r9.1), (119, nI (at' r8.1 x0)), (118, .ep (.s 16048) 1 (0 + Int.toNat x0) none (some (.int .i64 (at' r8.1 x0)))), (117, nI x0), (116, sI (.s 16048) r8.1), (19, nI x0), (113, nI x0), (112, nI (a1.length : Int)), (17, sI (.s 17648) r9.1), (15, sI (.s 16048) r8.1), (8, nI (a1.length : Int)), (7, bB r1), (0, lI a0), (1, lI a1), (2, lI a2)], []⟩ ?_
      refine L_splitE (b := (at' r8.1 x0) != 0) (fun z => ⟨[(136, bB z), (130, bB false), (135, bB ((at' r8.1 x0) != 0)), (134, nI (at' r8.1 x0)), (133, .ep (.s 16048) 1 (0 + Int.toNat x0) none (some (.int .i64 (at' r8.1 x0)))), (132, nI x0), (131, sI (.s 16048) r8.1), (129, bB ((IntKind.i64.wrap ((at' r8.1 x0) + (at' r9.1 x0))) != (at' a1 x0))), (128, nI (at' a1 x0)), (127, .d (.cp [.int .i64 (at' a1 x0)] 0)), (126, nI x0), (125, lI a1), (124, nI (IntKind.i64.wrap ((at' r8.1 x0) + (at' r9.1 x0)))), (123, nI (at' r9.1 x0)), (122, .ep (.s 17648) 1 (0 + Int.toNat x0) none (some (.int .i64 (at' r9.1 x0)))), (121, nI x0), (120, sI (.s 17648) r9.1), (119, nI (at' r8.1 x0)), (118, .ep (.s 16048) 1 (0 + Int.toNat x0) none (some (.int .i64 (at' r8.1 x0)))), (117, nI x0), (116, sI (.s 16048) r8.1), (19, nI x0), (113, nI x0), (112, nI (a1.length : Int)), (17, sI (.s 17648) r9.1), (15, sI (.s 16048) r8.1), (8, nI (a1.length : Int)), (7, bB r1), (0, lI a0), (1, lI a1), (2, lI a2)], []⟩) decNe (fun _ => ?_) (fun _ => ?_)
      · refine Ae 2 [.o true (o10_17.drop 23), .c c10_40, .b 1, .c c10_44, .l c10_47] ⟨[(138, nI x0), (136, bB true), (137, sI (.s 17648) r9.1), (130, bB false), (135, bB ((at' r8.1 x0) != 0)), (134, nI (at' r8.1 x0)), (133, .ep (.s 16048) 1 (0 + Int.toNat x0) none (some (.int .i64 (at' r8.1 x0)))), (132, nI x0), (131, sI (.s 16048) r8.1), (129, bB ((IntKind.i64.wrap ((at' r8.1 x0) + (at' r9.1 x0))) != (at' a1 x0))), (128, nI (at' a1 x0)), (127, .d (.cp [.int .i64 (at' a1 x0)] 0)), (126, nI x0), (125, lI a1), (124, nI (IntKind.i64.wrap ((at' r8.1 x0) + (at' r9.1 x0)))), (123, nI (at' r9.1 x0)), (122, .ep (.s 17648) 1 (0 + Int.toNat x0) none (some (.int .i64 (at' r9.1 x0)))), (121, nI x0), (120, sI (.s 17648) r9.1), (119, nI (at' r8.1 x0)), (118, .ep (.s 16048) 1 (0 + Int.toNat x0) none (some (.int .i64 (at' r8.1 x0)))), (117, nI x0), (116, sI (.s 16048) r8.1), (19, nI x0), (113, nI x0), (112, nI (a1.length : Int)), (17, sI (.s 17648) r9.1), (15, sI (.s 16048) r8.1), (8, nI (a1.length : Int)), (7, bB r1), (0, lI a0), (1, lI a1), (2, lI a2)], []⟩ ?_
        refine L_idxO (enc := D.int .i64) (l := r9.1) (iv := x0) rfl rfl rfl (fun _ => ?_)
        refine Av 5 [.c c10_40, .b 1, .c c10_44, .l c10_47] ⟨[(143, bB ((at' r9.1 x0) != 0)), (113, nI x0), (112, nI (a1.length : Int)), (17, sI (.s 17648) r9.1), (15, sI (.s 16048) r8.1), (8, nI (a1.length : Int)), (7, bB r1), (0, lI a0), (1, lI a1), (2, lI a2)], []⟩ ?_
        refine L_split 143 decNe (fun _ => ?_) (fun _ => ?_)
        · refine Avk 9 [] .ret ⟨[(6, bB false)], []⟩ ?_
          exact L_retR
        · refine Av 7 [.l c10_47] ⟨[(113, nI (IntKind.i64.wrap (x0 + 1))), (112, nI (a1.length : Int)), (17, sI (.s 17648) r9.1), (15, sI (.s 16048) r8.1), (8, nI (a1.length : Int)), (7, bB r1), (0, lI a0), (1, lI a1), (2, lI a2)], []⟩ ?_
          exact L_again (IH (IntKind.i64.wrap (x0 + 1)))
      · refine Av 15 [.l c10_47] ⟨[(113, nI (IntKind.i64.wrap (x0 + 1))), (112, nI (a1.length : Int)), (17, sI (.s 17648) r9.1), (15, sI (.s 16048) r8.1), (8, nI (a1.length : Int)), (7, bB r1), (0, lI a0), (1, lI a1), (2, lI a2)], []⟩ ?_
        exact L_again (IH (IntKind.i64.wrap (x0 + 1)))
  · refine Avk 4 [] (.exit 0) ⟨[(8, nI (a1.length : Int)), (7, bB r1), (0, lI a0), (2, lI a2)], []⟩ ?_
    exact L_endR
theorem ok_thrumlaw06_IndexSpreads (a0 : List Int) (a1 : List Int) (a2 : List Int) : ∀ v, M_thrumlaw06_IndexSpreads a0 a1 a2 = some v → EvF Try.prog 10 [.lst (List.map (D.int .i64) a0), .lst (List.map (D.int .i64) a1), .lst (List.map (D.int .i64) a2)] (en_thrumlaw06_IndexSpreads v) := by
  intro v hv
  refine EvF_go fn10 (Nat.le_of_ble_eq_true rfl) ?_
  suffices h : Ok (M_thrumlaw06_IndexSpreads a0 a1 a2) fun v => go Try.prog 184 (Fnl [.t 6] (en_thrumlaw06_IndexSpreads v) []) [.c c10_77] .norm (initSt (List.map PV.d [.lst (List.map (D.int .i64) a0), .lst (List.map (D.int .i64) a1), .lst (List.map (D.int .i64) a2)]) []) from h v hv
  unfold M_thrumlaw06_IndexSpreads
  refine Av 6 [.o false o10_1, .c c10_75] ⟨[(0, lI a0), (1, lI a1), (2, lI a2)], []⟩ ?_
  refine L_call (ok_thrumlaw06_live) trivial rfl (fun _ => rfl) (fun _ => trivial) (fun r1 => ?_)
  refine Av 8 [.c c10_7, .c c10_74] ⟨[(26, bB (!r1)), (7, bB r1), (0, lI a0), (1, lI a1), (2, lI a2)], []⟩ ?_
  refine L_split 26 decF (fun _ => ?_) (fun _ => ?_)
  · refine Avk 7 [] .ret ⟨[(6, bB false)], []⟩ ?_
    exact L_ret
  · refine Av 5 [.o false (o10_4.drop 1), .c c10_73] ⟨[(27, lI a1), (7, bB r1), (0, lI a0), (1, lI a1), (2, lI a2)], []⟩ ?_
    refine L_len (enc := D.int .i64) (l := a1) trivial rfl ?_
    refine Av 7 [.o false (o10_5.drop 2), .c c10_15, .c c10_72] ⟨[(30, .sl (.s 8031) 1 0 (List.map (enL (D.int .i64)) [a0])), (8, nI (a1.length : Int)), (7, bB r1), (0, lI a0), (1, lI a1), (2, lI a2)], []⟩ ?_
    refine L_call (ok_thrumlaw06_few [a0]) trivial rfl (fun _ => rfl) (fun _ => trivial) (fun r2 => ?_)
    refine Av 2 [.o false (o10_5.drop 5), .c c10_15, .c c10_72] ⟨[(33, bB (!r2)), (8, nI (a1.length : Int)), (7, bB r1), (0, lI a0), (1, lI a1), (2, lI a2)], []⟩ ?_
    refine L_take 5 o10_5t5_10 (o10_5.drop 10) ?_
    refine L_join [.o false o10_5t5_10] [.o false (o10_5.drop 10), .c c10_15, .c c10_72] (fun x : Bool => ⟨[(38, bB x), (8, nI (a1.length : Int)), (7, bB r1), (0, lI a0), (1, lI a1), (2, lI a2)], []⟩) ?_ (fun j4 => ?_)
    · refine L_split 33 decF (fun _ => ?_) (fun _ => ?_)
      · refine Av 6 [] ⟨[(38, bB true), (8, nI (a1.length : Int)), (7, bB r1), (0, lI a0), (1, lI a1), (2, lI a2)], []⟩ ?_
        exact L_end
      · refine Av 2 [.o false (o10_5t5_10.drop 2)] ⟨[(35, lI a0), (33, bB false), (34, nI (a1.length : Int)), (8, nI (a1.length : Int)), (7, bB r1), (0, lI a0), (1, lI a1), (2, lI a2)], []⟩ ?_
        refine L_call (ok_index_Check (a1.length : Int) a0) rfl rfl (fun _ => rfl) (fun _ => trivial) (fun r3 => ?_)
        refine Av 3 [] ⟨[(38, bB (r3 != 0)), (8, nI (a1.length : Int)), (7, bB r1), (0, lI a0), (1, lI a1), (2, lI a2)], []⟩ ?_
        exact L_end
    · refine Av 1 [.c c10_15, .c c10_72] ⟨[(38, bB j4), (8, nI (a1.length : Int)), (7, bB r1), (0, lI a0), (1, lI a1), (2, lI a2)], []⟩ ?_
      refine L_split 38 decT (fun _ => ?_) (fun _ => ?_)
      · refine Avk 8 [] .ret ⟨[(6, bB r1)], []⟩ ?_
        exact L_ret
      · refine Av 6 [.o false (o10_7.drop 2), .c c10_71] ⟨[(42, lI a1), (41, lI a0), (8, nI (a1.length : Int)), (7, bB r1), (0, lI a0), (1, lI a1), (2, lI a2)], []⟩ ?_
        refine L_call (ok_index_Gather a0 a1) trivial rfl (fun _ => rfl) (fun _ => ⟨(flat_map_of fun _ => trivial), trivial, trivial⟩) (fun r5 => ?_)
        refine Av 10 [.o false (o10_8.drop 2), .c c10_70] ⟨[(48, lI a0), (47, nI (a1.length : Int)), (10, nI r5.2), (9, sI (.s 11232) r5.1), (8, nI (a1.length : Int)), (7, bB r1), (0, lI a0), (1, lI a1), (2, lI a2)], []⟩ ?_
        refine L_call (ok_index_Left (a1.length : Int) a0) trivial rfl (fun _ => rfl) (fun _ => ⟨(flat_map_of fun _ => trivial), trivial, trivial⟩) (fun r6 => ?_)
        refine Av 10 [.o false (o10_9.drop 2), .c c10_69] ⟨[(54, lI a1), (53, sI (.s 12832) r6.1), (12, nI r6.2), (11, sI (.s 12832) r6.1), (10, nI r5.2), (9, sI (.s 11232) r5.1), (8, nI (a1.length : Int)), (7, bB r1), (0, lI a0), (1, lI a1), (2, lI a2)], []⟩ ?_
        refine L_call (ok_index_Gather r6.1 a1) trivial rfl (fun _ => rfl) (fun _ => ⟨(flat_map_of fun _ => trivial), trivial, trivial⟩) (fun r7 => ?_)
        refine Av 11 [.o false (o10_10.drop 3), .c c10_68] ⟨[(61, sI (.s 11232) r5.1), (60, lI a0), (59, nI (a1.length : Int)), (14, nI r7.2), (13, sI (.s 14432) r7.1), (12, nI r6.2), (11, sI (.s 12832) r6.1), (10, nI r5.2), (8, nI (a1.length : Int)), (7, bB r1), (0, lI a0), (1, lI a1), (2, lI a2)], []⟩ ?_
        refine L_call (ok_index_Spread (a1.length : Int) a0 r5.1) trivial rfl (fun _ => rfl) (fun _ => ⟨(flat_map_of fun _ => trivial), trivial, trivial⟩) (fun r8 => ?_)
        refine Av 11 [.o false (o10_11.drop 3), .c c10_67] ⟨[(68, sI (.s 14432) r7.1), (67, sI (.s 12832) r6.1), (66, nI (a1.length : Int)), (16, nI r8.2), (15, sI (.s 16048) r8.1), (14, nI r7.2), (12, nI r6.2), (11, sI (.s 12832) r6.1), (10, nI r5.2), (8, nI (a1.length : Int)), (7, bB r1), (0, lI a0), (1, lI a1), (2, lI a2)], []⟩ ?_
        refine L_call (ok_index_Spread (a1.length : Int) r6.1 r7.1) trivial rfl (fun _ => rfl) (fun _ => ⟨(flat_map_of fun _ => trivial), trivial, trivial⟩) (fun r9 => ?_)
        refine Av 12 [.o false (o10_12.drop 3), .c c10_27, .c c10_66] ⟨[(74, bB (r5.2 != 0)), (18, nI r9.2), (17, sI (.s 17648) r9.1), (16, nI r8.2), (15, sI (.s 16048) r8.1), (14, nI r7.2), (12, nI r6.2), (11, sI (.s 12832) r6.1), (8, nI (a1.length : Int)), (7, bB r1), (0, lI a0), (1, lI a1), (2, lI a2)], []⟩ ?_
        refine L_take 3 o10_12t3_6 (o10_12.drop 6) ?_
        refine L_join [.o false o10_12t3_6] [.o false (o10_12.drop 6), .c c10_27, .c c10_66] (fun x : Bool => ⟨[(77, bB x), (18, nI r9.2), (17, sI (.s 17648) r9.1), (16, nI r8.2), (15, sI (.s 16048) r8.1), (14, nI r7.2), (11, sI (.s 12832) r6.1), (8, nI (a1.length : Int)), (7, bB r1), (0, lI a0), (1, lI a1), (2, lI a2)], []⟩) ?_ (fun j10 => ?_)
        · refine L_split 74 decNe (fun _ => ?_) (fun _ => ?_)
          · refine Av 4 [] ⟨[(77, bB true), (18, nI r9.2), (17, sI (.s 17648) r9.1), (16, nI r8.2), (15, sI (.s 16048) r8.1), (14, nI r7.2), (11, sI (.s 12832) r6.1), (8, nI (a1.length : Int)), (7, bB r1), (0, lI a0), (1, lI a1), (2, lI a2)], []⟩ ?_
            exact L_end
          · refine Av 4 [] ⟨[(77, bB (r6.2 != 0)), (18, nI r9.2), (17, sI (.s 17648) r9.1), (16, nI r8.2), (15, sI (.s 16048) r8.1), (14, nI r7.2), (11, sI (.s 12832) r6.1), (8, nI (a1.length : Int)), (7, bB r1), (0, lI a0), (1, lI a1), (2, lI a2)], []⟩ ?_
            exact L_end
        · refine Av 1 [.o false (o10_12.drop 7), .c c10_27, .c c10_66] ⟨[(78, bB j10), (18, nI r9.2), (17, sI (.s 17648) r9.1), (16, nI r8.2), (15, sI (.s 16048) r8.1), (14, nI r7.2), (11, sI (.s 12832) r6.1), (8, nI (a1.length : Int)), (7, bB r1), (0, lI a0), (1, lI a1), (2, lI a2)], []⟩ ?_
          refine L_take 3 o10_12t7_10 (o10_12.drop 10) ?_
          refine L_join [.o false o10_12t7_10] [.o false (o10_12.drop 10), .c c10_27, .c c10_66] (fun x : Bool => ⟨[(81, bB x), (18, nI r9.2), (17, sI (.s 17648) r9.1), (16, nI r8.2), (15, sI (.s 16048) r8.1), (11, sI (.s 12832) r6.1), (8, nI (a1.length : Int)), (7, bB r1), (0, lI a0), (1, lI a1), (2, lI a2)], []⟩) ?_ (fun j11 => ?_)
          · refine L_split 78 decT (fun _ => ?_) (fun _ => ?_)
            · refine Av 4 [] ⟨[(81, bB true), (18, nI r9.2), (17, sI (.s 17648) r9.1), (16, nI r8.2), (15, sI (.s 16048) r8.1), (11, sI (.s 12832) r6.1), (8, nI (a1.length : Int)), (7, bB r1), (0, lI a0), (1, lI a1), (2, lI a2)], []⟩ ?_
              exact L_end
            · refine Av 4 [] ⟨[(81, bB (r7.2 != 0)), (18, nI r9.2), (17, sI (.s 17648) r9.1), (16, nI r8.2), (15, sI (.s 16048) r8.1), (11, sI (.s 12832) r6.1), (8, nI (a1.length : Int)), (7, bB r1), (0, lI a0), (1, lI a1), (2, lI a2)], []⟩ ?_
              exact L_end
          · refine Av 1 [.o false (o10_12.drop 11), .c c10_27, .c c10_66] ⟨[(82, bB j11), (18, nI r9.2), (17, sI (.s 17648) r9.1), (16, nI r8.2), (15, sI (.s 16048) r8.1), (11, sI (.s 12832) r6.1), (8, nI (a1.length : Int)), (7, bB r1), (0, lI a0), (1, lI a1), (2, lI a2)], []⟩ ?_
            refine L_take 3 o10_12t11_14 (o10_12.drop 14) ?_
            refine L_join [.o false o10_12t11_14] [.o false (o10_12.drop 14), .c c10_27, .c c10_66] (fun x : Bool => ⟨[(85, bB x), (18, nI r9.2), (17, sI (.s 17648) r9.1), (15, sI (.s 16048) r8.1), (11, sI (.s 12832) r6.1), (8, nI (a1.length : Int)), (7, bB r1), (0, lI a0), (1, lI a1), (2, lI a2)], []⟩) ?_ (fun j12 => ?_)
            · refine L_split 82 decT (fun _ => ?_) (fun _ => ?_)
              · refine Av 4 [] ⟨[(85, bB true), (18, nI r9.2), (17, sI (.s 17648) r9.1), (15, sI (.s 16048) r8.1), (11, sI (.s 12832) r6.1), (8, nI (a1.length : Int)), (7, bB r1), (0, lI a0), (1, lI a1), (2, lI a2)], []⟩ ?_
                exact L_end
              · refine Av 4 [] ⟨[(85, bB (r8.2 != 0)), (18, nI r9.2), (17, sI (.s 17648) r9.1), (15, sI (.s 16048) r8.1), (11, sI (.s 12832) r6.1), (8, nI (a1.length : Int)), (7, bB r1), (0, lI a0), (1, lI a1), (2, lI a2)], []⟩ ?_
                exact L_end
            · refine Av 1 [.o false (o10_12.drop 15), .c c10_27, .c c10_66] ⟨[(86, bB j12), (18, nI r9.2), (17, sI (.s 17648) r9.1), (15, sI (.s 16048) r8.1), (11, sI (.s 12832) r6.1), (8, nI (a1.length : Int)), (7, bB r1), (0, lI a0), (1, lI a1), (2, lI a2)], []⟩ ?_
              refine L_take 3 o10_12t15_18 (o10_12.drop 18) ?_
              refine L_join [.o false o10_12t15_18] [.o false (o10_12.drop 18), .c c10_27, .c c10_66] (fun x : Bool => ⟨[(89, bB x), (17, sI (.s 17648) r9.1), (15, sI (.s 16048) r8.1), (11, sI (.s 12832) r6.1), (8, nI (a1.length : Int)), (7, bB r1), (0, lI a0), (1, lI a1), (2, lI a2)], []⟩) ?_ (fun j13 => ?_)
              · refine L_split 86 decT (fun _ => ?_) (fun _ => ?_)
                · refine Av 4 [] ⟨[(89, bB true), (17, sI (.s 17648) r9.1), (15, sI (.s 16048) r8.1), (11, sI (.s 12832) r6.1), (8, nI (a1.length : Int)), (7, bB r1), (0, lI a0), (1, lI a1), (2, lI a2)], []⟩ ?_
                  exact L_end
                · refine Av 4 [] ⟨[(89, bB (r9.2 != 0)), (17, sI (.s 17648) r9.1), (15, sI (.s 16048) r8.1), (11, sI (.s 12832) r6.1), (8, nI (a1.length : Int)), (7, bB r1), (0, lI a0), (1, lI a1), (2, lI a2)], []⟩ ?_
                  exact L_end
              · refine Av 1 [.o false (o10_12.drop 19), .c c10_27, .c c10_66] ⟨[(90, bB j13), (17, sI (.s 17648) r9.1), (15, sI (.s 16048) r8.1), (11, sI (.s 12832) r6.1), (8, nI (a1.length : Int)), (7, bB r1), (0, lI a0), (1, lI a1), (2, lI a2)], []⟩ ?_
                refine L_take 8 o10_12t19_27 (o10_12.drop 27) ?_
                refine L_join [.o false o10_12t19_27] [.o false (o10_12.drop 27), .c c10_27, .c c10_66] (fun x : Bool => ⟨[(98, bB x), (17, sI (.s 17648) r9.1), (15, sI (.s 16048) r8.1), (8, nI (a1.length : Int)), (7, bB r1), (0, lI a0), (1, lI a1), (2, lI a2)], []⟩) ?_ (fun j14 => ?_)
                · refine L_split 90 decT (fun _ => ?_) (fun _ => ?_)
                  · refine Av 9 [] ⟨[(98, bB true), (17, sI (.s 17648) r9.1), (15, sI (.s 16048) r8.1), (8, nI (a1.length : Int)), (7, bB r1), (0, lI a0), (1, lI a1), (2, lI a2)], []⟩ ?_
                    exact L_end
                  · refine Av 1 [.o false (o10_12t19_27.drop 1)] ⟨[(91, lI a0), (90, bB false), (17, sI (.s 17648) r9.1), (15, sI (.s 16048) r8.1), (11, sI (.s 12832) r6.1), (8, nI (a1.length : Int)), (7, bB r1), (0, lI a0), (1, lI a1), (2, lI a2)], []⟩ ?_
                    refine L_len (enc := D.int .i64) (l := a0) rfl rfl ?_
                    refine Av 1 [.o false (o10_12t19_27.drop 3)] ⟨[(93, sI (.s 12832) r6.1), (90, bB false), (92, nI (a0.length : Int)), (17, sI (.s 17648) r9.1), (15, sI (.s 16048) r8.1), (8, nI (a1.length : Int)), (7, bB r1), (0, lI a0), (1, lI a1), (2, lI a2)], []⟩ ?_
                    refine L_len (enc := D.int .i64) (l := r6.1) rfl rfl ?_
                    refine Av 5 [] ⟨[(98, bB ((IntKind.i64.wrap ((a0.length : Int) + (r6.1.length : Int))) != (a1.length : Int))), (17, sI (.s 17648) r9.1), (15, sI (.s 16048) r8.1), (8, nI (a1.length : Int)), (7, bB r1), (0, lI a0), (1, lI a1), (2, lI a2)], []⟩ ?_
                    exact L_end
                · refine Av 1 [.o false (o10_12.drop 28), .c c10_27, .c c10_66] ⟨[(99, bB j14), (17, sI (.s 17648) r9.1), (15, sI (.s 16048) r8.1), (8, nI (a1.length : Int)), (7, bB r1), (0, lI a0), (1, lI a1), (2, lI a2)], []⟩ ?_
                  refine L_take 5 o10_12t28_33 (o10_12.drop 33) ?_
                  refine L_join [.o false o10_12t28_33] [.o false (o10_12.drop 33), .c c10_27, .c c10_66] (fun x : Bool => ⟨[(104, bB x), (17, sI (.s 17648) r9.1), (15, sI (.s 16048) r8.1), (8, nI (a1.length : Int)), (7, bB r1), (0, lI a0), (1, lI a1), (2, lI a2)], []⟩) ?_ (fun j15 => ?_)
                  · refine L_split 99 decT (fun _ => ?_) (fun _ => ?_)
                    · refine Av 6 [] ⟨[(104, bB true), (17, sI (.s 17648) r9.1), (15, sI (.s 16048) r8.1), (8, nI (a1.length : Int)), (7, bB r1), (0, lI a0), (1, lI a1), (2, lI a2)], []⟩ ?_
                      exact L_end
                    · refine Av 1 [.o false (o10_12t28_33.drop 1)] ⟨[(100, sI (.s 16048) r8.1), (99, bB false), (17, sI (.s 17648) r9.1), (15, sI (.s 16048) r8.1), (8, nI (a1.length : Int)), (7, bB r1), (0, lI a0), (1, lI a1), (2, lI a2)], []⟩ ?_
                      refine L_len (enc := D.int .i64) (l := r8.1) rfl rfl ?_
                      refine Av 4 [] ⟨[(104, bB ((r8.1.length : Int) != (a1.length : Int))), (17, sI (.s 17648) r9.1), (15, sI (.s 16048) r8.1), (8, nI (a1.length : Int)), (7, bB r1), (0, lI a0), (1, lI a1), (2, lI a2)], []⟩ ?_
                      exact L_end
                  · refine Av 1 [.o false (o10_12.drop 34), .c c10_27, .c c10_66] ⟨[(105, bB j15), (17, sI (.s 17648) r9.1), (15, sI (.s 16048) r8.1), (8, nI (a1.length : Int)), (7, bB r1), (0, lI a0), (1, lI a1), (2, lI a2)], []⟩ ?_
                    refine L_take 5 o10_12t34_39 (o10_12.drop 39) ?_
                    refine L_join [.o false o10_12t34_39] [.o false (o10_12.drop 39), .c c10_27, .c c10_66] (fun x : Bool => ⟨[(110, bB x), (17, sI (.s 17648) r9.1), (15, sI (.s 16048) r8.1), (8, nI (a1.length : Int)), (7, bB r1), (0, lI a0), (1, lI a1), (2, lI a2)], []⟩) ?_ (fun j16 => ?_)
                    · refine L_split 105 decT (fun _ => ?_) (fun _ => ?_)
                      · refine Av 6 [] ⟨[(110, bB true), (17, sI (.s 17648) r9.1), (15, sI (.s 16048) r8.1), (8, nI (a1.length : Int)), (7, bB r1), (0, lI a0), (1, lI a1), (2, lI a2)], []⟩ ?_
                        exact L_end
                      · refine Av 1 [.o false (o10_12t34_39.drop 1)] ⟨[(106, sI (.s 17648) r9.1), (105, bB false), (17, sI (.s 17648) r9.1), (15, sI (.s 16048) r8.1), (8, nI (a1.length : Int)), (7, bB r1), (0, lI a0), (1, lI a1), (2, lI a2)], []⟩ ?_
                        refine L_len (enc := D.int .i64) (l := r9.1) rfl rfl ?_
                        refine Av 4 [] ⟨[(110, bB ((r9.1.length : Int) != (a1.length : Int))), (17, sI (.s 17648) r9.1), (15, sI (.s 16048) r8.1), (8, nI (a1.length : Int)), (7, bB r1), (0, lI a0), (1, lI a1), (2, lI a2)], []⟩ ?_
                        exact L_end
                    · refine Av 1 [.c c10_27, .c c10_66] ⟨[(110, bB j16), (17, sI (.s 17648) r9.1), (15, sI (.s 16048) r8.1), (8, nI (a1.length : Int)), (7, bB r1), (0, lI a0), (1, lI a1), (2, lI a2)], []⟩ ?_
                      refine L_split 110 decT (fun _ => ?_) (fun _ => ?_)
                      · refine Avk 7 [] .ret ⟨[(6, bB false)], []⟩ ?_
                        exact L_ret
                      · refine Av 6 [.o false (o10_14.drop 1), .c c10_49, .c c10_65] ⟨[(111, lI a1), (17, sI (.s 17648) r9.1), (15, sI (.s 16048) r8.1), (8, nI (a1.length : Int)), (7, bB r1), (0, lI a0), (1, lI a1), (2, lI a2)], []⟩ ?_
                        refine L_len (enc := D.int .i64) (l := a1) trivial rfl ?_
                        refine Av 4 [.l c10_47, .b 0, .c c10_65] ⟨[(113, nI 0), (112, nI (a1.length : Int)), (17, sI (.s 17648) r9.1), (15, sI (.s 16048) r8.1), (8, nI (a1.length : Int)), (7, bB r1), (0, lI a0), (1, lI a1), (2, lI a2)], []⟩ ?_
                        refine L_pieceR (fs := [.l c10_47]) (ks := [.b 0, .c c10_65]) (ok_thrumlaw06_IndexSpreads_l0_ok a0 a1 a2 r1 r8 r9 0) L_thru (fun j17 => ?_)
                        refine Av 5 [.o false (o10_20.drop 1), .c c10_56, .c c10_64] ⟨[(145, lI a2), (8, nI (a1.length : Int)), (7, bB r1), (0, lI a0), (2, lI a2)], []⟩ ?_
                        refine L_len (enc := D.int .i64) (l := a2) trivial rfl ?_
                        refine Av 1 [.o false (o10_20.drop 3), .c c10_56, .c c10_64] ⟨[(147, lI a0), (146, nI (a2.length : Int)), (8, nI (a1.length : Int)), (7, bB r1), (0, lI a0), (2, lI a2)], []⟩ ?_
                        refine L_len (enc := D.int .i64) (l := a0) trivial rfl ?_
                        refine Av 2 [.c c10_56, .c c10_64] ⟨[(149, bB (decide ((a2.length : Int) < (a0.length : Int)))), (8, nI (a1.length : Int)), (7, bB r1), (0, lI a0), (2, lI a2)], []⟩ ?_
                        refine L_split 149 rfl (fun _ => ?_) (fun _ => ?_)
                        · refine Avk 8 [] .ret ⟨[(6, bB r1)], []⟩ ?_
                          exact L_ret
                        · refine Av 8 [.o false (o10_22.drop 4), .c c10_63] ⟨[(155, lI a0), (154, lI a2), (153, lI a0), (152, nI (a1.length : Int)), (7, bB r1), (0, lI a0), (2, lI a2)], []⟩ ?_
                          refine L_len (enc := D.int .i64) (l := a0) trivial rfl ?_
                          refine Av 0 [.o false (o10_22.drop 5), .c c10_63] ⟨[(156, nI (a0.length : Int)), (154, lI a2), (153, lI a0), (152, nI (a1.length : Int)), (7, bB r1), (0, lI a0), (2, lI a2)], []⟩ ?_
                          refine L_cutD (enc := D.int .i64) (l := a2) (a := none) (b := (some (a0.length : Int))) trivial rfl rfl rfl (fun _ => rfl) (fun _ => ?_)
                          refine Al 0 [.o false (o10_22.drop 6), .c c10_63] .norm (fun y18 : List Int => ⟨[(157, lI y18), (153, lI a0), (152, nI (a1.length : Int)), (7, bB r1), (0, lI a0), (2, lI a2)], []⟩) (fun y18 => ?_)
                          refine L_call (ok_index_Spread (a1.length : Int) a0 y18) trivial rfl (fun _ => rfl) (fun _ => ⟨(flat_map_of fun _ => trivial), trivial, trivial⟩) (fun r20 => ?_)
                          refine Av 10 [.o false (o10_23.drop 2), .c c10_62] ⟨[(163, sI (.s 35296) r20.1), (162, lI a0), (21, nI r20.2), (7, bB r1), (0, lI a0), (2, lI a2)], []⟩ ?_
                          refine L_call (ok_index_Gather a0 r20.1) trivial rfl (fun _ => rfl) (fun _ => ⟨(flat_map_of fun _ => trivial), trivial, trivial⟩) (fun r21 => ?_)
                          refine Av 10 [.o false (o10_24.drop 2), .c .ret] ⟨[(168, bB r1), (23, nI r21.2), (22, sI (.s 36832) r21.1), (21, nI r20.2), (0, lI a0), (2, lI a2)], []⟩ ?_
                          refine L_take 3 o10_24t2_5 (o10_24.drop 5) ?_
                          refine L_join [.o false o10_24t2_5] [.o false (o10_24.drop 5), .c .ret] (fun x : Bool => ⟨[(171, bB x), (23, nI r21.2), (22, sI (.s 36832) r21.1), (0, lI a0), (2, lI a2)], []⟩) ?_ (fun j22 => ?_)
                          · refine L_split 168 decT (fun _ => ?_) (fun _ => ?_)
                            · refine Av 4 [] ⟨[(171, bB (r20.2 == 0)), (23, nI r21.2), (22, sI (.s 36832) r21.1), (0, lI a0), (2, lI a2)], []⟩ ?_
                              exact L_end
                            · refine Av 4 [] ⟨[(171, bB false), (23, nI r21.2), (22, sI (.s 36832) r21.1), (0, lI a0), (2, lI a2)], []⟩ ?_
                              exact L_end
                          · refine Av 1 [.o false (o10_24.drop 6), .c .ret] ⟨[(172, bB j22), (23, nI r21.2), (22, sI (.s 36832) r21.1), (0, lI a0), (2, lI a2)], []⟩ ?_
                            refine L_take 3 o10_24t6_9 (o10_24.drop 9) ?_
                            refine L_join [.o false o10_24t6_9] [.o false (o10_24.drop 9), .c .ret] (fun x : Bool => ⟨[(175, bB x), (22, sI (.s 36832) r21.1), (0, lI a0), (2, lI a2)], []⟩) ?_ (fun j23 => ?_)
                            · refine L_split 172 decT (fun _ => ?_) (fun _ => ?_)
                              · refine Av 4 [] ⟨[(175, bB (r21.2 == 0)), (22, sI (.s 36832) r21.1), (0, lI a0), (2, lI a2)], []⟩ ?_
                                exact L_end
                              · refine Av 4 [] ⟨[(175, bB false), (22, sI (.s 36832) r21.1), (0, lI a0), (2, lI a2)], []⟩ ?_
                                exact L_end
                            · refine Av 1 [.o false (o10_24.drop 10), .c .ret] ⟨[(176, bB j23), (22, sI (.s 36832) r21.1), (0, lI a0), (2, lI a2)], []⟩ ?_
                              refine L_take 7 o10_24t10_17 (o10_24.drop 17) ?_
                              refine L_join [.o false o10_24t10_17] [.o false (o10_24.drop 17), .c .ret] (fun x : Bool => ⟨[(183, bB x)], []⟩) ?_ (fun j27 => ?_)
                              · refine L_split 176 decT (fun _ => ?_) (fun _ => ?_)
                                · refine Av 3 [.o false (o10_24t10_17.drop 3)] ⟨[(179, lI a0), (176, bB true), (178, lI a2), (177, sI (.s 36832) r21.1)], []⟩ ?_
                                  refine L_len (enc := D.int .i64) (l := a0) rfl rfl ?_
                                  refine Av 0 [.o false (o10_24t10_17.drop 4)] ⟨[(180, nI (a0.length : Int)), (176, bB true), (178, lI a2), (177, sI (.s 36832) r21.1)], []⟩ ?_
                                  refine L_cutD (enc := D.int .i64) (l := a2) (a := none) (b := (some (a0.length : Int))) rfl rfl rfl rfl (fun _ => rfl) (fun _ => ?_)
                                  refine Al 0 [.o false (o10_24t10_17.drop 5)] .norm (fun y24 : List Int => ⟨[(181, lI y24), (176, bB true), (177, sI (.s 36832) r21.1)], []⟩) (fun y24 => ?_)
                                  refine L_call (ok_thrumref02_Same r21.1 y24) rfl rfl (fun _ => rfl) (fun _ => trivial) (fun r26 => ?_)
                                  refine Av 2 [] ⟨[(183, bB r26)], []⟩ ?_
                                  exact L_end
                                · refine Av 8 [] ⟨[(183, bB false)], []⟩ ?_
                                  exact L_end
                              · refine Avk 3 [] .ret ⟨[(6, bB j27)], []⟩ ?_
                                exact L_ret
end Go.Proofs.Ytaghpancpfpnhaa.Abs
