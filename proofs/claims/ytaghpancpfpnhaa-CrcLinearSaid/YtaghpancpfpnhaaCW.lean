/- Walks of functions, printed by a program. Conditions: none. -/
import Derived.Test.YtaghpancpfpnhaaProg
import Derived.Test.YtaghpancpfpnhaaCM
namespace Go.Proofs.Ytaghpancpfpnhaa.Abs
open Go Go.RowKit
set_option linter.unusedVariables false
set_option maxRecDepth 100000
open Z
/-- slices.Clone[[]byte,byte]. -/
def en_slices_Clone_byte_byte (v : (List Int)) : PV := sY (.s 0) v
def o54_0 : List AOper := [⟨some 2, none, 0, .mov (.c .nils)⟩]
def o54_1 : List AOper := [mv 3 100 0, ⟨some 4, none, 101, .bin .eql .slice (.t 3) (.c .nils)⟩]
def o54_2 : List AOper := [⟨some 2, none, 200, .mov (.c .nils)⟩]
def o54_3 : List AOper := [⟨some 5, none, 300, .bslice 5 1 []⟩, mv 6 301 0, ⟨some 7, none, 302, .app 5 1 1 (.t 5) (.t 6)⟩, mv 2 303 7]
def c54_6 : AC := .cond (.t 4) (.seq (.reg o54_2) .ret) .skip
def c54_10 : AC := .seq (.reg o54_3) .ret
def c54_12 : AC := .seq (.reg o54_0) (.seq (.seq (.reg o54_1) c54_6) c54_10)
theorem fn54 : fnA Try.prog 54 = some (8, [.t 2], c54_12) := by kernel_rfl
theorem ok_slices_Clone_byte_byte (a0 : List Int) : ∀ v, M_slices_Clone_byte_byte a0 = some v → EvF Try.prog 54 [.lst (List.map (D.int .u8) a0)] (en_slices_Clone_byte_byte v) := by
  intro v hv
  refine EvF_go fn54 (Nat.le_of_ble_eq_true rfl) ?_
  suffices h : Ok (M_slices_Clone_byte_byte a0) fun v => go Try.prog 8 (Fnl [.t 2] (en_slices_Clone_byte_byte v) []) [.c c54_12] .norm (initSt (List.map PV.d [.lst (List.map (D.int .u8) a0)]) []) from h v hv
  unfold M_slices_Clone_byte_byte
  refine Av 8 [.o false (o54_1.drop 1), .c c54_6, .c c54_10] ⟨[(3, lY a0), (0, lY a0)], []⟩ ?_
  refine L_nil (enc := D.int .u8) (l := a0) (e := true) (m2 := some []) trivial rfl (fun h => by (try obtain rfl := List.eq_nil_of_length_eq_zero h); first | rfl | (simp [h]; done)) ?_ ?_
  · refine Av 7 [.o false (o54_3.drop 2), .c .ret] ⟨[(6, lY a0), (5, sY (.s 4815) [])], []⟩ ?_
    refine L_app (enc := D.int .u8) (l := []) (l2 := a0) trivial rfl rfl (fun _ => rfl) (fun _ => ?_)
    refine Avk 3 [] .ret ⟨[(2, sY (.s 4847) ([] ++ a0))], []⟩ ?_
    exact L_ret
  · refine Avk 8 [] .ret ⟨[(2, .nils)], []⟩ ?_
    exact L_ret
/-- thrum/crc.Sum. -/
def en_crc_Sum (v : Int) : PV := nW v
def o25_0 : List AOper := [⟨some 2, none, 0, .mov (.c (.d (.int .u32 0)))⟩]
def o25_1 : List AOper := [mv 3 100 0, cl' 4 101 29 [.c (.d (.int .u32 0)), .t 3], mv 2 102 4]
def c25_4 : AC := .seq (.reg o25_0) (.seq (.reg o25_1) .ret)
theorem fn25 : fnA Try.prog 25 = some (5, [.t 2], c25_4) := by kernel_rfl
theorem ok_crc_Sum (a0 : List Int) : ∀ v, M_crc_Sum a0 = some v → EvF Try.prog 25 [.lst (List.map (D.int .u8) a0)] (en_crc_Sum v) := by
  intro v hv
  refine EvF_go fn25 (Nat.le_of_ble_eq_true rfl) ?_
  suffices h : Ok (M_crc_Sum a0) fun v => go Try.prog 5 (Fnl [.t 2] (en_crc_Sum v) []) [.c c25_4] .norm (initSt (List.map PV.d [.lst (List.map (D.int .u8) a0)]) []) from h v hv
  unfold M_crc_Sum
  refine Av 7 [.o false (o25_1.drop 1), .c .ret] ⟨[(3, lY a0)], []⟩ ?_
  refine L_call (ok_crc_More 0 a0) trivial rfl (fun _ => rfl) (fun _ => trivial) (fun r1 => ?_)
  refine Avk 3 [] .ret ⟨[(2, nW r1)], []⟩ ?_
  exact L_ret
/-- thrum/crc.Seal. -/
def en_crc_Seal (v : (List Int) × Int) : PV := .tup [sY (.s 0) v.1, nI v.2]
def o31_0 : List AOper := [⟨some 2, none, 0, .mov (.c .nils)⟩, mi 3 1 0]
def o31_1 : List AOper := [mv 7 100 0, ln 8 101 7, bc 9 102 .gtr 8 65532]
def o31_2 : List AOper := [⟨some 2, none, 200, .mov (.c .nils)⟩, mi 3 201 3]
def o31_3 : List AOper := [mv 10 300 0, cl' 11 301 54 [.t 10], mv 4 302 11]
def o31_4 : List AOper := [mv 12 400 0, cl' 13 401 25 [.t 12], mv 5 402 13, mi 6 403 0]
def o31_5 : List AOper := [mv 14 500 6, bc 15 501 .lss 14 4]
def o31_6 : List AOper := [mv 20 700 4, mv 21 701 5, ⟨some 22, none, 702, .convI .u8 (.t 21)⟩, ⟨some 23, none, 703, .bslice 5 1 [.t 22]⟩, ⟨some 24, none, 704, .app 5 1 1 (.t 20) (.t 23)⟩, mv 4 705 24]
def o31_7 : List AOper := [mv 16 600 5, ⟨some 17, none, 601, .bin .shr .int (.t 16) (.c (.d (.int .u64 8)))⟩, mv 18 602 6, bc 19 603 .add 18 1, mv 5 604 17, mv 6 605 19]
def o31_8 : List AOper := [mv 25 800 4, mv 2 801 25, mi 3 802 0]
def c31_6 : AC := .cond (.t 9) (.seq (.reg o31_2) .ret) .skip
def c31_13 : AC := .cond (.t 15) .skip (.exit 0)
def c31_17 : AC := .reg o31_7
def c31_18 : AC := .seq (.block 1 (.reg o31_6)) c31_17
def c31_19 : AC := .seq (.seq (.reg o31_5) c31_13) c31_18
def c31_21 : AC := .block 0 (.loop c31_19)
def c31_25 : AC := .seq (.reg o31_8) .ret
def c31_26 : AC := .seq (.seq (.reg o31_4) c31_21) c31_25
def c31_27 : AC := .seq (.reg o31_3) c31_26
def c31_29 : AC := .seq (.reg o31_0) (.seq (.seq (.reg o31_1) c31_6) c31_27)
theorem fn31 : fnA Try.prog 31 = some (26, [.t 2, .t 3], c31_29) := by kernel_rfl
def q_ok_crc_Seal_l0_ok (x0 : Int) (x1 : Int) (x2 : List Int) (v : (List Int)) : Prop := (fun v => go Try.prog 26 (PostN (.exit 0) (fun x : (List Int) => ⟨[(4, sY (.h 0) x)], []⟩) v) [.l c31_19] .norm ⟨[(6, nI x0), (5, nW x1), (4, sY (.h 0) x2)], []⟩) v
theorem ok_crc_Seal_l0_ok (x0 : Int) (x1 : Int) (x2 : List Int) : Ok (M_crc_Seal_l0 x0 x1 x2) (q_ok_crc_Seal_l0_ok x0 x1 x2) := by
  refine M_crc_Seal_l0.partial_correctness (q_ok_crc_Seal_l0_ok) ?_ x0 x1 x2
  clear x0 x1 x2
  intro f' IH x0 x1 x2
  refine okI ?_
  unfold q_ok_crc_Seal_l0_ok at *
  refine Av 1 [.c c31_19, .l c31_19] ⟨[(6, nI x0), (5, nW x1), (4, sY (.h 0) x2)], []⟩ ?_
  refine Av 6 [.c c31_13, .c c31_18, .l c31_19] ⟨[(15, bB (decide (x0 < 4))), (6, nI x0), (5, nW x1), (4, sY (.h 0) x2)], []⟩ ?_
  refine L_split 15 rfl (fun _ => ?_) (fun _ => ?_)
  · refine Av 9 [.o false (o31_6.drop 4), .b 1, .c c31_17, .l c31_19] ⟨[(23, sY (.s 11263) [IntKind.u8.wrap x1]), (20, sY (.h 0) x2), (6, nI x0), (5, nW x1)], []⟩ ?_
    refine L_app (enc := D.int .u8) (l := x2) (l2 := [IntKind.u8.wrap x1]) trivial rfl rfl (fun _ => rfl) (fun _ => ?_)
    refine Al 11 [.l c31_19] .norm (fun y3 : List Int => ⟨[(6, nI (IntKind.i64.wrap (x0 + 1))), (5, nW (sShr .u32 x1 8)), (4, sY (.s 11279) y3)], []⟩) (fun y3 => ?_)
    exact L_again (IH (IntKind.i64.wrap (x0 + 1)) (sShr .u32 x1 8) y3)
  · refine Avk 4 [] (.exit 0) ⟨[(4, sY (.h 0) x2)], []⟩ ?_
    exact L_end
theorem ok_crc_Seal (a0 : List Int) : ∀ v, M_crc_Seal a0 = some v → EvF Try.prog 31 [.lst (List.map (D.int .u8) a0)] (en_crc_Seal v) := by
  intro v hv
  refine EvF_go fn31 (Nat.le_of_ble_eq_true rfl) ?_
  suffices h : Ok (M_crc_Seal a0) fun v => go Try.prog 26 (Fnl [.t 2, .t 3] (en_crc_Seal v) []) [.c c31_29] .norm (initSt (List.map PV.d [.lst (List.map (D.int .u8) a0)]) []) from h v hv
  unfold M_crc_Seal
  refine Av 9 [.o false (o31_1.drop 1), .c c31_6, .c c31_27] ⟨[(7, lY a0), (0, lY a0)], []⟩ ?_
  refine L_len (enc := D.int .u8) (l := a0) trivial rfl ?_
  refine Av 2 [.c c31_6, .c c31_27] ⟨[(9, bB (decide ((a0.length : Int) > 65532))), (0, lY a0)], []⟩ ?_
  refine L_split 9 rfl (fun _ => ?_) (fun _ => ?_)
  · refine Avk 8 [] .ret ⟨[(3, nI 3), (2, .nils)], []⟩ ?_
    exact L_ret
  · refine Av 5 [.o false (o31_3.drop 1), .c c31_26] ⟨[(10, lY a0), (0, lY a0)], []⟩ ?_
    refine L_call (ok_slices_Clone_byte_byte a0) trivial rfl (fun _ => rfl) (fun _ => (flat_map_of fun _ => trivial)) (fun r1 => ?_)
    refine Av 6 [.o false (o31_4.drop 1), .c c31_21, .c c31_25] ⟨[(12, lY a0), (4, sY (.s 4816) r1)], []⟩ ?_
    refine L_call (ok_crc_Sum a0) trivial rfl (fun _ => rfl) (fun _ => trivial) (fun r2 => ?_)
    refine Av 5 [.l c31_19, .b 0, .c c31_25] ⟨[(6, nI 0), (5, nW r2), (4, sY (.s 4816) r1)], []⟩ ?_
    refine L_piece (fs := [.l c31_19]) (ks := [.b 0, .c c31_25]) (ok_crc_Seal_l0_ok 0 r2 r1) (fun j5 => ?_)
    refine Avk 8 [] .ret ⟨[(3, nI 0), (2, sY (.h 0) j5)], []⟩ ?_
    exact L_ret
/-- thrum/thrumlaw04.live. -/
def en_thrumlaw04_live (v : Bool) : PV := bB v
def o24_0 : List AOper := [mb 0 0 false]
def o24_1 : List AOper := [⟨some 4, none, 100, .bslice 5 1 [.c (.d (.int .u8 97))]⟩, ⟨some 5, none, 101, .mark (.t 4)⟩, cl' 6 102 31 [.t 5], mv 3 103 6, xt 7 104 3 0, xt 8 105 3 1, mv 1 106 7, mv 2 107 8]
def o24_2 : List AOper := [⟨some 9, none, 200, .bslice 5 1 [.c (.d (.int .u8 49)), .c (.d (.int .u8 50)), .c (.d (.int .u8 51)), .c (.d (.int .u8 52)), .c (.d (.int .u8 53)), .c (.d (.int .u8 54)), .c (.d (.int .u8 55)), .c (.d (.int .u8 56)), .c (.d (.int .u8 57))]⟩, ⟨some 10, none, 201, .mark (.t 9)⟩, cl' 11 202 25 [.t 10], ⟨some 12, none, 203, .bin .eql .int (.t 11) (.c (.d (.int .u32 3421780262)))⟩, mv 13 204 12, gv 14 13 true 205 1, ⟨some 15, some (13, true), 206, .len (.t 14)⟩, ⟨some 16, some (13, true), 207, .bin .eql .int (.t 15) (.c (.d (.int .i64 5)))⟩, pk 17 208 13 16 false, mv 18 209 17, gv 19 18 true 210 2, ⟨some 20, some (18, true), 211, .bin .eql .int (.t 19) (.c (.d (.int .i64 0)))⟩, pk 21 212 18 20 false, mv 0 213 21]
def o24_2t5_9 : List AOper := (o24_2.drop 5).take 4
def o24_2t10_13 : List AOper := (o24_2.drop 10).take 3
def c24_4 : AC := .seq (.reg o24_2) .ret
def c24_6 : AC := .seq (.reg o24_0) (.seq (.reg o24_1) c24_4)
theorem fn24 : fnA Try.prog 24 = some (22, [.t 0], c24_6) := by kernel_rfl
theorem ok_thrumlaw04_live : ∀ v, M_thrumlaw04_live = some v → EvF Try.prog 24 [] (en_thrumlaw04_live v) := by
  intro v hv
  refine EvF_go fn24 (Nat.le_of_ble_eq_true rfl) ?_
  suffices h : Ok (M_thrumlaw04_live) fun v => go Try.prog 22 (Fnl [.t 0] (en_thrumlaw04_live v) []) [.c c24_6] .norm (initSt (List.map PV.d []) []) from h v hv
  unfold M_thrumlaw04_live
  refine Av 8 [.o false (o24_1.drop 2), .c c24_4] ⟨[(5, sY (.s 1631) [97])], []⟩ ?_
  refine L_call (ok_crc_Seal [97]) trivial rfl (fun _ => rfl) (fun _ => ⟨(flat_map_of fun _ => trivial), trivial, trivial⟩) (fun r1 => ?_)
  refine Av 10 [.o false (o24_2.drop 2), .c .ret] ⟨[(10, sY (.s 3231) [49, 50, 51, 52, 53, 54, 55, 56, 57]), (2, nI r1.2), (1, sY (.s 1632) r1.1)], []⟩ ?_
  refine L_call (ok_crc_Sum [49, 50, 51, 52, 53, 54, 55, 56, 57]) trivial rfl (fun _ => rfl) (fun _ => trivial) (fun r2 => ?_)
  refine Av 2 [.o false (o24_2.drop 5), .c .ret] ⟨[(13, bB (r2 == 3421780262)), (2, nI r1.2), (1, sY (.s 1632) r1.1)], []⟩ ?_
  refine L_take 4 o24_2t5_9 (o24_2.drop 9) ?_
  refine L_join [.o false o24_2t5_9] [.o false (o24_2.drop 9), .c .ret] (fun x : Bool => ⟨[(17, bB x), (2, nI r1.2)], []⟩) ?_ (fun j3 => ?_)
  · refine L_split 13 decE (fun _ => ?_) (fun _ => ?_)
    · refine Av 1 [.o false (o24_2t5_9.drop 1)] ⟨[(14, sY (.s 1632) r1.1), (13, bB true), (2, nI r1.2)], []⟩ ?_
      refine L_len (enc := D.int .u8) (l := r1.1) rfl rfl ?_
      refine Av 3 [] ⟨[(17, bB ((r1.1.length : Int) == 5)), (2, nI r1.2)], []⟩ ?_
      exact L_end
    · refine Av 5 [] ⟨[(17, bB false), (2, nI r1.2)], []⟩ ?_
      exact L_end
  · refine Av 1 [.o false (o24_2.drop 10), .c .ret] ⟨[(18, bB j3), (2, nI r1.2)], []⟩ ?_
    refine L_take 3 o24_2t10_13 (o24_2.drop 13) ?_
    refine L_join [.o false o24_2t10_13] [.o false (o24_2.drop 13), .c .ret] (fun x : Bool => ⟨[(21, bB x)], []⟩) ?_ (fun j4 => ?_)
    · refine L_split 18 decT (fun _ => ?_) (fun _ => ?_)
      · refine Av 4 [] ⟨[(21, bB (r1.2 == 0))], []⟩ ?_
        exact L_end
      · refine Av 4 [] ⟨[(21, bB false)], []⟩ ?_
        exact L_end
    · refine Avk 3 [] .ret ⟨[(0, bB j4)], []⟩ ?_
      exact L_ret
/-- thrum/thrumlaw04.CrcLinear. -/
def en_thrumlaw04_CrcLinear (v : Bool) : PV := bB v
def o5_0 : List AOper := [mb 6 0 false]
def o5_1 : List AOper := [cl' 11 100 24 [], mv 7 101 11]
def o5_2 : List AOper := [mv 12 200 7, ⟨some 13, none, 201, .un .not (.t 12)⟩]
def o5_3 : List AOper := [mb 6 300 false]
def o5_4 : List AOper := [mv 14 400 0, ln 15 401 14, mv 16 402 1, ln 17 403 16, mv 18 404 2, ln 19 405 18, ⟨some 20, none, 406, .mn3 (.t 15) (.t 17) (.t 19)⟩, mv 8 407 20]
def o5_5 : List AOper := [mv 21 500 8, bc 22 501 .gtr 21 3000]
def o5_6 : List AOper := [mv 23 600 7, mv 6 601 23]
def o5_7 : List AOper := [mv 24 700 8, ⟨some 25, none, 701, .mkS 5 1 1 (.int .u8 0) (.t 24) (.t 24)⟩, mv 9 702 25]
def o5_8 : List AOper := [mv 26 800 9, ln 27 801 26, mi 28 802 0]
def o5_9 : List AOper := [bi 29 900 .lss 28 27]
def o5_10 : List AOper := [mv 30 1000 28, mv 10 1001 30]
def o5_11 : List AOper := [mv 31 1100 9, mv 32 1101 10, mv 33 1102 0, mv 34 1103 10, ⟨some 35, none, 1104, .idxA 1 (.t 33) (.t 34)⟩, ld 36 1105 35, mv 37 1106 1, mv 38 1107 10, ⟨some 39, none, 1108, .idxA 1 (.t 37) (.t 38)⟩, ld 40 1109 39, bi 41 1110 .xor 36 40, mv 42 1111 2, mv 43 1112 10, ⟨some 44, none, 1113, .idxA 1 (.t 42) (.t 43)⟩, ld 45 1114 44, bi 46 1115 .xor 41 45, ⟨some 47, none, 1116, .idxA 1 (.t 31) (.t 32)⟩, ⟨none, none, 1117, .store 1 (.t 47) (.t 46)⟩]
def o5_12 : List AOper := [bc 48 1200 .add 28 1, mv 28 1201 48]
def o5_13 : List AOper := [mv 49 1300 7, mv 50 1301 49, gv 51 50 true 1302 9, gv 53 50 true 1304 0, gv 54 50 true 1305 8, ⟨some 55, some (50, true), 1306, .sliceS 1 (.t 53) none (some (.t 54)) none⟩, gv 57 50 true 1308 1, gv 58 50 true 1309 8, ⟨some 59, some (50, true), 1310, .sliceS 1 (.t 57) none (some (.t 58)) none⟩, gv 62 50 true 1313 2, gv 63 50 true 1314 8, ⟨some 64, some (50, true), 1315, .sliceS 1 (.t 62) none (some (.t 63)) none⟩, ⟨some 52, some (50, true), 1303, .call 25 [.t 51]⟩, ⟨some 56, some (50, true), 1307, .call 25 [.t 55]⟩, ⟨some 60, some (50, true), 1311, .call 25 [.t 59]⟩, ⟨some 61, some (50, true), 1312, .bin .xor .int (.t 56) (.t 60)⟩, ⟨some 65, some (50, true), 1316, .call 25 [.t 64]⟩, ⟨some 66, some (50, true), 1317, .bin .xor .int (.t 61) (.t 65)⟩, ⟨some 67, some (50, true), 1318, .bin .eql .int (.t 52) (.t 66)⟩, pk 68 1319 50 67 false, mv 6 1320 68]
def o5_13g0 : List AOper := [mv 49 1300 7, mv 50 1301 49, gv 51 50 true 1302 9, gv 53 50 true 1304 0, gv 54 50 true 1305 8, ⟨some 55, some (50, true), 1306, .sliceS 1 (.t 53) none (some (.t 54)) none⟩, gv 57 50 true 1308 1, gv 58 50 true 1309 8, ⟨some 59, some (50, true), 1310, .sliceS 1 (.t 57) none (some (.t 58)) none⟩, gv 62 50 true 1313 2, gv 63 50 true 1314 8, ⟨some 64, some (50, true), 1315, .sliceS 1 (.t 62) none (some (.t 63)) none⟩, ⟨some 52, some (50, true), 1303, .call 25 [.t 51]⟩]
def h5_13g0 : List AOper := [gv 53 50 true 1304 0, gv 54 50 true 1305 8, ⟨some 55, some (50, true), 1306, .sliceS 1 (.t 53) none (some (.t 54)) none⟩, gv 57 50 true 1308 1, gv 58 50 true 1309 8, ⟨some 59, some (50, true), 1310, .sliceS 1 (.t 57) none (some (.t 58)) none⟩, gv 62 50 true 1313 2, gv 63 50 true 1314 8, ⟨some 64, some (50, true), 1315, .sliceS 1 (.t 62) none (some (.t 63)) none⟩]
def o5_13g1 : List AOper := [⟨some 56, some (50, true), 1307, .call 25 [.t 55]⟩]
def h5_13g1 : List AOper := [gv 57 50 true 1308 1, gv 58 50 true 1309 8, ⟨some 59, some (50, true), 1310, .sliceS 1 (.t 57) none (some (.t 58)) none⟩, gv 62 50 true 1313 2, gv 63 50 true 1314 8, ⟨some 64, some (50, true), 1315, .sliceS 1 (.t 62) none (some (.t 63)) none⟩]
def o5_13g2 : List AOper := [⟨some 60, some (50, true), 1311, .call 25 [.t 59]⟩]
def h5_13g2 : List AOper := [gv 62 50 true 1313 2, gv 63 50 true 1314 8, ⟨some 64, some (50, true), 1315, .sliceS 1 (.t 62) none (some (.t 63)) none⟩]
def o5_13g3 : List AOper := [⟨some 61, some (50, true), 1312, .bin .xor .int (.t 56) (.t 60)⟩, ⟨some 65, some (50, true), 1316, .call 25 [.t 64]⟩]
def h5_13g3 : List AOper := [⟨some 61, some (50, true), 1312, .bin .xor .int (.t 56) (.t 60)⟩]
def o5_13g4 : List AOper := [⟨some 66, some (50, true), 1317, .bin .xor .int (.t 61) (.t 65)⟩, ⟨some 67, some (50, true), 1318, .bin .eql .int (.t 52) (.t 66)⟩, pk 68 1319 50 67 false, mv 6 1320 68]
def c5_7 : AC := .cond (.t 13) (.seq (.reg o5_3) .ret) .skip
def c5_15 : AC := .cond (.t 22) (.seq (.reg o5_6) .ret) .skip
def c5_22 : AC := .cond (.t 29) .skip (.exit 0)
def c5_24 : AC := .draw [⟨mv 31 1100 9, false, []⟩, ⟨mv 32 1101 10, false, []⟩, ⟨mv 33 1102 0, false, []⟩, ⟨mv 34 1103 10, false, []⟩, ⟨⟨some 35, none, 1104, .idxA 1 (.t 33) (.t 34)⟩, false, []⟩, ⟨ld 36 1105 35, false, []⟩, ⟨mv 37 1106 1, false, []⟩, ⟨mv 38 1107 10, false, []⟩, ⟨⟨some 39, none, 1108, .idxA 1 (.t 37) (.t 38)⟩, false, []⟩, ⟨ld 40 1109 39, false, []⟩, ⟨bi 41 1110 .xor 36 40, false, []⟩, ⟨mv 42 1111 2, false, []⟩, ⟨mv 43 1112 10, false, []⟩, ⟨⟨some 44, none, 1113, .idxA 1 (.t 42) (.t 43)⟩, false, []⟩, ⟨ld 45 1114 44, false, []⟩, ⟨bi 46 1115 .xor 41 45, false, []⟩, ⟨⟨some 47, none, 1116, .idxA 1 (.t 31) (.t 32)⟩, false, []⟩, ⟨⟨none, none, 1117, .store 1 (.t 47) (.t 46)⟩, true, []⟩]
def c5_27 : AC := .reg o5_12
def c5_28 : AC := .seq (.block 1 (.seq (.reg o5_10) c5_24)) c5_27
def c5_30 : AC := .seq (.reg o5_9) (.seq c5_22 c5_28)
def c5_32 : AC := .block 0 (.loop c5_30)
def c5_34 : AC := .draw [⟨mv 49 1300 7, false, []⟩, ⟨mv 50 1301 49, false, []⟩, ⟨gv 51 50 true 1302 9, false, []⟩, ⟨gv 53 50 true 1304 0, false, []⟩, ⟨gv 54 50 true 1305 8, false, []⟩, ⟨⟨some 55, some (50, true), 1306, .sliceS 1 (.t 53) none (some (.t 54)) none⟩, false, []⟩, ⟨gv 57 50 true 1308 1, false, []⟩, ⟨gv 58 50 true 1309 8, false, []⟩, ⟨⟨some 59, some (50, true), 1310, .sliceS 1 (.t 57) none (some (.t 58)) none⟩, false, []⟩, ⟨gv 62 50 true 1313 2, false, []⟩, ⟨gv 63 50 true 1314 8, false, []⟩, ⟨⟨some 64, some (50, true), 1315, .sliceS 1 (.t 62) none (some (.t 63)) none⟩, false, []⟩, ⟨⟨some 52, some (50, true), 1303, .call 25 [.t 51]⟩, true, [gv 53 50 true 1304 0, gv 54 50 true 1305 8, ⟨some 55, some (50, true), 1306, .sliceS 1 (.t 53) none (some (.t 54)) none⟩, gv 57 50 true 1308 1, gv 58 50 true 1309 8, ⟨some 59, some (50, true), 1310, .sliceS 1 (.t 57) none (some (.t 58)) none⟩, gv 62 50 true 1313 2, gv 63 50 true 1314 8, ⟨some 64, some (50, true), 1315, .sliceS 1 (.t 62) none (some (.t 63)) none⟩]⟩, ⟨⟨some 56, some (50, true), 1307, .call 25 [.t 55]⟩, true, [gv 57 50 true 1308 1, gv 58 50 true 1309 8, ⟨some 59, some (50, true), 1310, .sliceS 1 (.t 57) none (some (.t 58)) none⟩, gv 62 50 true 1313 2, gv 63 50 true 1314 8, ⟨some 64, some (50, true), 1315, .sliceS 1 (.t 62) none (some (.t 63)) none⟩]⟩, ⟨⟨some 60, some (50, true), 1311, .call 25 [.t 59]⟩, true, [gv 62 50 true 1313 2, gv 63 50 true 1314 8, ⟨some 64, some (50, true), 1315, .sliceS 1 (.t 62) none (some (.t 63)) none⟩]⟩, ⟨⟨some 61, some (50, true), 1312, .bin .xor .int (.t 56) (.t 60)⟩, false, []⟩, ⟨⟨some 65, some (50, true), 1316, .call 25 [.t 64]⟩, true, [⟨some 61, some (50, true), 1312, .bin .xor .int (.t 56) (.t 60)⟩]⟩, ⟨⟨some 66, some (50, true), 1317, .bin .xor .int (.t 61) (.t 65)⟩, false, []⟩, ⟨⟨some 67, some (50, true), 1318, .bin .eql .int (.t 52) (.t 66)⟩, false, []⟩, ⟨pk 68 1319 50 67 false, false, []⟩, ⟨mv 6 1320 68, false, []⟩]
def c5_36 : AC := .seq c5_34 .ret
def c5_37 : AC := .seq (.seq (.reg o5_8) c5_32) c5_36
def c5_38 : AC := .seq (.reg o5_7) c5_37
def c5_39 : AC := .seq (.seq (.reg o5_5) c5_15) c5_38
def c5_40 : AC := .seq (.reg o5_4) c5_39
def c5_41 : AC := .seq (.seq (.reg o5_2) c5_7) c5_40
def c5_43 : AC := .seq (.reg o5_0) (.seq (.reg o5_1) c5_41)
theorem fn5 : fnA Try.prog 5 = some (69, [.t 6], c5_43) := by kernel_rfl
def q_ok_thrumlaw04_CrcLinear_l0_ok (a0 : List Int) (a1 : List Int) (a2 : List Int) (r1 : Bool) (y2 : Int) (y4 : List Int) (x0 : Int) (x1 : List Int) (v : (List Int)) : Prop := (fun v => go Try.prog 69 (PostN (.exit 0) (fun x : (List Int) => ⟨[(9, sY (.h 0) x), (8, nI y2), (7, bB r1), (0, lY a0), (1, lY a1), (2, lY a2)], []⟩) v) [.l c5_30] .norm ⟨[(28, nI x0), (27, nI (y4.length : Int)), (9, sY (.h 0) x1), (8, nI y2), (7, bB r1), (0, lY a0), (1, lY a1), (2, lY a2)], []⟩) v
theorem ok_thrumlaw04_CrcLinear_l0_ok (a0 : List Int) (a1 : List Int) (a2 : List Int) (r1 : Bool) (y2 : Int) (y4 : List Int) (x0 : Int) (x1 : List Int) : Ok (M_thrumlaw04_CrcLinear_l0 a0 a1 a2 r1 y2 y4 x0 x1) (q_ok_thrumlaw04_CrcLinear_l0_ok a0 a1 a2 r1 y2 y4 x0 x1) := by
  refine M_thrumlaw04_CrcLinear_l0.partial_correctness a0 a1 a2 r1 y2 y4 (q_ok_thrumlaw04_CrcLinear_l0_ok a0 a1 a2 r1 y2 y4) ?_ x0 x1
  clear x0 x1
  intro f' IH x0 x1
  refine okI ?_
  unfold q_ok_thrumlaw04_CrcLinear_l0_ok at *
  refine Av 1 [.c c5_30, .l c5_30] ⟨[(28, nI x0), (27, nI (y4.length : Int)), (9, sY (.h 0) x1), (8, nI y2), (7, bB r1), (0, lY a0), (1, lY a1), (2, lY a2)], []⟩ ?_
  refine Av 5 [.c c5_22, .c c5_28, .l c5_30] ⟨[(29, bB (decide (x0 < (y4.length : Int)))), (28, nI x0), (27, nI (y4.length : Int)), (9, sY (.h 0) x1), (8, nI y2), (7, bB r1), (0, lY a0), (1, lY a1), (2, lY a2)], []⟩ ?_
  refine L_split 29 rfl (fun _ => ?_) (fun _ => ?_)
  · refine Av 9 [.c c5_24, .b 1, .c c5_27, .l c5_30] ⟨[(10, nI x0), (28, nI x0), (27, nI (y4.length : Int)), (9, sY (.h 0) x1), (8, nI y2), (7, bB r1), (0, lY a0), (1, lY a1), (2, lY a2)], []⟩ ?_
    refine Ae 5 [.o true (o5_11.drop 4), .b 1, .c c5_27, .l c5_30] ⟨[(34, nI x0), (33, lY a0), (32, nI x0), (31, sY (.h 0) x1), (10, nI x0), (28, nI x0), (27, nI (y4.length : Int)), (9, sY (.h 0) x1), (8, nI y2), (7, bB r1), (0, lY a0), (1, lY a1), (2, lY a2)], []⟩ ?_
    refine L_idxD (enc := D.int .u8) (l := a0) (iv := x0) trivial rfl rfl (fun _ => rfl) (fun hc1104 => ?_)
    refine Ae 3 [.o true (o5_11.drop 8), .b 1, .c c5_27, .l c5_30] ⟨[(38, nI x0), (37, lY a1), (36, nY (at' a0 x0)), (35, .d (.cp [.int .u8 (at' a0 x0)] 0)), (34, nI x0), (33, lY a0), (32, nI x0), (31, sY (.h 0) x1), (10, nI x0), (28, nI x0), (27, nI (y4.length : Int)), (9, sY (.h 0) x1), (8, nI y2), (7, bB r1), (0, lY a0), (1, lY a1), (2, lY a2)], []⟩ ?_
    refine L_idxD (enc := D.int .u8) (l := a1) (iv := x0) trivial rfl rfl (fun _ => rfl) (fun hc1108 => ?_)
    refine Ae 4 [.o true (o5_11.drop 13), .b 1, .c c5_27, .l c5_30] ⟨[(43, nI x0), (42, lY a2), (41, nY (bXor .u8 (at' a0 x0) (at' a1 x0))), (40, nY (at' a1 x0)), (39, .d (.cp [.int .u8 (at' a1 x0)] 0)), (38, nI x0), (37, lY a1), (36, nY (at' a0 x0)), (35, .d (.cp [.int .u8 (at' a0 x0)] 0)), (34, nI x0), (33, lY a0), (32, nI x0), (31, sY (.h 0) x1), (10, nI x0), (28, nI x0), (27, nI (y4.length : Int)), (9, sY (.h 0) x1), (8, nI y2), (7, bB r1), (0, lY a0), (1, lY a1), (2, lY a2)], []⟩ ?_
    refine L_idxD (enc := D.int .u8) (l := a2) (iv := x0) trivial rfl rfl (fun _ => rfl) (fun hc1113 => ?_)
    refine Ae 2 [.o true (o5_11.drop 16), .b 1, .c c5_27, .l c5_30] ⟨[(46, nY (bXor .u8 (bXor .u8 (at' a0 x0) (at' a1 x0)) (at' a2 x0))), (45, nY (at' a2 x0)), (44, .d (.cp [.int .u8 (at' a2 x0)] 0)), (43, nI x0), (42, lY a2), (41, nY (bXor .u8 (at' a0 x0) (at' a1 x0))), (40, nY (at' a1 x0)), (39, .d (.cp [.int .u8 (at' a1 x0)] 0)), (38, nI x0), (37, lY a1), (36, nY (at' a0 x0)), (35, .d (.cp [.int .u8 (at' a0 x0)] 0)), (34, nI x0), (33, lY a0), (32, nI x0), (31, sY (.h 0) x1), (10, nI x0), (28, nI x0), (27, nI (y4.length : Int)), (9, sY (.h 0) x1), (8, nI y2), (7, bB r1), (0, lY a0), (1, lY a1), (2, lY a2)], []⟩ ?_
    refine L_idxO (enc := D.int .u8) (l := x1) (iv := x0) trivial rfl rfl (fun hc1116 => ?_)
    refine Ae 0 [.o true (o5_11.drop 17), .b 1, .c c5_27, .l c5_30] ⟨[(47, .ep (.h 0) 1 (0 + Int.toNat x0) none (some (.int .u8 (at' x1 x0)))), (46, nY (bXor .u8 (bXor .u8 (at' a0 x0) (at' a1 x0)) (at' a2 x0))), (45, nY (at' a2 x0)), (44, .d (.cp [.int .u8 (at' a2 x0)] 0)), (43, nI x0), (42, lY a2), (41, nY (bXor .u8 (at' a0 x0) (at' a1 x0))), (40, nY (at' a1 x0)), (39, .d (.cp [.int .u8 (at' a1 x0)] 0)), (38, nI x0), (37, lY a1), (36, nY (at' a0 x0)), (35, .d (.cp [.int .u8 (at' a0 x0)] 0)), (34, nI x0), (33, lY a0), (32, nI x0), (31, sY (.h 0) x1), (10, nI x0), (28, nI x0), (27, nI (y4.length : Int)), (9, sY (.h 0) x1), (8, nI y2), (7, bB r1), (0, lY a0), (1, lY a1), (2, lY a2)], []⟩ ?_
    refine L_sto (p := nY (bXor .u8 (bXor .u8 (at' a0 x0) (at' a1 x0)) (at' a2 x0))) (d := .int .u8 (bXor .u8 (bXor .u8 (at' a0 x0) (at' a1 x0)) (at' a2 x0))) trivial rfl rfl rfl (of_decide_eq_true (by kernel_rfl)) rfl ?_
    refine Av 1 [.b 1, .c c5_27, .l c5_30] ⟨[(28, nI x0), (27, nI (y4.length : Int)), (9, .sl (.h 0) 1 0 (updEs none (.int .u8 (bXor .u8 (bXor .u8 (at' a0 x0) (at' a1 x0)) (at' a2 x0))) (List.map (D.int .u8) x1) (0 + Int.toNat x0))), (8, nI y2), (7, bB r1), (0, lY a0), (1, lY a1), (2, lY a2)], []⟩ ?_
    refine L_rw (fun z => ⟨[(28, nI x0), (27, nI (y4.length : Int)), (9, .sl (.h 0) 1 0 z), (8, nI y2), (7, bB r1), (0, lY a0), (1, lY a1), (2, lY a2)], []⟩) (b := List.map (D.int .u8) (x1.set (Int.toNat x0) (bXor .u8 (bXor .u8 (at' a0 x0) (at' a1 x0)) (at' a2 x0)))) (by rw [Nat.zero_add]; exact set_map) ?_
    refine Al 5 [.l c5_30] .norm (fun y6 : List Int => ⟨[(28, nI (IntKind.i64.wrap (x0 + 1))), (27, nI (y4.length : Int)), (9, sY (.h 0) y6), (8, nI y2), (7, bB r1), (0, lY a0), (1, lY a1), (2, lY a2)], []⟩) (fun y6 => ?_)
    exact L_again (IH (IntKind.i64.wrap (x0 + 1)) y6)
  · refine Avk 4 [] (.exit 0) ⟨[(9, sY (.h 0) x1), (8, nI y2), (7, bB r1), (0, lY a0), (1, lY a1), (2, lY a2)], []⟩ ?_
    exact L_end
theorem ok_thrumlaw04_CrcLinear (a0 : List Int) (a1 : List Int) (a2 : List Int) : ∀ v, M_thrumlaw04_CrcLinear a0 a1 a2 = some v → EvF Try.prog 5 [.lst (List.map (D.int .u8) a0), .lst (List.map (D.int .u8) a1), .lst (List.map (D.int .u8) a2)] (en_thrumlaw04_CrcLinear v) := by
  intro v hv
  refine EvF_go fn5 (Nat.le_of_ble_eq_true rfl) ?_
  suffices h : Ok (M_thrumlaw04_CrcLinear a0 a1 a2) fun v => go Try.prog 69 (Fnl [.t 6] (en_thrumlaw04_CrcLinear v) []) [.c c5_43] .norm (initSt (List.map PV.d [.lst (List.map (D.int .u8) a0), .lst (List.map (D.int .u8) a1), .lst (List.map (D.int .u8) a2)]) []) from h v hv
  unfold M_thrumlaw04_CrcLinear
  refine Av 6 [.o false o5_1, .c c5_41] ⟨[(0, lY a0), (1, lY a1), (2, lY a2)], []⟩ ?_
  refine L_call (ok_thrumlaw04_live) trivial rfl (fun _ => rfl) (fun _ => trivial) (fun r1 => ?_)
  refine Av 8 [.c c5_7, .c c5_40] ⟨[(13, bB (!r1)), (7, bB r1), (0, lY a0), (1, lY a1), (2, lY a2)], []⟩ ?_
  refine L_split 13 decF (fun _ => ?_) (fun _ => ?_)
  · refine Avk 7 [] .ret ⟨[(6, bB false)], []⟩ ?_
    exact L_ret
  · refine Av 5 [.o false (o5_4.drop 1), .c c5_39] ⟨[(14, lY a0), (7, bB r1), (0, lY a0), (1, lY a1), (2, lY a2)], []⟩ ?_
    refine L_len (enc := D.int .u8) (l := a0) trivial rfl ?_
    refine Av 1 [.o false (o5_4.drop 3), .c c5_39] ⟨[(16, lY a1), (15, nI (a0.length : Int)), (7, bB r1), (0, lY a0), (1, lY a1), (2, lY a2)], []⟩ ?_
    refine L_len (enc := D.int .u8) (l := a1) trivial rfl ?_
    refine Av 1 [.o false (o5_4.drop 5), .c c5_39] ⟨[(18, lY a2), (17, nI (a1.length : Int)), (15, nI (a0.length : Int)), (7, bB r1), (0, lY a0), (1, lY a1), (2, lY a2)], []⟩ ?_
    refine L_len (enc := D.int .u8) (l := a2) trivial rfl ?_
    refine Al 9 [.c c5_15, .c c5_38] .norm (fun y2 : Int => ⟨[(22, bB (decide (y2 > 3000))), (8, nI y2), (7, bB r1), (0, lY a0), (1, lY a1), (2, lY a2)], []⟩) (fun y2 => ?_)
    refine L_split 22 rfl (fun _ => ?_) (fun _ => ?_)
    · refine Avk 8 [] .ret ⟨[(6, bB r1)], []⟩ ?_
      exact L_ret
    · refine Av 5 [.o false (o5_7.drop 1), .c c5_37] ⟨[(24, nI y2), (8, nI y2), (7, bB r1), (0, lY a0), (1, lY a1), (2, lY a2)], []⟩ ?_
      refine L_mk (enc := D.int .u8) (z0 := 0) (a := y2) (b := y2) trivial rfl rfl rfl (fun _ => ?_)
      refine Al 6 [.o false (o5_8.drop 1), .c c5_32, .c c5_36] .norm (fun y4 : List Int => ⟨[(26, sY (.s 11231) y4), (9, sY (.s 11231) y4), (8, nI y2), (7, bB r1), (0, lY a0), (1, lY a1), (2, lY a2)], []⟩) (fun y4 => ?_)
      refine L_len (enc := D.int .u8) (l := y4) trivial rfl ?_
      refine Av 4 [.l c5_30, .b 0, .c c5_36] ⟨[(28, nI 0), (27, nI (y4.length : Int)), (9, sY (.s 11231) y4), (8, nI y2), (7, bB r1), (0, lY a0), (1, lY a1), (2, lY a2)], []⟩ ?_
      refine L_piece (fs := [.l c5_30]) (ks := [.b 0, .c c5_36]) (ok_thrumlaw04_CrcLinear_l0_ok a0 a1 a2 r1 y2 y4 0 y4) (fun j8 => ?_)
      refine Av 2 [.c c5_34, .c .ret] ⟨[(9, sY (.h 0) j8), (8, nI y2), (7, bB r1), (0, lY a0), (1, lY a1), (2, lY a2)], []⟩ ?_
      refine Ae 3 [.o true (o5_13g0.drop 2), .h h5_13g0, .o true o5_13g1, .h h5_13g1, .o true o5_13g2, .h h5_13g2, .o true o5_13g3, .h h5_13g3, .o true o5_13g4, .h [], .c .ret] ⟨[(50, bB r1), (49, bB r1), (9, sY (.h 0) j8), (8, nI y2), (7, bB r1), (0, lY a0), (1, lY a1), (2, lY a2)], []⟩ ?_
      refine L_splitE (b := r1) (fun z => ⟨[(50, bB z), (49, bB r1), (9, sY (.h 0) j8), (8, nI y2), (7, bB r1), (0, lY a0), (1, lY a1), (2, lY a2)], []⟩) decT (fun _ => ?_) (fun _ => ?_)
      · refine Ae 3 [.o true (o5_13g0.drop 5), .h h5_13g0, .o true o5_13g1, .h h5_13g1, .o true o5_13g2, .h h5_13g2, .o true o5_13g3, .h h5_13g3, .o true o5_13g4, .h [], .c .ret] ⟨[(54, nI y2), (50, bB true), (53, lY a0), (51, sY (.h 0) j8), (49, bB r1), (9, sY (.h 0) j8), (8, nI y2), (7, bB r1), (0, lY a0), (1, lY a1), (2, lY a2)], []⟩ ?_
        refine L_cutD (enc := D.int .u8) (l := a0) (a := none) (b := (some y2)) rfl rfl rfl rfl (fun _ => rfl) (fun hc1306 => ?_)
        refine Ae 2 [.o true (o5_13g0.drop 8), .h h5_13g0, .o true o5_13g1, .h h5_13g1, .o true o5_13g2, .h h5_13g2, .o true o5_13g3, .h h5_13g3, .o true o5_13g4, .h [], .c .ret] ⟨[(58, nI y2), (50, bB true), (57, lY a1), (55, lY (cut' a0 none (some y2))), (54, nI y2), (53, lY a0), (51, sY (.h 0) j8), (49, bB r1), (9, sY (.h 0) j8), (8, nI y2), (7, bB r1), (0, lY a0), (1, lY a1), (2, lY a2)], []⟩ ?_
        refine L_cutD (enc := D.int .u8) (l := a1) (a := none) (b := (some y2)) rfl rfl rfl rfl (fun _ => rfl) (fun hc1310 => ?_)
        refine Ae 2 [.o true (o5_13g0.drop 11), .h h5_13g0, .o true o5_13g1, .h h5_13g1, .o true o5_13g2, .h h5_13g2, .o true o5_13g3, .h h5_13g3, .o true o5_13g4, .h [], .c .ret] ⟨[(63, nI y2), (50, bB true), (62, lY a2), (59, lY (cut' a1 none (some y2))), (58, nI y2), (57, lY a1), (55, lY (cut' a0 none (some y2))), (54, nI y2), (53, lY a0), (51, sY (.h 0) j8), (49, bB r1), (9, sY (.h 0) j8), (8, nI y2), (7, bB r1), (0, lY a0), (1, lY a1), (2, lY a2)], []⟩ ?_
        refine L_cutD (enc := D.int .u8) (l := a2) (a := none) (b := (some y2)) rfl rfl rfl rfl (fun _ => rfl) (fun hc1315 => ?_)
        refine Ae 0 [.o true (o5_13g0.drop 12), .h h5_13g0, .o true o5_13g1, .h h5_13g1, .o true o5_13g2, .h h5_13g2, .o true o5_13g3, .h h5_13g3, .o true o5_13g4, .h [], .c .ret] ⟨[(64, lY (cut' a2 none (some y2))), (50, bB true), (63, nI y2), (62, lY a2), (59, lY (cut' a1 none (some y2))), (58, nI y2), (57, lY a1), (55, lY (cut' a0 none (some y2))), (54, nI y2), (53, lY a0), (51, sY (.h 0) j8), (49, bB r1), (9, sY (.h 0) j8), (8, nI y2), (7, bB r1), (0, lY a0), (1, lY a1), (2, lY a2)], []⟩ ?_
        refine L_call (ok_crc_Sum j8) rfl rfl (fun _ => rfl) (fun _ => trivial) (fun r13 => ?_)
        refine Ae 1 [.h h5_13g0, .o true o5_13g1, .h h5_13g1, .o true o5_13g2, .h h5_13g2, .o true o5_13g3, .h h5_13g3, .o true o5_13g4, .h [], .c .ret] ⟨[(52, nW r13), (50, bB true), (64, lY (cut' a2 none (some y2))), (63, nI y2), (62, lY a2), (59, lY (cut' a1 none (some y2))), (58, nI y2), (57, lY a1), (55, lY (cut' a0 none (some y2))), (54, nI y2), (53, lY a0), (51, sY (.h 0) j8), (49, bB r1), (9, sY (.h 0) j8), (8, nI y2), (7, bB r1), (0, lY a0), (1, lY a1), (2, lY a2)], []⟩ ?_
        refine L_hold ⟨hC (lY a0) rfl, hC (nI y2) rfl, hCutD (enc := D.int .u8) (l := a0) (a := none) (b := (some y2)) rfl rfl rfl rfl (fun _ => rfl) hc1306, hC (lY a1) rfl, hC (nI y2) rfl, hCutD (enc := D.int .u8) (l := a1) (a := none) (b := (some y2)) rfl rfl rfl rfl (fun _ => rfl) hc1310, hC (lY a2) rfl, hC (nI y2) rfl, hCutD (enc := D.int .u8) (l := a2) (a := none) (b := (some y2)) rfl rfl rfl rfl (fun _ => rfl) hc1315, trivial⟩ ?_
        refine Ae 0 [.o true o5_13g1, .h h5_13g1, .o true o5_13g2, .h h5_13g2, .o true o5_13g3, .h h5_13g3, .o true o5_13g4, .h [], .c .ret] ⟨[(52, nW r13), (50, bB true), (64, lY (cut' a2 none (some y2))), (63, nI y2), (62, lY a2), (59, lY (cut' a1 none (some y2))), (58, nI y2), (57, lY a1), (55, lY (cut' a0 none (some y2))), (54, nI y2), (53, lY a0), (51, sY (.h 0) j8), (49, bB r1), (9, sY (.h 0) j8), (8, nI y2), (7, bB r1), (0, lY a0), (1, lY a1), (2, lY a2)], []⟩ ?_
        refine L_call (ok_crc_Sum (cut' a0 none (some y2))) rfl rfl (fun _ => rfl) (fun _ => trivial) (fun r14 => ?_)
        refine Ae 1 [.h h5_13g1, .o true o5_13g2, .h h5_13g2, .o true o5_13g3, .h h5_13g3, .o true o5_13g4, .h [], .c .ret] ⟨[(56, nW r14), (50, bB true), (52, nW r13), (64, lY (cut' a2 none (some y2))), (63, nI y2), (62, lY a2), (59, lY (cut' a1 none (some y2))), (58, nI y2), (57, lY a1), (55, lY (cut' a0 none (some y2))), (54, nI y2), (53, lY a0), (51, sY (.h 0) j8), (49, bB r1), (9, sY (.h 0) j8), (8, nI y2), (7, bB r1), (0, lY a0), (1, lY a1), (2, lY a2)], []⟩ ?_
        refine L_hold ⟨hC (lY a1) rfl, hC (nI y2) rfl, hCutD (enc := D.int .u8) (l := a1) (a := none) (b := (some y2)) rfl rfl rfl rfl (fun _ => rfl) hc1310, hC (lY a2) rfl, hC (nI y2) rfl, hCutD (enc := D.int .u8) (l := a2) (a := none) (b := (some y2)) rfl rfl rfl rfl (fun _ => rfl) hc1315, trivial⟩ ?_
        refine Ae 0 [.o true o5_13g2, .h h5_13g2, .o true o5_13g3, .h h5_13g3, .o true o5_13g4, .h [], .c .ret] ⟨[(56, nW r14), (50, bB true), (52, nW r13), (64, lY (cut' a2 none (some y2))), (63, nI y2), (62, lY a2), (59, lY (cut' a1 none (some y2))), (58, nI y2), (57, lY a1), (55, lY (cut' a0 none (some y2))), (54, nI y2), (53, lY a0), (51, sY (.h 0) j8), (49, bB r1), (9, sY (.h 0) j8), (8, nI y2), (7, bB r1), (0, lY a0), (1, lY a1), (2, lY a2)], []⟩ ?_
        refine L_call (ok_crc_Sum (cut' a1 none (some y2))) rfl rfl (fun _ => rfl) (fun _ => trivial) (fun r15 => ?_)
        refine Ae 1 [.h h5_13g2, .o true o5_13g3, .h h5_13g3, .o true o5_13g4, .h [], .c .ret] ⟨[(60, nW r15), (50, bB true), (56, nW r14), (52, nW r13), (64, lY (cut' a2 none (some y2))), (63, nI y2), (62, lY a2), (59, lY (cut' a1 none (some y2))), (58, nI y2), (57, lY a1), (55, lY (cut' a0 none (some y2))), (54, nI y2), (53, lY a0), (51, sY (.h 0) j8), (49, bB r1), (9, sY (.h 0) j8), (8, nI y2), (7, bB r1), (0, lY a0), (1, lY a1), (2, lY a2)], []⟩ ?_
        refine L_hold ⟨hC (lY a2) rfl, hC (nI y2) rfl, hCutD (enc := D.int .u8) (l := a2) (a := none) (b := (some y2)) rfl rfl rfl rfl (fun _ => rfl) hc1315, trivial⟩ ?_
        refine Ae 1 [.o true (o5_13g3.drop 1), .h h5_13g3, .o true o5_13g4, .h [], .c .ret] ⟨[(61, nW (bXor .u32 r14 r15)), (50, bB true), (60, nW r15), (56, nW r14), (52, nW r13), (64, lY (cut' a2 none (some y2))), (63, nI y2), (62, lY a2), (59, lY (cut' a1 none (some y2))), (58, nI y2), (57, lY a1), (55, lY (cut' a0 none (some y2))), (54, nI y2), (53, lY a0), (51, sY (.h 0) j8), (49, bB r1), (9, sY (.h 0) j8), (8, nI y2), (7, bB r1), (0, lY a0), (1, lY a1), (2, lY a2)], []⟩ ?_
        refine L_call (ok_crc_Sum (cut' a2 none (some y2))) rfl rfl (fun _ => rfl) (fun _ => trivial) (fun r16 => ?_)
        refine Ae 1 [.h h5_13g3, .o true o5_13g4, .h [], .c .ret] ⟨[(65, nW r16), (50, bB true), (61, nW (bXor .u32 r14 r15)), (60, nW r15), (56, nW r14), (52, nW r13), (64, lY (cut' a2 none (some y2))), (63, nI y2), (62, lY a2), (59, lY (cut' a1 none (some y2))), (58, nI y2), (57, lY a1), (55, lY (cut' a0 none (some y2))), (54, nI y2), (53, lY a0), (51, sY (.h 0) j8), (49, bB r1), (9, sY (.h 0) j8), (8, nI y2), (7, bB r1), (0, lY a0), (1, lY a1), (2, lY a2)], []⟩ ?_
        refine L_hold ⟨hC (nW (bXor .u32 r14 r15)) rfl, trivial⟩ ?_
        refine Avk 7 [] .ret ⟨[(6, bB (r13 == (bXor .u32 (bXor .u32 r14 r15) r16)))], []⟩ ?_
        exact L_ret
      · refine Ae 12 [.h h5_13g0, .o true o5_13g1, .h h5_13g1, .o true o5_13g2, .h h5_13g2, .o true o5_13g3, .h h5_13g3, .o true o5_13g4, .h [], .c .ret] ⟨[(52, .tup []), (50, bB false), (64, .tup []), (63, .tup []), (62, .tup []), (59, .tup []), (58, .tup []), (57, .tup []), (55, .tup []), (54, .tup []), (53, .tup []), (51, .tup []), (49, bB r1), (9, sY (.h 0) j8), (8, nI y2), (7, bB r1), (0, lY a0), (1, lY a1), (2, lY a2)], []⟩ ?_
        refine L_hold ⟨hN rfl (.inr rfl), hN rfl (.inr rfl), hN rfl (.inr rfl), hN rfl (.inr rfl), hN rfl (.inr rfl), hN rfl (.inr rfl), hN rfl (.inr rfl), hN rfl (.inr rfl), hN rfl (.inr rfl), trivial⟩ ?_
        refine Ae 2 [.h h5_13g1, .o true o5_13g2, .h h5_13g2, .o true o5_13g3, .h h5_13g3, .o true o5_13g4, .h [], .c .ret] ⟨[(56, .tup []), (50, bB false), (52, .tup []), (64, .tup []), (63, .tup []), (62, .tup []), (59, .tup []), (58, .tup []), (57, .tup []), (55, .tup []), (54, .tup []), (53, .tup []), (51, .tup []), (49, bB r1), (9, sY (.h 0) j8), (8, nI y2), (7, bB r1), (0, lY a0), (1, lY a1), (2, lY a2)], []⟩ ?_
        refine L_hold ⟨hN rfl (.inr rfl), hN rfl (.inr rfl), hN rfl (.inr rfl), hN rfl (.inr rfl), hN rfl (.inr rfl), hN rfl (.inr rfl), trivial⟩ ?_
        refine Ae 2 [.h h5_13g2, .o true o5_13g3, .h h5_13g3, .o true o5_13g4, .h [], .c .ret] ⟨[(60, .tup []), (50, bB false), (56, .tup []), (52, .tup []), (64, .tup []), (63, .tup []), (62, .tup []), (59, .tup []), (58, .tup []), (57, .tup []), (55, .tup []), (54, .tup []), (53, .tup []), (51, .tup []), (49, bB r1), (9, sY (.h 0) j8), (8, nI y2), (7, bB r1), (0, lY a0), (1, lY a1), (2, lY a2)], []⟩ ?_
        refine L_hold ⟨hN rfl (.inr rfl), hN rfl (.inr rfl), hN rfl (.inr rfl), trivial⟩ ?_
        refine Ae 3 [.h h5_13g3, .o true o5_13g4, .h [], .c .ret] ⟨[(65, .tup []), (50, bB false), (61, .tup []), (60, .tup []), (56, .tup []), (52, .tup []), (64, .tup []), (63, .tup []), (62, .tup []), (59, .tup []), (58, .tup []), (57, .tup []), (55, .tup []), (54, .tup []), (53, .tup []), (51, .tup []), (49, bB r1), (9, sY (.h 0) j8), (8, nI y2), (7, bB r1), (0, lY a0), (1, lY a1), (2, lY a2)], []⟩ ?_
        refine L_hold ⟨hN rfl (.inr rfl), trivial⟩ ?_
        refine Avk 7 [] .ret ⟨[(6, bB false)], []⟩ ?_
        exact L_ret
/-- thrum/crc.Turn. -/
def en_crc_Turn (v : (List Int) × Int) : PV := .tup [sY (.s 0) v.1, nI v.2]
def o26_0 : List AOper := [⟨some 4, none, 0, .mov (.c .nils)⟩, mi 5 1 0]
def o26_1 : List AOper := [mv 7 100 1, bc 8 101 .lss 7 0, mv 9 102 8, gv 10 9 false 103 1, ⟨some 11, some (9, false), 104, .bin .shr .int (.t 10) (.c (.d (.int .u64 3)))⟩, gv 12 9 false 105 0, ⟨some 13, some (9, false), 106, .len (.t 12)⟩, ⟨some 14, some (9, false), 107, .bin .geq .int (.t 11) (.t 13)⟩, pz 15 108 9 14 true]
def o26_2 : List AOper := [⟨some 4, none, 200, .mov (.c .nils)⟩, mi 5 201 1]
def o26_3 : List AOper := [mv 16 300 0, cl' 17 301 54 [.t 16], mv 6 302 17]
def o26_4 : List AOper := [mv 18 400 6, mv 19 401 1, ⟨some 20, none, 402, .bin .shr .int (.t 19) (.c (.d (.int .u64 3)))⟩, ⟨some 21, none, 403, .idxA 1 (.t 18) (.t 20)⟩, ld 22 404 21, mv 23 405 1, bc 24 406 .and 23 7, ⟨some 25, none, 407, .bin .shl .int (.c (.d (.int .u8 1))) (.t 24)⟩, bi 26 408 .xor 22 25, ⟨some 27, none, 409, .idxA 1 (.t 18) (.t 20)⟩, ⟨none, none, 410, .store 1 (.t 27) (.t 26)⟩]
def o26_5 : List AOper := [mv 28 500 6, mv 4 501 28, mi 5 502 0]
def o26_1t3_9 : List AOper := (o26_1.drop 3).take 6
def c26_6 : AC := .cond (.t 15) (.seq (.reg o26_2) .ret) .skip
def c26_9 : AC := .draw [⟨mv 18 400 6, false, []⟩, ⟨mv 19 401 1, false, []⟩, ⟨⟨some 20, none, 402, .bin .shr .int (.t 19) (.c (.d (.int .u64 3)))⟩, false, []⟩, ⟨⟨some 21, none, 403, .idxA 1 (.t 18) (.t 20)⟩, false, []⟩, ⟨ld 22 404 21, false, []⟩, ⟨mv 23 405 1, false, []⟩, ⟨bc 24 406 .and 23 7, false, []⟩, ⟨⟨some 25, none, 407, .bin .shl .int (.c (.d (.int .u8 1))) (.t 24)⟩, false, []⟩, ⟨bi 26 408 .xor 22 25, false, []⟩, ⟨⟨some 27, none, 409, .idxA 1 (.t 18) (.t 20)⟩, false, []⟩, ⟨⟨none, none, 410, .store 1 (.t 27) (.t 26)⟩, true, []⟩]
def c26_12 : AC := .seq (.reg o26_5) .ret
def c26_13 : AC := .seq c26_9 c26_12
def c26_14 : AC := .seq (.reg o26_3) c26_13
def c26_16 : AC := .seq (.reg o26_0) (.seq (.seq (.reg o26_1) c26_6) c26_14)
theorem fn26 : fnA Try.prog 26 = some (29, [.t 4, .t 5], c26_16) := by kernel_rfl
theorem ok_crc_Turn (a0 : List Int) (a1 : Int) : ∀ v, M_crc_Turn a0 a1 = some v → EvF Try.prog 26 [.lst (List.map (D.int .u8) a0), .int .i64 a1] (en_crc_Turn v) := by
  intro v hv
  refine EvF_go fn26 (Nat.le_of_ble_eq_true rfl) ?_
  suffices h : Ok (M_crc_Turn a0 a1) fun v => go Try.prog 29 (Fnl [.t 4, .t 5] (en_crc_Turn v) []) [.c c26_16] .norm (initSt (List.map PV.d [.lst (List.map (D.int .u8) a0), .int .i64 a1]) []) from h v hv
  unfold M_crc_Turn
  refine Av 11 [.o false (o26_1.drop 3), .c c26_6, .c c26_14] ⟨[(9, bB (decide (a1 < 0))), (0, lY a0), (1, nI a1)], []⟩ ?_
  refine L_take 6 o26_1t3_9 (o26_1.drop 9) ?_
  refine L_join [.o false o26_1t3_9] [.o false (o26_1.drop 9), .c c26_6, .c c26_14] (fun x : Bool => ⟨[(15, bB x), (0, lY a0), (1, nI a1)], []⟩) ?_ (fun j1 => ?_)
  · refine L_split 9 rfl (fun _ => ?_) (fun _ => ?_)
    · refine Av 7 [] ⟨[(15, bB true), (0, lY a0), (1, nI a1)], []⟩ ?_
      exact L_end
    · refine Av 3 [.o false (o26_1t3_9.drop 3)] ⟨[(12, lY a0), (9, bB false), (11, nI (sShr .i64 a1 3)), (0, lY a0), (1, nI a1)], []⟩ ?_
      refine L_len (enc := D.int .u8) (l := a0) rfl rfl ?_
      refine Av 3 [] ⟨[(15, bB (decide ((sShr .i64 a1 3) ≥ (a0.length : Int)))), (0, lY a0), (1, nI a1)], []⟩ ?_
      exact L_end
  · refine Av 1 [.c c26_6, .c c26_14] ⟨[(15, bB j1), (0, lY a0), (1, nI a1)], []⟩ ?_
    refine L_split 15 decT (fun _ => ?_) (fun _ => ?_)
    · refine Avk 8 [] .ret ⟨[(5, nI 1), (4, .nils)], []⟩ ?_
      exact L_ret
    · refine Av 5 [.o false (o26_3.drop 1), .c c26_13] ⟨[(16, lY a0), (1, nI a1)], []⟩ ?_
      refine L_call (ok_slices_Clone_byte_byte a0) trivial rfl (fun _ => rfl) (fun _ => (flat_map_of fun _ => trivial)) (fun r2 => ?_)
      refine Av 3 [.c c26_9, .c c26_12] ⟨[(6, sY (.s 4816) r2), (1, nI a1)], []⟩ ?_
      refine Ae 4 [.o true (o26_4.drop 3), .c c26_12] ⟨[(20, nI (sShr .i64 a1 3)), (19, nI a1), (18, sY (.s 4816) r2), (6, sY (.s 4816) r2), (1, nI a1)], []⟩ ?_
      refine L_idxO (enc := D.int .u8) (l := r2) (iv := sShr .i64 a1 3) trivial rfl rfl (fun hc403 => ?_)
      refine Ae 3 [.o true (o26_4.drop 7), .c c26_12] ⟨[(24, nI (bAnd .i64 a1 7)), (23, nI a1), (22, nY (at' r2 (sShr .i64 a1 3))), (21, .ep (.s 4816) 1 (0 + Int.toNat (sShr .i64 a1 3)) none (some (.int .u8 (at' r2 (sShr .i64 a1 3))))), (20, nI (sShr .i64 a1 3)), (19, nI a1), (18, sY (.s 4816) r2), (6, sY (.s 4816) r2), (1, nI a1)], []⟩ ?_
      refine L_rd (c := 0 ≤ bAnd .i64 a1 7) (v := nY (sShl .u8 1 (bAnd .i64 a1 7))) trivial rfl (fun _ => ?_)
      refine Ae 1 [.o true (o26_4.drop 9), .c c26_12] ⟨[(26, nY (bXor .u8 (at' r2 (sShr .i64 a1 3)) (sShl .u8 1 (bAnd .i64 a1 7)))), (25, nY (sShl .u8 1 (bAnd .i64 a1 7))), (24, nI (bAnd .i64 a1 7)), (23, nI a1), (22, nY (at' r2 (sShr .i64 a1 3))), (21, .ep (.s 4816) 1 (0 + Int.toNat (sShr .i64 a1 3)) none (some (.int .u8 (at' r2 (sShr .i64 a1 3))))), (20, nI (sShr .i64 a1 3)), (19, nI a1), (18, sY (.s 4816) r2), (6, sY (.s 4816) r2), (1, nI a1)], []⟩ ?_
      refine L_idxO (enc := D.int .u8) (l := r2) (iv := sShr .i64 a1 3) trivial rfl rfl (fun hc409 => ?_)
      refine Ae 0 [.o true (o26_4.drop 10), .c c26_12] ⟨[(27, .ep (.s 4816) 1 (0 + Int.toNat (sShr .i64 a1 3)) none (some (.int .u8 (at' r2 (sShr .i64 a1 3))))), (26, nY (bXor .u8 (at' r2 (sShr .i64 a1 3)) (sShl .u8 1 (bAnd .i64 a1 7)))), (25, nY (sShl .u8 1 (bAnd .i64 a1 7))), (24, nI (bAnd .i64 a1 7)), (23, nI a1), (22, nY (at' r2 (sShr .i64 a1 3))), (21, .ep (.s 4816) 1 (0 + Int.toNat (sShr .i64 a1 3)) none (some (.int .u8 (at' r2 (sShr .i64 a1 3))))), (20, nI (sShr .i64 a1 3)), (19, nI a1), (18, sY (.s 4816) r2), (6, sY (.s 4816) r2), (1, nI a1)], []⟩ ?_
      refine L_sto (p := nY (bXor .u8 (at' r2 (sShr .i64 a1 3)) (sShl .u8 1 (bAnd .i64 a1 7)))) (d := .int .u8 (bXor .u8 (at' r2 (sShr .i64 a1 3)) (sShl .u8 1 (bAnd .i64 a1 7)))) trivial rfl rfl rfl (of_decide_eq_true (by kernel_rfl)) rfl ?_
      refine Av 1 [.c c26_12] ⟨[(6, .sl (.s 4816) 1 0 (updEs none (.int .u8 (bXor .u8 (at' r2 (sShr .i64 a1 3)) (sShl .u8 1 (bAnd .i64 a1 7)))) (List.map (D.int .u8) r2) (0 + Int.toNat (sShr .i64 a1 3))))], []⟩ ?_
      refine L_rw (fun z => ⟨[(6, .sl (.s 4816) 1 0 z)], []⟩) (b := List.map (D.int .u8) (r2.set (Int.toNat (sShr .i64 a1 3)) (bXor .u8 (at' r2 (sShr .i64 a1 3)) (sShl .u8 1 (bAnd .i64 a1 7))))) (by rw [Nat.zero_add]; exact set_map) ?_
      refine Avk 7 [] .ret ⟨[(5, nI 0), (4, sY (.s 4816) (r2.set (Int.toNat (sShr .i64 a1 3)) (bXor .u8 (at' r2 (sShr .i64 a1 3)) (sShl .u8 1 (bAnd .i64 a1 7)))))], []⟩ ?_
      exact L_ret
/-- thrum/thrumref04.Turn. -/
def en_thrumref04_Turn (v : (List Int) × Int) : PV := .tup [sY (.s 0) v.1, nI v.2]
def o27_0 : List AOper := [⟨some 4, none, 0, .mov (.c .nils)⟩, mi 5 1 0]
def o27_1 : List AOper := [mv 7 100 1, bc 8 101 .lss 7 0, mv 9 102 8, gv 10 9 false 103 1, ⟨some 11, some (9, false), 104, .bin .quo .int (.t 10) (.c (.d (.int .i64 8)))⟩, gv 12 9 false 105 0, ⟨some 13, some (9, false), 106, .len (.t 12)⟩, ⟨some 14, some (9, false), 107, .bin .geq .int (.t 11) (.t 13)⟩, pz 15 108 9 14 true]
def o27_2 : List AOper := [⟨some 4, none, 200, .mov (.c .nils)⟩, mi 5 201 1]
def o27_3 : List AOper := [mv 16 300 0, ⟨some 17, none, 301, .app 5 1 1 (.c .nils) (.t 16)⟩, mv 6 302 17]
def o27_4 : List AOper := [mv 18 400 6, mv 19 401 1, bc 20 402 .quo 19 8, ⟨some 21, none, 403, .idxA 1 (.t 18) (.t 20)⟩, ld 22 404 21, mv 23 405 1, bc 24 406 .rem 23 8, ⟨some 25, none, 407, .bin .shl .int (.c (.d (.int .u8 1))) (.t 24)⟩, bi 26 408 .xor 22 25, ⟨some 27, none, 409, .idxA 1 (.t 18) (.t 20)⟩, ⟨none, none, 410, .store 1 (.t 27) (.t 26)⟩]
def o27_5 : List AOper := [mv 28 500 6, mv 4 501 28, mi 5 502 0]
def o27_1t3_9 : List AOper := (o27_1.drop 3).take 6
def c27_6 : AC := .cond (.t 15) (.seq (.reg o27_2) .ret) .skip
def c27_9 : AC := .draw [⟨mv 18 400 6, false, []⟩, ⟨mv 19 401 1, false, []⟩, ⟨bc 20 402 .quo 19 8, false, []⟩, ⟨⟨some 21, none, 403, .idxA 1 (.t 18) (.t 20)⟩, false, []⟩, ⟨ld 22 404 21, false, []⟩, ⟨mv 23 405 1, false, []⟩, ⟨bc 24 406 .rem 23 8, false, []⟩, ⟨⟨some 25, none, 407, .bin .shl .int (.c (.d (.int .u8 1))) (.t 24)⟩, false, []⟩, ⟨bi 26 408 .xor 22 25, false, []⟩, ⟨⟨some 27, none, 409, .idxA 1 (.t 18) (.t 20)⟩, false, []⟩, ⟨⟨none, none, 410, .store 1 (.t 27) (.t 26)⟩, true, []⟩]
def c27_12 : AC := .seq (.reg o27_5) .ret
def c27_13 : AC := .seq c27_9 c27_12
def c27_14 : AC := .seq (.reg o27_3) c27_13
def c27_16 : AC := .seq (.reg o27_0) (.seq (.seq (.reg o27_1) c27_6) c27_14)
theorem fn27 : fnA Try.prog 27 = some (29, [.t 4, .t 5], c27_16) := by kernel_rfl
theorem ok_thrumref04_Turn (a0 : List Int) (a1 : Int) : ∀ v, M_thrumref04_Turn a0 a1 = some v → EvF Try.prog 27 [.lst (List.map (D.int .u8) a0), .int .i64 a1] (en_thrumref04_Turn v) := by
  intro v hv
  refine EvF_go fn27 (Nat.le_of_ble_eq_true rfl) ?_
  suffices h : Ok (M_thrumref04_Turn a0 a1) fun v => go Try.prog 29 (Fnl [.t 4, .t 5] (en_thrumref04_Turn v) []) [.c c27_16] .norm (initSt (List.map PV.d [.lst (List.map (D.int .u8) a0), .int .i64 a1]) []) from h v hv
  unfold M_thrumref04_Turn
  refine Av 11 [.o false (o27_1.drop 3), .c c27_6, .c c27_14] ⟨[(9, bB (decide (a1 < 0))), (0, lY a0), (1, nI a1)], []⟩ ?_
  refine L_take 6 o27_1t3_9 (o27_1.drop 9) ?_
  refine L_join [.o false o27_1t3_9] [.o false (o27_1.drop 9), .c c27_6, .c c27_14] (fun x : Bool => ⟨[(15, bB x), (0, lY a0), (1, nI a1)], []⟩) ?_ (fun j1 => ?_)
  · refine L_split 9 rfl (fun _ => ?_) (fun _ => ?_)
    · refine Av 7 [] ⟨[(15, bB true), (0, lY a0), (1, nI a1)], []⟩ ?_
      exact L_end
    · refine Av 3 [.o false (o27_1t3_9.drop 3)] ⟨[(12, lY a0), (9, bB false), (11, nI (IntKind.i64.wrap (Int.tdiv a1 8))), (0, lY a0), (1, nI a1)], []⟩ ?_
      refine L_len (enc := D.int .u8) (l := a0) rfl rfl ?_
      refine Av 3 [] ⟨[(15, bB (decide ((IntKind.i64.wrap (Int.tdiv a1 8)) ≥ (a0.length : Int)))), (0, lY a0), (1, nI a1)], []⟩ ?_
      exact L_end
  · refine Av 1 [.c c27_6, .c c27_14] ⟨[(15, bB j1), (0, lY a0), (1, nI a1)], []⟩ ?_
    refine L_split 15 decT (fun _ => ?_) (fun _ => ?_)
    · refine Avk 8 [] .ret ⟨[(5, nI 1), (4, .nils)], []⟩ ?_
      exact L_ret
    · refine Av 5 [.o false (o27_3.drop 1), .c c27_13] ⟨[(16, lY a0), (1, nI a1)], []⟩ ?_
      refine L_appN (enc := D.int .u8) (l2 := a0) trivial rfl rfl (fun _ => rfl) (fun _ => ?_)
      refine Av 3 [.c c27_9, .c c27_12] ⟨[(6, sY (.s 4831) a0), (1, nI a1)], []⟩ ?_
      refine Ae 4 [.o true (o27_4.drop 3), .c c27_12] ⟨[(20, nI (IntKind.i64.wrap (Int.tdiv a1 8))), (19, nI a1), (18, sY (.s 4831) a0), (6, sY (.s 4831) a0), (1, nI a1)], []⟩ ?_
      refine L_idxO (enc := D.int .u8) (l := a0) (iv := IntKind.i64.wrap (Int.tdiv a1 8)) trivial rfl rfl (fun hc403 => ?_)
      refine Ae 3 [.o true (o27_4.drop 7), .c c27_12] ⟨[(24, nI (Int.tmod a1 8)), (23, nI a1), (22, nY (at' a0 (IntKind.i64.wrap (Int.tdiv a1 8)))), (21, .ep (.s 4831) 1 (0 + Int.toNat (IntKind.i64.wrap (Int.tdiv a1 8))) none (some (.int .u8 (at' a0 (IntKind.i64.wrap (Int.tdiv a1 8)))))), (20, nI (IntKind.i64.wrap (Int.tdiv a1 8))), (19, nI a1), (18, sY (.s 4831) a0), (6, sY (.s 4831) a0), (1, nI a1)], []⟩ ?_
      refine L_rd (c := 0 ≤ Int.tmod a1 8) (v := nY (sShl .u8 1 (Int.tmod a1 8))) trivial rfl (fun _ => ?_)
      refine Ae 1 [.o true (o27_4.drop 9), .c c27_12] ⟨[(26, nY (bXor .u8 (at' a0 (IntKind.i64.wrap (Int.tdiv a1 8))) (sShl .u8 1 (Int.tmod a1 8)))), (25, nY (sShl .u8 1 (Int.tmod a1 8))), (24, nI (Int.tmod a1 8)), (23, nI a1), (22, nY (at' a0 (IntKind.i64.wrap (Int.tdiv a1 8)))), (21, .ep (.s 4831) 1 (0 + Int.toNat (IntKind.i64.wrap (Int.tdiv a1 8))) none (some (.int .u8 (at' a0 (IntKind.i64.wrap (Int.tdiv a1 8)))))), (20, nI (IntKind.i64.wrap (Int.tdiv a1 8))), (19, nI a1), (18, sY (.s 4831) a0), (6, sY (.s 4831) a0), (1, nI a1)], []⟩ ?_
      refine L_idxO (enc := D.int .u8) (l := a0) (iv := IntKind.i64.wrap (Int.tdiv a1 8)) trivial rfl rfl (fun hc409 => ?_)
      refine Ae 0 [.o true (o27_4.drop 10), .c c27_12] ⟨[(27, .ep (.s 4831) 1 (0 + Int.toNat (IntKind.i64.wrap (Int.tdiv a1 8))) none (some (.int .u8 (at' a0 (IntKind.i64.wrap (Int.tdiv a1 8)))))), (26, nY (bXor .u8 (at' a0 (IntKind.i64.wrap (Int.tdiv a1 8))) (sShl .u8 1 (Int.tmod a1 8)))), (25, nY (sShl .u8 1 (Int.tmod a1 8))), (24, nI (Int.tmod a1 8)), (23, nI a1), (22, nY (at' a0 (IntKind.i64.wrap (Int.tdiv a1 8)))), (21, .ep (.s 4831) 1 (0 + Int.toNat (IntKind.i64.wrap (Int.tdiv a1 8))) none (some (.int .u8 (at' a0 (IntKind.i64.wrap (Int.tdiv a1 8)))))), (20, nI (IntKind.i64.wrap (Int.tdiv a1 8))), (19, nI a1), (18, sY (.s 4831) a0), (6, sY (.s 4831) a0), (1, nI a1)], []⟩ ?_
      refine L_sto (p := nY (bXor .u8 (at' a0 (IntKind.i64.wrap (Int.tdiv a1 8))) (sShl .u8 1 (Int.tmod a1 8)))) (d := .int .u8 (bXor .u8 (at' a0 (IntKind.i64.wrap (Int.tdiv a1 8))) (sShl .u8 1 (Int.tmod a1 8)))) trivial rfl rfl rfl (of_decide_eq_true (by kernel_rfl)) rfl ?_
      refine Av 1 [.c c27_12] ⟨[(6, .sl (.s 4831) 1 0 (updEs none (.int .u8 (bXor .u8 (at' a0 (IntKind.i64.wrap (Int.tdiv a1 8))) (sShl .u8 1 (Int.tmod a1 8)))) (List.map (D.int .u8) a0) (0 + Int.toNat (IntKind.i64.wrap (Int.tdiv a1 8)))))], []⟩ ?_
      refine L_rw (fun z => ⟨[(6, .sl (.s 4831) 1 0 z)], []⟩) (b := List.map (D.int .u8) (a0.set (Int.toNat (IntKind.i64.wrap (Int.tdiv a1 8))) (bXor .u8 (at' a0 (IntKind.i64.wrap (Int.tdiv a1 8))) (sShl .u8 1 (Int.tmod a1 8))))) (by rw [Nat.zero_add]; exact set_map) ?_
      refine Avk 7 [] .ret ⟨[(5, nI 0), (4, sY (.s 4831) (a0.set (Int.toNat (IntKind.i64.wrap (Int.tdiv a1 8))) (bXor .u8 (at' a0 (IntKind.i64.wrap (Int.tdiv a1 8))) (sShl .u8 1 (Int.tmod a1 8)))))], []⟩ ?_
      exact L_ret
/-- thrum/thrumref04.More. -/
def en_thrumref04_More (v : Int) : PV := nW v
def o30_0 : List AOper := [⟨some 4, none, 0, .mov (.c (.d (.int .u32 0)))⟩]
def o30_1 : List AOper := [mv 9 100 0, ⟨some 10, none, 101, .un .xor (.t 9)⟩, mv 5 102 10]
def o30_2 : List AOper := [mv 11 200 1, ln 12 201 11, mi 13 202 0]
def o30_3 : List AOper := [bi 14 300 .lss 13 12]
def o30_4 : List AOper := [⟨some 15, none, 400, .idxA 1 (.t 11) (.t 13)⟩, ld 16 401 15, mv 7 402 16]
def o30_5 : List AOper := [mv 17 500 5, mv 18 501 7, ⟨some 19, none, 502, .convI .u32 (.t 18)⟩, bi 20 503 .xor 17 19, mv 5 504 20]
def o30_6 : List AOper := [mi 21 600 0]
def o30_7 : List AOper := [bc 22 700 .lss 21 8]
def o30_8 : List AOper := [mv 23 800 5, ⟨some 24, none, 801, .bin .and .int (.t 23) (.c (.d (.int .u32 1)))⟩, mv 8 802 24]
def o30_9 : List AOper := [mv 25 900 5, ⟨some 26, none, 901, .bin .shr .int (.t 25) (.c (.d (.int .u64 1)))⟩, mv 5 902 26]
def o30_10 : List AOper := [mv 27 1000 8, ⟨some 28, none, 1001, .bin .eql .int (.t 27) (.c (.d (.int .u32 1)))⟩]
def o30_11 : List AOper := [mv 29 1100 5, ⟨some 30, none, 1101, .bin .xor .int (.t 29) (.c (.d (.int .u32 3988292384)))⟩, mv 5 1102 30]
def o30_12 : List AOper := [bc 31 1200 .add 21 1, mv 21 1201 31]
def o30_13 : List AOper := [bc 32 1300 .add 13 1, mv 13 1301 32]
def o30_14 : List AOper := [mv 33 1400 5, ⟨some 34, none, 1401, .un .xor (.t 33)⟩, mv 4 1402 34]
def c30_6 : AC := .cond (.t 14) .skip (.exit 0)
def c30_13 : AC := .cond (.t 22) .skip (.exit 2)
def c30_19 : AC := .cond (.t 28) (.reg o30_11) .skip
def c30_24 : AC := .reg o30_12
def c30_25 : AC := .seq (.block 3 (.seq (.reg o30_8) (.seq (.reg o30_9) (.seq (.reg o30_10) c30_19)))) c30_24
def c30_27 : AC := .seq (.reg o30_7) (.seq c30_13 c30_25)
def c30_31 : AC := .seq (.reg o30_5) (.seq (.reg o30_6) (.block 2 (.loop c30_27)))
def c30_34 : AC := .reg o30_13
def c30_35 : AC := .seq (.block 1 (.seq (.reg o30_4) c30_31)) c30_34
def c30_37 : AC := .seq (.reg o30_3) (.seq c30_6 c30_35)
def c30_39 : AC := .block 0 (.loop c30_37)
def c30_43 : AC := .seq (.reg o30_14) .ret
def c30_46 : AC := .seq (.reg o30_0) (.seq (.reg o30_1) (.seq (.seq (.reg o30_2) c30_39) c30_43))
theorem fn30 : fnA Try.prog 30 = some (35, [.t 4], c30_46) := by kernel_rfl
def q_ok_thrumref04_More_l1_ok (a1 : List Int) (x0 : Int) (x0_ : Int) (x1_ : Int) (v : Int) : Prop := (fun v => go Try.prog 35 (PostN (.exit 2) (fun x : Int => ⟨[(5, nW x), (13, nI x0), (12, nI (a1.length : Int)), (11, lY a1)], []⟩) v) [.l c30_27] .norm ⟨[(21, nI x0_), (5, nW x1_), (13, nI x0), (12, nI (a1.length : Int)), (11, lY a1)], []⟩) v
theorem ok_thrumref04_More_l1_ok (a1 : List Int) (x0 : Int) (x0_ : Int) (x1_ : Int) : Ok (M_thrumref04_More_l1 a1 x0 x0_ x1_) (q_ok_thrumref04_More_l1_ok a1 x0 x0_ x1_) := by
  refine M_thrumref04_More_l1.partial_correctness a1 x0 (q_ok_thrumref04_More_l1_ok a1 x0) ?_ x0_ x1_
  clear x0_ x1_
  intro f' IH x0_ x1_
  refine okI ?_
  unfold q_ok_thrumref04_More_l1_ok at *
  refine Av 1 [.c c30_27, .l c30_27] ⟨[(21, nI x0_), (5, nW x1_), (13, nI x0), (12, nI (a1.length : Int)), (11, lY a1)], []⟩ ?_
  refine Av 5 [.c c30_13, .c c30_25, .l c30_27] ⟨[(22, bB (decide (x0_ < 8))), (21, nI x0_), (5, nW x1_), (13, nI x0), (12, nI (a1.length : Int)), (11, lY a1)], []⟩ ?_
  refine L_split 22 rfl (fun _ => ?_) (fun _ => ?_)
  · refine Av 21 [.c c30_19, .b 3, .c c30_24, .l c30_27] ⟨[(28, bB ((bAnd .u32 x1_ 1) == 1)), (5, nW (sShr .u32 x1_ 1)), (21, nI x0_), (13, nI x0), (12, nI (a1.length : Int)), (11, lY a1)], []⟩ ?_
    refine L_split 28 decE (fun _ => ?_) (fun _ => ?_)
    · refine Av 11 [.l c30_27] ⟨[(21, nI (IntKind.i64.wrap (x0_ + 1))), (5, nW (bXor .u32 (sShr .u32 x1_ 1) 3988292384)), (13, nI x0), (12, nI (a1.length : Int)), (11, lY a1)], []⟩ ?_
      exact L_again (IH (IntKind.i64.wrap (x0_ + 1)) (bXor .u32 (sShr .u32 x1_ 1) 3988292384))
    · refine Av 7 [.l c30_27] ⟨[(21, nI (IntKind.i64.wrap (x0_ + 1))), (5, nW (sShr .u32 x1_ 1)), (13, nI x0), (12, nI (a1.length : Int)), (11, lY a1)], []⟩ ?_
      exact L_again (IH (IntKind.i64.wrap (x0_ + 1)) (sShr .u32 x1_ 1))
  · refine Avk 4 [] (.exit 2) ⟨[(5, nW x1_), (13, nI x0), (12, nI (a1.length : Int)), (11, lY a1)], []⟩ ?_
    exact L_end
def q_ok_thrumref04_More_l0_ok (a1 : List Int) (x0 : Int) (x1 : Int) (v : Int) : Prop := (fun v => go Try.prog 35 (PostN (.exit 0) (fun x : Int => ⟨[(5, nW x)], []⟩) v) [.l c30_37] .norm ⟨[(13, nI x0), (12, nI (a1.length : Int)), (11, lY a1), (5, nW x1)], []⟩) v
theorem ok_thrumref04_More_l0_ok (a1 : List Int) (x0 : Int) (x1 : Int) : Ok (M_thrumref04_More_l0 a1 x0 x1) (q_ok_thrumref04_More_l0_ok a1 x0 x1) := by
  refine M_thrumref04_More_l0.partial_correctness a1 (q_ok_thrumref04_More_l0_ok a1) ?_ x0 x1
  clear x0 x1
  intro f' IH x0 x1
  refine okI ?_
  unfold q_ok_thrumref04_More_l0_ok at *
  refine Av 1 [.c c30_37, .l c30_37] ⟨[(13, nI x0), (12, nI (a1.length : Int)), (11, lY a1), (5, nW x1)], []⟩ ?_
  refine Av 5 [.c c30_6, .c c30_35, .l c30_37] ⟨[(14, bB (decide (x0 < (a1.length : Int)))), (13, nI x0), (12, nI (a1.length : Int)), (11, lY a1), (5, nW x1)], []⟩ ?_
  refine L_split 14 rfl (fun _ => ?_) (fun _ => ?_)
  · refine Av 6 [.o false o30_4, .c c30_31, .b 1, .c c30_34, .l c30_37] ⟨[(13, nI x0), (12, nI (a1.length : Int)), (11, lY a1), (5, nW x1)], []⟩ ?_
    refine L_idxD (enc := D.int .u8) (l := a1) (iv := x0) trivial rfl rfl (fun _ => rfl) (fun hc400 => ?_)
    refine Av 17 [.l c30_27, .b 2, .b 1, .c c30_34, .l c30_37] ⟨[(21, nI 0), (5, nW (bXor .u32 x1 (IntKind.u32.wrap (at' a1 x0)))), (13, nI x0), (12, nI (a1.length : Int)), (11, lY a1)], []⟩ ?_
    refine L_piece (fs := [.l c30_27]) (ks := [.b 2, .b 1, .c c30_34, .l c30_37]) (ok_thrumref04_More_l1_ok a1 x0 0 (bXor .u32 x1 (IntKind.u32.wrap (at' a1 x0)))) (fun j3 => ?_)
    refine Av 6 [.l c30_37] ⟨[(13, nI (IntKind.i64.wrap (x0 + 1))), (5, nW j3), (12, nI (a1.length : Int)), (11, lY a1)], []⟩ ?_
    exact L_again (IH (IntKind.i64.wrap (x0 + 1)) j3)
  · refine Avk 4 [] (.exit 0) ⟨[(5, nW x1)], []⟩ ?_
    exact L_end
theorem ok_thrumref04_More (a0 : Int) (a1 : List Int) : ∀ v, M_thrumref04_More a0 a1 = some v → EvF Try.prog 30 [.int .u32 a0, .lst (List.map (D.int .u8) a1)] (en_thrumref04_More v) := by
  intro v hv
  refine EvF_go fn30 (Nat.le_of_ble_eq_true rfl) ?_
  suffices h : Ok (M_thrumref04_More a0 a1) fun v => go Try.prog 35 (Fnl [.t 4] (en_thrumref04_More v) []) [.c c30_46] .norm (initSt (List.map PV.d [.int .u32 a0, .lst (List.map (D.int .u8) a1)]) []) from h v hv
  unfold M_thrumref04_More
  refine Al 14 [.o false (o30_2.drop 1), .c c30_39, .c c30_43] .norm (fun y1 : Int => ⟨[(11, lY a1), (5, nW y1)], []⟩) (fun y1 => ?_)
  refine L_len (enc := D.int .u8) (l := a1) trivial rfl ?_
  refine Av 4 [.l c30_37, .b 0, .c c30_43] ⟨[(13, nI 0), (12, nI (a1.length : Int)), (11, lY a1), (5, nW y1)], []⟩ ?_
  refine L_piece (fs := [.l c30_37]) (ks := [.b 0, .c c30_43]) (ok_thrumref04_More_l0_ok a1 0 y1) (fun j4 => ?_)
  refine Avk 8 [] .ret ⟨[(4, nW (bXor .u32 (if IntKind.signed .u32 then -1 else IntKind.max .u32) j4))], []⟩ ?_
  exact L_ret
/-- thrum/thrumref04.Sum. -/
def en_thrumref04_Sum (v : Int) : PV := nW v
def o28_0 : List AOper := [⟨some 2, none, 0, .mov (.c (.d (.int .u32 0)))⟩]
def o28_1 : List AOper := [mv 3 100 0, cl' 4 101 30 [.c (.d (.int .u32 0)), .t 3], mv 2 102 4]
def c28_4 : AC := .seq (.reg o28_0) (.seq (.reg o28_1) .ret)
theorem fn28 : fnA Try.prog 28 = some (5, [.t 2], c28_4) := by kernel_rfl
theorem ok_thrumref04_Sum (a0 : List Int) : ∀ v, M_thrumref04_Sum a0 = some v → EvF Try.prog 28 [.lst (List.map (D.int .u8) a0)] (en_thrumref04_Sum v) := by
  intro v hv
  refine EvF_go fn28 (Nat.le_of_ble_eq_true rfl) ?_
  suffices h : Ok (M_thrumref04_Sum a0) fun v => go Try.prog 5 (Fnl [.t 2] (en_thrumref04_Sum v) []) [.c c28_4] .norm (initSt (List.map PV.d [.lst (List.map (D.int .u8) a0)]) []) from h v hv
  unfold M_thrumref04_Sum
  refine Av 7 [.o false (o28_1.drop 1), .c .ret] ⟨[(3, lY a0)], []⟩ ?_
  refine L_call (ok_thrumref04_More 0 a0) trivial rfl (fun _ => rfl) (fun _ => trivial) (fun r1 => ?_)
  refine Avk 3 [] .ret ⟨[(2, nW r1)], []⟩ ?_
  exact L_ret
/-- thrum/thrumref03.Same. -/
def en_thrumref03_Same (v : Bool) : PV := bB v
def o20_0 : List AOper := [mb 4 0 false]
def o20_1 : List AOper := [mv 5 100 0, ⟨some 6, none, 101, .convS (.t 5)⟩, mv 7 102 1, ⟨some 8, none, 103, .convS (.t 7)⟩, ⟨some 9, none, 104, .bin .eql .str (.t 6) (.t 8)⟩, mv 4 105 9]
def c20_4 : AC := .seq (.reg o20_0) (.seq (.reg o20_1) .ret)
theorem fn20 : fnA Try.prog 20 = some (10, [.t 4], c20_4) := by kernel_rfl
theorem ok_thrumref03_Same (a0 : List Int) (a1 : List Int) : ∀ v, M_thrumref03_Same a0 a1 = some v → EvF Try.prog 20 [.lst (List.map (D.int .u8) a0), .lst (List.map (D.int .u8) a1)] (en_thrumref03_Same v) := by
  intro v hv
  refine EvF_go fn20 (Nat.le_of_ble_eq_true rfl) ?_
  suffices h : Ok (M_thrumref03_Same a0 a1) fun v => go Try.prog 10 (Fnl [.t 4] (en_thrumref03_Same v) []) [.c c20_4] .norm (initSt (List.map PV.d [.lst (List.map (D.int .u8) a0), .lst (List.map (D.int .u8) a1)]) []) from h v hv
  unfold M_thrumref03_Same
  refine Av 7 [.o false (o20_1.drop 1), .c .ret] ⟨[(5, lY a0), (1, lY a1)], []⟩ ?_
  refine L_convS (l := a0) trivial (.inl rfl) ?_
  refine Av 1 [.o false (o20_1.drop 3), .c .ret] ⟨[(7, lY a1), (6, .d (.str (strB a0)))], []⟩ ?_
  refine L_convS (l := a1) trivial (.inl rfl) ?_
  refine Avk 4 [] .ret ⟨[(4, bB ((strB a0).toList == (strB a1).toList))], []⟩ ?_
  exact L_ret
/-- thrum/thrumlaw04.CrcSums. -/
def en_thrumlaw04_CrcSums (v : Bool) : PV := bB v
def o6_0 : List AOper := [mb 6 0 false]
def o6_1 : List AOper := [cl' 13 100 24 [], mv 7 101 13]
def o6_2 : List AOper := [mv 14 200 7, ⟨some 15, none, 201, .un .not (.t 14)⟩]
def o6_3 : List AOper := [mb 6 300 false]
def o6_4 : List AOper := [mv 16 400 0, ln 17 401 16, bc 18 402 .gtr 17 5000]
def o6_5 : List AOper := [mv 19 500 7, mv 6 501 19]
def o6_6 : List AOper := [mv 20 600 0, ⟨some 21, none, 601, .app 5 1 1 (.c .nils) (.t 20)⟩, mv 8 602 21]
def o6_7 : List AOper := [mv 23 700 0, mv 24 701 2, cl' 25 702 26 [.t 23, .t 24], mv 22 703 25, xt 26 704 22 0, xt 27 705 22 1, mv 9 706 26, mv 10 707 27]
def o6_8 : List AOper := [mv 29 800 0, mv 30 801 2, cl' 31 802 27 [.t 29, .t 30], mv 28 803 31, xt 32 804 28 0, xt 33 805 28 1, mv 11 806 32, mv 12 807 33]
def o6_9 : List AOper := [mv 34 900 7, mv 35 901 34, gv 36 35 true 902 0, ⟨some 37, some (35, true), 903, .call 25 [.t 36]⟩, gv 38 35 true 904 0, ⟨some 39, some (35, true), 905, .call 28 [.t 38]⟩, ⟨some 40, some (35, true), 906, .bin .eql .int (.t 37) (.t 39)⟩, pk 41 907 35 40 false, mv 42 908 41, gv 43 42 true 909 1, gv 44 42 true 910 0, ⟨some 45, some (42, true), 911, .call 29 [.t 43, .t 44]⟩, gv 46 42 true 912 1, gv 47 42 true 913 0, ⟨some 48, some (42, true), 914, .call 30 [.t 46, .t 47]⟩, ⟨some 49, some (42, true), 915, .bin .eql .int (.t 45) (.t 48)⟩, pk 50 916 42 49 false, mv 51 917 50, gv 52 51 true 918 9, gv 53 51 true 919 11, ⟨some 54, some (51, true), 920, .call 20 [.t 52, .t 53]⟩, pk 55 921 51 54 false, mv 56 922 55, gv 57 56 true 923 10, gv 58 56 true 924 12, ⟨some 59, some (56, true), 925, .bin .eql .int (.t 57) (.t 58)⟩, pk 60 926 56 59 false, mv 61 927 60, gv 62 61 true 928 0, gv 63 61 true 929 8, ⟨some 64, some (61, true), 930, .call 20 [.t 62, .t 63]⟩, pk 65 931 61 64 false, mv 6 932 65]
def o6_9t2_8 : List AOper := (o6_9.drop 2).take 6
def o6_9t9_17 : List AOper := (o6_9.drop 9).take 8
def o6_9t18_22 : List AOper := (o6_9.drop 18).take 4
def o6_9t23_27 : List AOper := (o6_9.drop 23).take 4
def o6_9t28_32 : List AOper := (o6_9.drop 28).take 4
def c6_7 : AC := .cond (.t 15) (.seq (.reg o6_3) .ret) .skip
def c6_14 : AC := .cond (.t 18) (.seq (.reg o6_5) .ret) .skip
def c6_21 : AC := .seq (.reg o6_9) .ret
def c6_22 : AC := .seq (.reg o6_8) c6_21
def c6_23 : AC := .seq (.reg o6_7) c6_22
def c6_24 : AC := .seq (.reg o6_6) c6_23
def c6_25 : AC := .seq (.seq (.reg o6_4) c6_14) c6_24
def c6_26 : AC := .seq (.seq (.reg o6_2) c6_7) c6_25
def c6_28 : AC := .seq (.reg o6_0) (.seq (.reg o6_1) c6_26)
theorem fn6 : fnA Try.prog 6 = some (66, [.t 6], c6_28) := by kernel_rfl
theorem ok_thrumlaw04_CrcSums (a0 : List Int) (a1 : Int) (a2 : Int) : ∀ v, M_thrumlaw04_CrcSums a0 a1 a2 = some v → EvF Try.prog 6 [.lst (List.map (D.int .u8) a0), .int .u32 a1, .int .i64 a2] (en_thrumlaw04_CrcSums v) := by
  intro v hv
  refine EvF_go fn6 (Nat.le_of_ble_eq_true rfl) ?_
  suffices h : Ok (M_thrumlaw04_CrcSums a0 a1 a2) fun v => go Try.prog 66 (Fnl [.t 6] (en_thrumlaw04_CrcSums v) []) [.c c6_28] .norm (initSt (List.map PV.d [.lst (List.map (D.int .u8) a0), .int .u32 a1, .int .i64 a2]) []) from h v hv
  unfold M_thrumlaw04_CrcSums
  refine Av 6 [.o false o6_1, .c c6_26] ⟨[(0, lY a0), (1, nW a1), (2, nI a2)], []⟩ ?_
  refine L_call (ok_thrumlaw04_live) trivial rfl (fun _ => rfl) (fun _ => trivial) (fun r1 => ?_)
  refine Av 8 [.c c6_7, .c c6_25] ⟨[(15, bB (!r1)), (7, bB r1), (0, lY a0), (1, nW a1), (2, nI a2)], []⟩ ?_
  refine L_split 15 decF (fun _ => ?_) (fun _ => ?_)
  · refine Avk 7 [] .ret ⟨[(6, bB false)], []⟩ ?_
    exact L_ret
  · refine Av 6 [.o false (o6_4.drop 1), .c c6_14, .c c6_24] ⟨[(16, lY a0), (7, bB r1), (0, lY a0), (1, nW a1), (2, nI a2)], []⟩ ?_
    refine L_len (enc := D.int .u8) (l := a0) trivial rfl ?_
    refine Av 2 [.c c6_14, .c c6_24] ⟨[(18, bB (decide ((a0.length : Int) > 5000))), (7, bB r1), (0, lY a0), (1, nW a1), (2, nI a2)], []⟩ ?_
    refine L_split 18 rfl (fun _ => ?_) (fun _ => ?_)
    · refine Avk 8 [] .ret ⟨[(6, bB r1)], []⟩ ?_
      exact L_ret
    · refine Av 5 [.o false (o6_6.drop 1), .c c6_23] ⟨[(20, lY a0), (7, bB r1), (0, lY a0), (1, nW a1), (2, nI a2)], []⟩ ?_
      refine L_appN (enc := D.int .u8) (l2 := a0) trivial rfl rfl (fun _ => rfl) (fun _ => ?_)
      refine Av 6 [.o false (o6_7.drop 2), .c c6_22] ⟨[(24, nI a2), (23, lY a0), (8, sY (.s 9631) a0), (7, bB r1), (0, lY a0), (1, nW a1), (2, nI a2)], []⟩ ?_
      refine L_call (ok_crc_Turn a0 a2) trivial rfl (fun _ => rfl) (fun _ => ⟨(flat_map_of fun _ => trivial), trivial, trivial⟩) (fun r2 => ?_)
      refine Av 10 [.o false (o6_8.drop 2), .c c6_21] ⟨[(30, nI a2), (29, lY a0), (10, nI r2.2), (9, sY (.s 11232) r2.1), (8, sY (.s 9631) a0), (7, bB r1), (0, lY a0), (1, nW a1)], []⟩ ?_
      refine L_call (ok_thrumref04_Turn a0 a2) trivial rfl (fun _ => rfl) (fun _ => ⟨(flat_map_of fun _ => trivial), trivial, trivial⟩) (fun r3 => ?_)
      refine Av 10 [.o false (o6_9.drop 2), .c .ret] ⟨[(35, bB r1), (12, nI r3.2), (11, sY (.s 12832) r3.1), (10, nI r2.2), (9, sY (.s 11232) r2.1), (8, sY (.s 9631) a0), (0, lY a0), (1, nW a1)], []⟩ ?_
      refine L_take 6 o6_9t2_8 (o6_9.drop 8) ?_
      refine L_join [.o false o6_9t2_8] [.o false (o6_9.drop 8), .c .ret] (fun x : Bool => ⟨[(41, bB x), (12, nI r3.2), (11, sY (.s 12832) r3.1), (10, nI r2.2), (9, sY (.s 11232) r2.1), (8, sY (.s 9631) a0), (0, lY a0), (1, nW a1)], []⟩) ?_ (fun j6 => ?_)
      · refine L_split 35 decT (fun _ => ?_) (fun _ => ?_)
        · refine Av 1 [.o false (o6_9t2_8.drop 1)] ⟨[(36, lY a0), (35, bB true), (12, nI r3.2), (11, sY (.s 12832) r3.1), (10, nI r2.2), (9, sY (.s 11232) r2.1), (8, sY (.s 9631) a0), (0, lY a0), (1, nW a1)], []⟩ ?_
          refine L_call (ok_crc_Sum a0) rfl rfl (fun _ => rfl) (fun _ => trivial) (fun r4 => ?_)
          refine Av 1 [.o false (o6_9t2_8.drop 3)] ⟨[(38, lY a0), (35, bB true), (37, nW r4), (12, nI r3.2), (11, sY (.s 12832) r3.1), (10, nI r2.2), (9, sY (.s 11232) r2.1), (8, sY (.s 9631) a0), (0, lY a0), (1, nW a1)], []⟩ ?_
          refine L_call (ok_thrumref04_Sum a0) rfl rfl (fun _ => rfl) (fun _ => trivial) (fun r5 => ?_)
          refine Av 3 [] ⟨[(41, bB (r4 == r5)), (12, nI r3.2), (11, sY (.s 12832) r3.1), (10, nI r2.2), (9, sY (.s 11232) r2.1), (8, sY (.s 9631) a0), (0, lY a0), (1, nW a1)], []⟩ ?_
          exact L_end
        · refine Av 7 [] ⟨[(41, bB false), (12, nI r3.2), (11, sY (.s 12832) r3.1), (10, nI r2.2), (9, sY (.s 11232) r2.1), (8, sY (.s 9631) a0), (0, lY a0), (1, nW a1)], []⟩ ?_
          exact L_end
      · refine Av 1 [.o false (o6_9.drop 9), .c .ret] ⟨[(42, bB j6), (12, nI r3.2), (11, sY (.s 12832) r3.1), (10, nI r2.2), (9, sY (.s 11232) r2.1), (8, sY (.s 9631) a0), (0, lY a0), (1, nW a1)], []⟩ ?_
        refine L_take 8 o6_9t9_17 (o6_9.drop 17) ?_
        refine L_join [.o false o6_9t9_17] [.o false (o6_9.drop 17), .c .ret] (fun x : Bool => ⟨[(50, bB x), (12, nI r3.2), (11, sY (.s 12832) r3.1), (10, nI r2.2), (9, sY (.s 11232) r2.1), (8, sY (.s 9631) a0), (0, lY a0)], []⟩) ?_ (fun j9 => ?_)
        · refine L_split 42 decT (fun _ => ?_) (fun _ => ?_)
          · refine Av 2 [.o false (o6_9t9_17.drop 2)] ⟨[(44, lY a0), (42, bB true), (43, nW a1), (12, nI r3.2), (11, sY (.s 12832) r3.1), (10, nI r2.2), (9, sY (.s 11232) r2.1), (8, sY (.s 9631) a0), (0, lY a0), (1, nW a1)], []⟩ ?_
            refine L_call (ok_crc_More a1 a0) rfl rfl (fun _ => rfl) (fun _ => trivial) (fun r7 => ?_)
            refine Av 2 [.o false (o6_9t9_17.drop 5)] ⟨[(47, lY a0), (42, bB true), (46, nW a1), (45, nW r7), (12, nI r3.2), (11, sY (.s 12832) r3.1), (10, nI r2.2), (9, sY (.s 11232) r2.1), (8, sY (.s 9631) a0), (0, lY a0)], []⟩ ?_
            refine L_call (ok_thrumref04_More a1 a0) rfl rfl (fun _ => rfl) (fun _ => trivial) (fun r8 => ?_)
            refine Av 3 [] ⟨[(50, bB (r7 == r8)), (12, nI r3.2), (11, sY (.s 12832) r3.1), (10, nI r2.2), (9, sY (.s 11232) r2.1), (8, sY (.s 9631) a0), (0, lY a0)], []⟩ ?_
            exact L_end
          · refine Av 9 [] ⟨[(50, bB false), (12, nI r3.2), (11, sY (.s 12832) r3.1), (10, nI r2.2), (9, sY (.s 11232) r2.1), (8, sY (.s 9631) a0), (0, lY a0)], []⟩ ?_
            exact L_end
        · refine Av 1 [.o false (o6_9.drop 18), .c .ret] ⟨[(51, bB j9), (12, nI r3.2), (11, sY (.s 12832) r3.1), (10, nI r2.2), (9, sY (.s 11232) r2.1), (8, sY (.s 9631) a0), (0, lY a0)], []⟩ ?_
          refine L_take 4 o6_9t18_22 (o6_9.drop 22) ?_
          refine L_join [.o false o6_9t18_22] [.o false (o6_9.drop 22), .c .ret] (fun x : Bool => ⟨[(55, bB x), (12, nI r3.2), (10, nI r2.2), (8, sY (.s 9631) a0), (0, lY a0)], []⟩) ?_ (fun j11 => ?_)
          · refine L_split 51 decT (fun _ => ?_) (fun _ => ?_)
            · refine Av 2 [.o false (o6_9t18_22.drop 2)] ⟨[(53, sY (.s 12832) r3.1), (51, bB true), (52, sY (.s 11232) r2.1), (12, nI r3.2), (10, nI r2.2), (8, sY (.s 9631) a0), (0, lY a0)], []⟩ ?_
              refine L_call (ok_thrumref03_Same r2.1 r3.1) rfl rfl (fun _ => rfl) (fun _ => trivial) (fun r10 => ?_)
              refine Av 2 [] ⟨[(55, bB r10), (12, nI r3.2), (10, nI r2.2), (8, sY (.s 9631) a0), (0, lY a0)], []⟩ ?_
              exact L_end
            · refine Av 5 [] ⟨[(55, bB false), (12, nI r3.2), (10, nI r2.2), (8, sY (.s 9631) a0), (0, lY a0)], []⟩ ?_
              exact L_end
          · refine Av 1 [.o false (o6_9.drop 23), .c .ret] ⟨[(56, bB j11), (12, nI r3.2), (10, nI r2.2), (8, sY (.s 9631) a0), (0, lY a0)], []⟩ ?_
            refine L_take 4 o6_9t23_27 (o6_9.drop 27) ?_
            refine L_join [.o false o6_9t23_27] [.o false (o6_9.drop 27), .c .ret] (fun x : Bool => ⟨[(60, bB x), (8, sY (.s 9631) a0), (0, lY a0)], []⟩) ?_ (fun j12 => ?_)
            · refine L_split 56 decT (fun _ => ?_) (fun _ => ?_)
              · refine Av 5 [] ⟨[(60, bB (r2.2 == r3.2)), (8, sY (.s 9631) a0), (0, lY a0)], []⟩ ?_
                exact L_end
              · refine Av 5 [] ⟨[(60, bB false), (8, sY (.s 9631) a0), (0, lY a0)], []⟩ ?_
                exact L_end
            · refine Av 1 [.o false (o6_9.drop 28), .c .ret] ⟨[(61, bB j12), (8, sY (.s 9631) a0), (0, lY a0)], []⟩ ?_
              refine L_take 4 o6_9t28_32 (o6_9.drop 32) ?_
              refine L_join [.o false o6_9t28_32] [.o false (o6_9.drop 32), .c .ret] (fun x : Bool => ⟨[(65, bB x)], []⟩) ?_ (fun j14 => ?_)
              · refine L_split 61 decT (fun _ => ?_) (fun _ => ?_)
                · refine Av 2 [.o false (o6_9t28_32.drop 2)] ⟨[(63, sY (.s 9631) a0), (61, bB true), (62, lY a0)], []⟩ ?_
                  refine L_call (ok_thrumref03_Same a0 a0) rfl rfl (fun _ => rfl) (fun _ => trivial) (fun r13 => ?_)
                  refine Av 2 [] ⟨[(65, bB r13)], []⟩ ?_
                  exact L_end
                · refine Av 5 [] ⟨[(65, bB false)], []⟩ ?_
                  exact L_end
              · refine Avk 3 [] .ret ⟨[(6, bB j14)], []⟩ ?_
                exact L_ret
/-- thrum/thrumlaw04.CrcParts. -/
def en_thrumlaw04_CrcParts (v : Bool) : PV := bB v
def o7_0 : List AOper := [mb 6 0 false]
def o7_1 : List AOper := [cl' 13 100 24 [], mv 7 101 13]
def o7_2 : List AOper := [mv 14 200 7, ⟨some 15, none, 201, .un .not (.t 14)⟩]
def o7_3 : List AOper := [mb 6 300 false]
def o7_4 : List AOper := [mv 16 400 0, ln 17 401 16, mv 18 402 1, ln 19 403 18, bi 20 404 .add 17 19, bc 21 405 .gtr 20 5000]
def o7_5 : List AOper := [mv 22 500 7, mv 6 501 22]
def o7_6 : List AOper := [mv 23 600 0, ⟨some 24, none, 601, .app 5 1 1 (.c .nils) (.t 23)⟩, mv 25 602 1, ⟨some 26, none, 603, .app 5 1 1 (.t 24) (.t 25)⟩, mv 8 604 26]
def o7_7 : List AOper := [mv 28 700 8, mv 29 701 2, cl' 30 702 26 [.t 28, .t 29], mv 27 703 30, xt 31 704 27 0, xt 32 705 27 1, mv 9 706 31, mv 10 707 32]
def o7_8 : List AOper := [mv 34 800 9, mv 35 801 2, cl' 36 802 26 [.t 34, .t 35], mv 33 803 36, xt 37 804 33 0, xt 38 805 33 1, mv 11 806 37, mv 12 807 38]
def o7_9 : List AOper := [mv 39 900 10, mv 40 901 12, bi 41 902 .neq 39 40, mv 42 903 41, gv 43 42 true 904 8, ⟨some 44, some (42, true), 905, .len (.t 43)⟩, ⟨some 45, some (42, true), 906, .bin .gtr .int (.t 44) (.c (.d (.int .i64 0)))⟩, pk 46 907 42 45 false, mv 47 908 46, gv 48 47 false 909 10, ⟨some 49, some (47, false), 910, .bin .eql .int (.t 48) (.c (.d (.int .i64 0)))⟩, gv 50 47 false 911 49, gv 51 50 true 912 11, gv 52 50 true 913 8, ⟨some 53, some (50, true), 914, .call 20 [.t 51, .t 52]⟩, ⟨some 54, some (50, true), 915, .un .not (.t 53)⟩, ⟨some 55, some (47, false), 916, .pick (.t 50) (.t 54) (.c (.d (.bool false)))⟩, pz 56 917 47 55 true]
def o7_10 : List AOper := [mb 6 1000 false]
def o7_11 : List AOper := [mv 57 1100 7, mv 58 1101 57, gv 59 58 true 1102 0, ⟨some 60, some (58, true), 1103, .call 25 [.t 59]⟩, gv 61 58 true 1104 1, ⟨some 62, some (58, true), 1105, .call 29 [.t 60, .t 61]⟩, gv 63 58 true 1106 8, ⟨some 64, some (58, true), 1107, .call 25 [.t 63]⟩, ⟨some 65, some (58, true), 1108, .bin .eql .int (.t 62) (.t 64)⟩, pk 66 1109 58 65 false, mv 67 1110 66, ⟨some 68, some (67, true), 1111, .call 25 [.c .nils]⟩, ⟨some 69, some (67, true), 1112, .bin .eql .int (.t 68) (.c (.d (.int .u32 0)))⟩, pk 70 1113 67 69 false, mv 6 1114 70]
def o7_9t4_8 : List AOper := (o7_9.drop 4).take 4
def o7_11t2_10 : List AOper := (o7_11.drop 2).take 8
def o7_11t11_14 : List AOper := (o7_11.drop 11).take 3
def c7_7 : AC := .cond (.t 15) (.seq (.reg o7_3) .ret) .skip
def c7_14 : AC := .cond (.t 21) (.seq (.reg o7_5) .ret) .skip
def c7_24 : AC := .cond (.t 56) (.seq (.reg o7_10) .ret) .skip
def c7_28 : AC := .seq (.reg o7_11) .ret
def c7_29 : AC := .seq (.seq (.reg o7_9) c7_24) c7_28
def c7_30 : AC := .seq (.reg o7_8) c7_29
def c7_31 : AC := .seq (.reg o7_7) c7_30
def c7_32 : AC := .seq (.reg o7_6) c7_31
def c7_33 : AC := .seq (.seq (.reg o7_4) c7_14) c7_32
def c7_34 : AC := .seq (.seq (.reg o7_2) c7_7) c7_33
def c7_36 : AC := .seq (.reg o7_0) (.seq (.reg o7_1) c7_34)
theorem fn7 : fnA Try.prog 7 = some (71, [.t 6], c7_36) := by kernel_rfl
theorem ok_thrumlaw04_CrcParts (a0 : List Int) (a1 : List Int) (a2 : Int) : ∀ v, M_thrumlaw04_CrcParts a0 a1 a2 = some v → EvF Try.prog 7 [.lst (List.map (D.int .u8) a0), .lst (List.map (D.int .u8) a1), .int .i64 a2] (en_thrumlaw04_CrcParts v) := by
  intro v hv
  refine EvF_go fn7 (Nat.le_of_ble_eq_true rfl) ?_
  suffices h : Ok (M_thrumlaw04_CrcParts a0 a1 a2) fun v => go Try.prog 71 (Fnl [.t 6] (en_thrumlaw04_CrcParts v) []) [.c c7_36] .norm (initSt (List.map PV.d [.lst (List.map (D.int .u8) a0), .lst (List.map (D.int .u8) a1), .int .i64 a2]) []) from h v hv
  unfold M_thrumlaw04_CrcParts
  refine Av 6 [.o false o7_1, .c c7_34] ⟨[(0, lY a0), (1, lY a1), (2, nI a2)], []⟩ ?_
  refine L_call (ok_thrumlaw04_live) trivial rfl (fun _ => rfl) (fun _ => trivial) (fun r1 => ?_)
  refine Av 8 [.c c7_7, .c c7_33] ⟨[(15, bB (!r1)), (7, bB r1), (0, lY a0), (1, lY a1), (2, nI a2)], []⟩ ?_
  refine L_split 15 decF (fun _ => ?_) (fun _ => ?_)
  · refine Avk 7 [] .ret ⟨[(6, bB false)], []⟩ ?_
    exact L_ret
  · refine Av 6 [.o false (o7_4.drop 1), .c c7_14, .c c7_32] ⟨[(16, lY a0), (7, bB r1), (0, lY a0), (1, lY a1), (2, nI a2)], []⟩ ?_
    refine L_len (enc := D.int .u8) (l := a0) trivial rfl ?_
    refine Av 1 [.o false (o7_4.drop 3), .c c7_14, .c c7_32] ⟨[(18, lY a1), (17, nI (a0.length : Int)), (7, bB r1), (0, lY a0), (1, lY a1), (2, nI a2)], []⟩ ?_
    refine L_len (enc := D.int .u8) (l := a1) trivial rfl ?_
    refine Av 3 [.c c7_14, .c c7_32] ⟨[(21, bB (decide ((IntKind.i64.wrap ((a0.length : Int) + (a1.length : Int))) > 5000))), (7, bB r1), (0, lY a0), (1, lY a1), (2, nI a2)], []⟩ ?_
    refine L_split 21 rfl (fun _ => ?_) (fun _ => ?_)
    · refine Avk 8 [] .ret ⟨[(6, bB r1)], []⟩ ?_
      exact L_ret
    · refine Av 5 [.o false (o7_6.drop 1), .c c7_31] ⟨[(23, lY a0), (7, bB r1), (0, lY a0), (1, lY a1), (2, nI a2)], []⟩ ?_
      refine L_appN (enc := D.int .u8) (l2 := a0) trivial rfl rfl (fun _ => rfl) (fun _ => ?_)
      refine Av 1 [.o false (o7_6.drop 3), .c c7_31] ⟨[(25, lY a1), (24, sY (.s 9631) a0), (7, bB r1), (0, lY a0), (1, lY a1), (2, nI a2)], []⟩ ?_
      refine L_app (enc := D.int .u8) (l := a0) (l2 := a1) trivial rfl rfl (fun _ => rfl) (fun _ => ?_)
      refine Av 6 [.o false (o7_7.drop 2), .c c7_30] ⟨[(29, nI a2), (28, sY (.s 9663) (a0 ++ a1)), (8, sY (.s 9663) (a0 ++ a1)), (7, bB r1), (0, lY a0), (1, lY a1), (2, nI a2)], []⟩ ?_
      refine L_call (ok_crc_Turn (a0 ++ a1) a2) trivial rfl (fun _ => rfl) (fun _ => ⟨(flat_map_of fun _ => trivial), trivial, trivial⟩) (fun r2 => ?_)
      refine Av 10 [.o false (o7_8.drop 2), .c c7_29] ⟨[(35, nI a2), (34, sY (.s 11232) r2.1), (10, nI r2.2), (8, sY (.s 9663) (a0 ++ a1)), (7, bB r1), (0, lY a0), (1, lY a1)], []⟩ ?_
      refine L_call (ok_crc_Turn r2.1 a2) trivial rfl (fun _ => rfl) (fun _ => ⟨(flat_map_of fun _ => trivial), trivial, trivial⟩) (fun r3 => ?_)
      refine Av 13 [.o false (o7_9.drop 4), .c c7_24, .c c7_28] ⟨[(42, bB (r2.2 != r3.2)), (11, sY (.s 12832) r3.1), (10, nI r2.2), (8, sY (.s 9663) (a0 ++ a1)), (7, bB r1), (0, lY a0), (1, lY a1)], []⟩ ?_
      refine L_take 4 o7_9t4_8 (o7_9.drop 8) ?_
      refine L_join [.o false o7_9t4_8] [.o false (o7_9.drop 8), .c c7_24, .c c7_28] (fun x : Bool => ⟨[(46, bB x), (11, sY (.s 12832) r3.1), (10, nI r2.2), (8, sY (.s 9663) (a0 ++ a1)), (7, bB r1), (0, lY a0), (1, lY a1)], []⟩) ?_ (fun j4 => ?_)
      · refine L_split 42 decNe (fun _ => ?_) (fun _ => ?_)
        · refine Av 1 [.o false (o7_9t4_8.drop 1)] ⟨[(43, sY (.s 9663) (a0 ++ a1)), (42, bB true), (11, sY (.s 12832) r3.1), (10, nI r2.2), (8, sY (.s 9663) (a0 ++ a1)), (7, bB r1), (0, lY a0), (1, lY a1)], []⟩ ?_
          refine L_len (enc := D.int .u8) (l := a0 ++ a1) rfl rfl ?_
          refine Av 3 [] ⟨[(46, bB (decide (((a0 ++ a1).length : Int) > 0))), (11, sY (.s 12832) r3.1), (10, nI r2.2), (8, sY (.s 9663) (a0 ++ a1)), (7, bB r1), (0, lY a0), (1, lY a1)], []⟩ ?_
          exact L_end
        · refine Av 5 [] ⟨[(46, bB false), (11, sY (.s 12832) r3.1), (10, nI r2.2), (8, sY (.s 9663) (a0 ++ a1)), (7, bB r1), (0, lY a0), (1, lY a1)], []⟩ ?_
          exact L_end
      · refine Av 1 [.o false (o7_9.drop 9), .c c7_24, .c c7_28] ⟨[(47, bB j4), (11, sY (.s 12832) r3.1), (10, nI r2.2), (8, sY (.s 9663) (a0 ++ a1)), (7, bB r1), (0, lY a0), (1, lY a1)], []⟩ ?_
        refine L_split 47 decT (fun _ => ?_) (fun _ => ?_)
        · refine Avk 17 [] .ret ⟨[(6, bB false)], []⟩ ?_
          exact L_ret
        · refine Av 3 [.o false (o7_9.drop 12), .c c7_24, .c c7_28] ⟨[(50, bB (r2.2 == 0)), (47, bB false), (11, sY (.s 12832) r3.1), (8, sY (.s 9663) (a0 ++ a1)), (7, bB r1), (0, lY a0), (1, lY a1)], []⟩ ?_
          refine L_split 50 decE (fun _ => ?_) (fun _ => ?_)
          · refine Av 2 [.o false (o7_9.drop 14), .c c7_24, .c c7_28] ⟨[(52, sY (.s 9663) (a0 ++ a1)), (50, bB true), (51, sY (.s 12832) r3.1), (47, bB false), (8, sY (.s 9663) (a0 ++ a1)), (7, bB r1), (0, lY a0), (1, lY a1)], []⟩ ?_
            refine L_call (ok_thrumref03_Same r3.1 (a0 ++ a1)) rfl rfl (fun _ => rfl) (fun _ => trivial) (fun r5 => ?_)
            refine Av 4 [.c c7_24, .c c7_28] ⟨[(56, bB (!r5)), (8, sY (.s 9663) (a0 ++ a1)), (7, bB r1), (0, lY a0), (1, lY a1)], []⟩ ?_
            refine L_split 56 decF (fun _ => ?_) (fun _ => ?_)
            · refine Avk 7 [] .ret ⟨[(6, bB false)], []⟩ ?_
              exact L_ret
            · refine Av 6 [.o false (o7_11.drop 2), .c .ret] ⟨[(58, bB r1), (8, sY (.s 9663) (a0 ++ a1)), (0, lY a0), (1, lY a1)], []⟩ ?_
              refine L_take 8 o7_11t2_10 (o7_11.drop 10) ?_
              refine L_join [.o false o7_11t2_10] [.o false (o7_11.drop 10), .c .ret] (fun x : Bool => ⟨[(66, bB x)], []⟩) ?_ (fun j9 => ?_)
              · refine L_split 58 decT (fun _ => ?_) (fun _ => ?_)
                · refine Av 1 [.o false (o7_11t2_10.drop 1)] ⟨[(59, lY a0), (58, bB true), (8, sY (.s 9663) (a0 ++ a1)), (1, lY a1)], []⟩ ?_
                  refine L_call (ok_crc_Sum a0) rfl rfl (fun _ => rfl) (fun _ => trivial) (fun r6 => ?_)
                  refine Av 1 [.o false (o7_11t2_10.drop 3)] ⟨[(61, lY a1), (58, bB true), (60, nW r6), (8, sY (.s 9663) (a0 ++ a1))], []⟩ ?_
                  refine L_call (ok_crc_More r6 a1) rfl rfl (fun _ => rfl) (fun _ => trivial) (fun r7 => ?_)
                  refine Av 1 [.o false (o7_11t2_10.drop 5)] ⟨[(63, sY (.s 9663) (a0 ++ a1)), (58, bB true), (62, nW r7)], []⟩ ?_
                  refine L_call (ok_crc_Sum (a0 ++ a1)) rfl rfl (fun _ => rfl) (fun _ => trivial) (fun r8 => ?_)
                  refine Av 3 [] ⟨[(66, bB (r7 == r8))], []⟩ ?_
                  exact L_end
                · refine Av 9 [] ⟨[(66, bB false)], []⟩ ?_
                  exact L_end
              · refine Av 1 [.o false (o7_11.drop 11), .c .ret] ⟨[(67, bB j9)], []⟩ ?_
                refine L_take 3 o7_11t11_14 (o7_11.drop 14) ?_
                refine L_join [.o false o7_11t11_14] [.o false (o7_11.drop 14), .c .ret] (fun x : Bool => ⟨[(70, bB x)], []⟩) ?_ (fun j11 => ?_)
                · refine L_split 67 decT (fun _ => ?_) (fun _ => ?_)
                  · refine L_call (ok_crc_Sum []) rfl rfl (fun _ => rfl) (fun _ => trivial) (fun r10 => ?_)
                    refine Av 3 [] ⟨[(70, bB (r10 == 0))], []⟩ ?_
                    exact L_end
                  · refine Av 4 [] ⟨[(70, bB false)], []⟩ ?_
                    exact L_end
                · refine Avk 3 [] .ret ⟨[(6, bB j11)], []⟩ ?_
                  exact L_ret
          · refine Av 13 [.o false (o7_11.drop 2), .c .ret] ⟨[(58, bB r1), (8, sY (.s 9663) (a0 ++ a1)), (0, lY a0), (1, lY a1)], []⟩ ?_
            refine L_take 8 o7_11t2_10 (o7_11.drop 10) ?_
            refine L_join [.o false o7_11t2_10] [.o false (o7_11.drop 10), .c .ret] (fun x : Bool => ⟨[(66, bB x)], []⟩) ?_ (fun j15 => ?_)
            · refine L_split 58 decT (fun _ => ?_) (fun _ => ?_)
              · refine Av 1 [.o false (o7_11t2_10.drop 1)] ⟨[(59, lY a0), (58, bB true), (8, sY (.s 9663) (a0 ++ a1)), (1, lY a1)], []⟩ ?_
                refine L_call (ok_crc_Sum a0) rfl rfl (fun _ => rfl) (fun _ => trivial) (fun r12 => ?_)
                refine Av 1 [.o false (o7_11t2_10.drop 3)] ⟨[(61, lY a1), (58, bB true), (60, nW r12), (8, sY (.s 9663) (a0 ++ a1))], []⟩ ?_
                refine L_call (ok_crc_More r12 a1) rfl rfl (fun _ => rfl) (fun _ => trivial) (fun r13 => ?_)
                refine Av 1 [.o false (o7_11t2_10.drop 5)] ⟨[(63, sY (.s 9663) (a0 ++ a1)), (58, bB true), (62, nW r13)], []⟩ ?_
                refine L_call (ok_crc_Sum (a0 ++ a1)) rfl rfl (fun _ => rfl) (fun _ => trivial) (fun r14 => ?_)
                refine Av 3 [] ⟨[(66, bB (r13 == r14))], []⟩ ?_
                exact L_end
              · refine Av 9 [] ⟨[(66, bB false)], []⟩ ?_
                exact L_end
            · refine Av 1 [.o false (o7_11.drop 11), .c .ret] ⟨[(67, bB j15)], []⟩ ?_
              refine L_take 3 o7_11t11_14 (o7_11.drop 14) ?_
              refine L_join [.o false o7_11t11_14] [.o false (o7_11.drop 14), .c .ret] (fun x : Bool => ⟨[(70, bB x)], []⟩) ?_ (fun j17 => ?_)
              · refine L_split 67 decT (fun _ => ?_) (fun _ => ?_)
                · refine L_call (ok_crc_Sum []) rfl rfl (fun _ => rfl) (fun _ => trivial) (fun r16 => ?_)
                  refine Av 3 [] ⟨[(70, bB (r16 == 0))], []⟩ ?_
                  exact L_end
                · refine Av 4 [] ⟨[(70, bB false)], []⟩ ?_
                  exact L_end
              · refine Avk 3 [] .ret ⟨[(6, bB j17)], []⟩ ?_
                exact L_ret
/-- thrum/thrumref04.Seal. -/
def en_thrumref04_Seal (v : (List Int) × Int) : PV := .tup [sY (.s 0) v.1, nI v.2]
def o32_0 : List AOper := [⟨some 2, none, 0, .mov (.c .nils)⟩, mi 3 1 0]
def o32_1 : List AOper := [mv 5 100 0, ln 6 101 5, bc 7 102 .gtr 6 65532]
def o32_2 : List AOper := [⟨some 2, none, 200, .mov (.c .nils)⟩, mi 3 201 3]
def o32_3 : List AOper := [mv 8 300 0, cl' 9 301 28 [.t 8], mv 4 302 9]
def o32_4 : List AOper := [mv 10 400 0, ⟨some 11, none, 401, .app 5 1 1 (.c .nils) (.t 10)⟩, mv 12 402 4, ⟨some 13, none, 403, .convI .u8 (.t 12)⟩, mv 14 404 4, ⟨some 15, none, 405, .bin .shr .int (.t 14) (.c (.d (.int .u64 8)))⟩, ⟨some 16, none, 406, .convI .u8 (.t 15)⟩, mv 17 407 4, ⟨some 18, none, 408, .bin .shr .int (.t 17) (.c (.d (.int .u64 16)))⟩, ⟨some 19, none, 409, .convI .u8 (.t 18)⟩, mv 20 410 4, ⟨some 21, none, 411, .bin .shr .int (.t 20) (.c (.d (.int .u64 24)))⟩, ⟨some 22, none, 412, .convI .u8 (.t 21)⟩, ⟨some 23, none, 413, .bslice 5 1 [.t 13, .t 16, .t 19, .t 22]⟩, ⟨some 24, none, 414, .app 5 1 1 (.t 11) (.t 23)⟩, mv 2 415 24, mi 3 416 0]
def c32_6 : AC := .cond (.t 7) (.seq (.reg o32_2) .ret) .skip
def c32_11 : AC := .seq (.reg o32_4) .ret
def c32_12 : AC := .seq (.reg o32_3) c32_11
def c32_14 : AC := .seq (.reg o32_0) (.seq (.seq (.reg o32_1) c32_6) c32_12)
theorem fn32 : fnA Try.prog 32 = some (25, [.t 2, .t 3], c32_14) := by kernel_rfl
theorem ok_thrumref04_Seal (a0 : List Int) : ∀ v, M_thrumref04_Seal a0 = some v → EvF Try.prog 32 [.lst (List.map (D.int .u8) a0)] (en_thrumref04_Seal v) := by
  intro v hv
  refine EvF_go fn32 (Nat.le_of_ble_eq_true rfl) ?_
  suffices h : Ok (M_thrumref04_Seal a0) fun v => go Try.prog 25 (Fnl [.t 2, .t 3] (en_thrumref04_Seal v) []) [.c c32_14] .norm (initSt (List.map PV.d [.lst (List.map (D.int .u8) a0)]) []) from h v hv
  unfold M_thrumref04_Seal
  refine Av 9 [.o false (o32_1.drop 1), .c c32_6, .c c32_12] ⟨[(5, lY a0), (0, lY a0)], []⟩ ?_
  refine L_len (enc := D.int .u8) (l := a0) trivial rfl ?_
  refine Av 2 [.c c32_6, .c c32_12] ⟨[(7, bB (decide ((a0.length : Int) > 65532))), (0, lY a0)], []⟩ ?_
  refine L_split 7 rfl (fun _ => ?_) (fun _ => ?_)
  · refine Avk 8 [] .ret ⟨[(3, nI 3), (2, .nils)], []⟩ ?_
    exact L_ret
  · refine Av 5 [.o false (o32_3.drop 1), .c c32_11] ⟨[(8, lY a0), (0, lY a0)], []⟩ ?_
    refine L_call (ok_thrumref04_Sum a0) trivial rfl (fun _ => rfl) (fun _ => trivial) (fun r1 => ?_)
    refine Av 5 [.o false (o32_4.drop 1), .c .ret] ⟨[(10, lY a0), (4, nW r1)], []⟩ ?_
    refine L_appN (enc := D.int .u8) (l2 := a0) trivial rfl rfl (fun _ => rfl) (fun _ => ?_)
    refine Av 12 [.o false (o32_4.drop 14), .c .ret] ⟨[(23, sY (.s 6623) [IntKind.u8.wrap r1, IntKind.u8.wrap (sShr .u32 r1 8), IntKind.u8.wrap (sShr .u32 r1 16), IntKind.u8.wrap (sShr .u32 r1 24)]), (11, sY (.s 6431) a0)], []⟩ ?_
    refine L_app (enc := D.int .u8) (l := a0) (l2 := [IntKind.u8.wrap r1, IntKind.u8.wrap (sShr .u32 r1 8), IntKind.u8.wrap (sShr .u32 r1 16), IntKind.u8.wrap (sShr .u32 r1 24)]) trivial rfl rfl (fun _ => rfl) (fun _ => ?_)
    refine Avk 4 [] .ret ⟨[(3, nI 0), (2, sY (.s 6639) (a0 ++ [IntKind.u8.wrap r1, IntKind.u8.wrap (sShr .u32 r1 8), IntKind.u8.wrap (sShr .u32 r1 16), IntKind.u8.wrap (sShr .u32 r1 24)]))], []⟩ ?_
    exact L_ret
/-- slices.Equal[[]byte,byte]. -/
def en_slices_Equal_byte_byte (v : Bool) : PV := bB v
def o56_0 : List AOper := [mb 4 0 false]
def o56_1 : List AOper := [mv 6 100 0, ln 7 101 6, mv 8 102 1, ln 9 103 8, bi 10 104 .neq 7 9]
def o56_2 : List AOper := [mb 4 200 false]
def o56_3 : List AOper := [mv 11 300 0, ln 12 301 11, mi 13 302 0]
def o56_4 : List AOper := [bi 14 400 .lss 13 12]
def o56_5 : List AOper := [mv 15 500 13, mv 5 501 15]
def o56_6 : List AOper := [mv 16 600 0, mv 17 601 5, ⟨some 18, none, 602, .idxA 1 (.t 16) (.t 17)⟩, ld 19 603 18, mv 20 604 1, mv 21 605 5, ⟨some 22, none, 606, .idxA 1 (.t 20) (.t 21)⟩, ld 23 607 22, bi 24 608 .neq 19 23]
def o56_7 : List AOper := [mb 4 700 false]
def o56_8 : List AOper := [bc 25 800 .add 13 1, mv 13 801 25]
def o56_9 : List AOper := [mb 4 900 true]
def c56_6 : AC := .cond (.t 10) (.seq (.reg o56_2) .ret) .skip
def c56_12 : AC := .cond (.t 14) .skip (.exit 0)
def c56_14 : AC := .draw [⟨mv 16 600 0, false, []⟩, ⟨mv 17 601 5, false, []⟩, ⟨⟨some 18, none, 602, .idxA 1 (.t 16) (.t 17)⟩, false, []⟩, ⟨ld 19 603 18, false, []⟩, ⟨mv 20 604 1, false, []⟩, ⟨mv 21 605 5, false, []⟩, ⟨⟨some 22, none, 606, .idxA 1 (.t 20) (.t 21)⟩, false, []⟩, ⟨ld 23 607 22, false, []⟩, ⟨bi 24 608 .neq 19 23, false, []⟩]
def c56_19 : AC := .cond (.t 24) (.seq (.reg o56_7) .ret) .skip
def c56_23 : AC := .reg o56_8
def c56_24 : AC := .seq (.block 1 (.seq (.reg o56_5) (.seq c56_14 c56_19))) c56_23
def c56_26 : AC := .seq (.reg o56_4) (.seq c56_12 c56_24)
def c56_28 : AC := .block 0 (.loop c56_26)
def c56_32 : AC := .seq (.reg o56_9) .ret
def c56_33 : AC := .seq (.seq (.reg o56_3) c56_28) c56_32
def c56_35 : AC := .seq (.reg o56_0) (.seq (.seq (.reg o56_1) c56_6) c56_33)
theorem fn56 : fnA Try.prog 56 = some (26, [.t 4], c56_35) := by kernel_rfl
def q_ok_slices_Equal_byte_byte_l0_ok (a0 : List Int) (a1 : List Int) (x0 : Int) (v : (Sum Bool Unit)) : Prop := (fun v => go Try.prog 26 (PostR (fun r => Fnl [.t 4] (en_slices_Equal_byte_byte r) []) (.exit 0) (fun x : Unit => ⟨[], []⟩) v) [.l c56_26] .norm ⟨[(13, nI x0), (12, nI (a0.length : Int)), (0, lY a0), (1, lY a1)], []⟩) v
theorem ok_slices_Equal_byte_byte_l0_ok (a0 : List Int) (a1 : List Int) (x0 : Int) : Ok (M_slices_Equal_byte_byte_l0 a0 a1 x0) (q_ok_slices_Equal_byte_byte_l0_ok a0 a1 x0) := by
  refine M_slices_Equal_byte_byte_l0.partial_correctness a0 a1 (q_ok_slices_Equal_byte_byte_l0_ok a0 a1) ?_ x0
  clear x0
  intro f' IH x0
  refine okI ?_
  unfold q_ok_slices_Equal_byte_byte_l0_ok at *
  refine Av 1 [.c c56_26, .l c56_26] ⟨[(13, nI x0), (12, nI (a0.length : Int)), (0, lY a0), (1, lY a1)], []⟩ ?_
  refine Av 5 [.c c56_12, .c c56_24, .l c56_26] ⟨[(14, bB (decide (x0 < (a0.length : Int)))), (13, nI x0), (12, nI (a0.length : Int)), (0, lY a0), (1, lY a1)], []⟩ ?_
  refine L_split 14 rfl (fun _ => ?_) (fun _ => ?_)
  · refine Av 10 [.c c56_14, .c c56_19, .b 1, .c c56_23, .l c56_26] ⟨[(5, nI x0), (13, nI x0), (12, nI (a0.length : Int)), (0, lY a0), (1, lY a1)], []⟩ ?_
    refine Ae 3 [.o true (o56_6.drop 2), .c c56_19, .b 1, .c c56_23, .l c56_26] ⟨[(17, nI x0), (16, lY a0), (5, nI x0), (13, nI x0), (12, nI (a0.length : Int)), (0, lY a0), (1, lY a1)], []⟩ ?_
    refine L_idxD (enc := D.int .u8) (l := a0) (iv := x0) trivial rfl rfl (fun _ => rfl) (fun hc602 => ?_)
    refine Ae 3 [.o true (o56_6.drop 6), .c c56_19, .b 1, .c c56_23, .l c56_26] ⟨[(21, nI x0), (20, lY a1), (19, nY (at' a0 x0)), (18, .d (.cp [.int .u8 (at' a0 x0)] 0)), (17, nI x0), (16, lY a0), (5, nI x0), (13, nI x0), (12, nI (a0.length : Int)), (0, lY a0), (1, lY a1)], []⟩ ?_
    refine L_idxD (enc := D.int .u8) (l := a1) (iv := x0) trivial rfl rfl (fun _ => rfl) (fun hc606 => ?_)
    refine Av 3 [.c c56_19, .b 1, .c c56_23, .l c56_26] ⟨[(24, bB ((at' a0 x0) != (at' a1 x0))), (13, nI x0), (12, nI (a0.length : Int)), (0, lY a0), (1, lY a1)], []⟩ ?_
    refine L_split 24 decNe (fun _ => ?_) (fun _ => ?_)
    · refine Avk 9 [] .ret ⟨[(4, bB false)], []⟩ ?_
      exact L_retR
    · refine Av 7 [.l c56_26] ⟨[(13, nI (IntKind.i64.wrap (x0 + 1))), (12, nI (a0.length : Int)), (0, lY a0), (1, lY a1)], []⟩ ?_
      exact L_again (IH (IntKind.i64.wrap (x0 + 1)))
  · refine Avk 4 [] (.exit 0) ⟨[], []⟩ ?_
    exact L_endR
theorem ok_slices_Equal_byte_byte (a0 : List Int) (a1 : List Int) : ∀ v, M_slices_Equal_byte_byte a0 a1 = some v → EvF Try.prog 56 [.lst (List.map (D.int .u8) a0), .lst (List.map (D.int .u8) a1)] (en_slices_Equal_byte_byte v) := by
  intro v hv
  refine EvF_go fn56 (Nat.le_of_ble_eq_true rfl) ?_
  suffices h : Ok (M_slices_Equal_byte_byte a0 a1) fun v => go Try.prog 26 (Fnl [.t 4] (en_slices_Equal_byte_byte v) []) [.c c56_35] .norm (initSt (List.map PV.d [.lst (List.map (D.int .u8) a0), .lst (List.map (D.int .u8) a1)]) []) from h v hv
  unfold M_slices_Equal_byte_byte
  refine Av 8 [.o false (o56_1.drop 1), .c c56_6, .c c56_33] ⟨[(6, lY a0), (0, lY a0), (1, lY a1)], []⟩ ?_
  refine L_len (enc := D.int .u8) (l := a0) trivial rfl ?_
  refine Av 1 [.o false (o56_1.drop 3), .c c56_6, .c c56_33] ⟨[(8, lY a1), (7, nI (a0.length : Int)), (0, lY a0), (1, lY a1)], []⟩ ?_
  refine L_len (enc := D.int .u8) (l := a1) trivial rfl ?_
  refine Av 2 [.c c56_6, .c c56_33] ⟨[(10, bB ((a0.length : Int) != (a1.length : Int))), (0, lY a0), (1, lY a1)], []⟩ ?_
  refine L_split 10 decNe (fun _ => ?_) (fun _ => ?_)
  · refine Avk 7 [] .ret ⟨[(4, bB false)], []⟩ ?_
    exact L_ret
  · refine Av 6 [.o false (o56_3.drop 1), .c c56_28, .c c56_32] ⟨[(11, lY a0), (0, lY a0), (1, lY a1)], []⟩ ?_
    refine L_len (enc := D.int .u8) (l := a0) trivial rfl ?_
    refine Av 4 [.l c56_26, .b 0, .c c56_32] ⟨[(13, nI 0), (12, nI (a0.length : Int)), (0, lY a0), (1, lY a1)], []⟩ ?_
    refine L_pieceR (fs := [.l c56_26]) (ks := [.b 0, .c c56_32]) (ok_slices_Equal_byte_byte_l0_ok a0 a1 0) L_thru (fun j1 => ?_)
    refine Avk 6 [] .ret ⟨[(4, bB true)], []⟩ ?_
    exact L_ret
/-- thrum/crc.Open. -/
def en_crc_Open (v : (List Int) × Int) : PV := .tup [sY (.s 0) v.1, nI v.2]
def o33_0 : List AOper := [⟨some 2, none, 0, .mov (.c .nils)⟩, mi 3 1 0]
def o33_1 : List AOper := [mv 7 100 0, ln 8 101 7, bc 9 102 .sub 8 4, mv 4 103 9]
def o33_2 : List AOper := [mv 11 200 0, ln 12 201 11, bc 13 202 .gtr 12 65536, mv 10 203 13]
def o33_3 : List AOper := [⟨some 2, none, 300, .mov (.c .nils)⟩, mi 3 301 3]
def o33_4 : List AOper := [mv 15 400 4, bc 16 401 .lss 15 0, mv 14 402 16]
def o33_5 : List AOper := [⟨some 2, none, 500, .mov (.c .nils)⟩, mi 3 501 5]
def o33_6 : List AOper := [mv 18 600 0, mv 19 601 4, ⟨some 20, none, 602, .sliceS 1 (.t 18) none (some (.t 19)) none⟩, cl' 21 603 31 [.t 20], mv 17 604 21, xt 22 605 17 0, xt 23 606 17 1, mv 5 607 22, mv 6 608 23]
def o33_7 : List AOper := [mv 24 700 6, bc 25 701 .neq 24 0, mv 26 702 25, gv 27 26 false 703 5, gv 28 26 false 704 0, ⟨some 29, some (26, false), 705, .call 56 [.t 27, .t 28]⟩, ⟨some 30, some (26, false), 706, .un .not (.t 29)⟩, pz 31 707 26 30 true]
def o33_8 : List AOper := [⟨some 2, none, 800, .mov (.c .nils)⟩, mi 3 801 7]
def o33_9 : List AOper := [mv 32 900 0, mv 33 901 4, ⟨some 34, none, 902, .sliceS 1 (.t 32) none (some (.t 33)) none⟩, cl' 35 903 54 [.t 34], mv 2 904 35, mi 3 905 0]
def o33_7t3_8 : List AOper := (o33_7.drop 3).take 5
def c33_11 : AC := .cond (.t 14) (.seq (.reg o33_5) .ret) .skip
def c33_13 : AC := .cond (.t 10) (.seq (.reg o33_3) .ret) (.seq (.reg o33_4) c33_11)
def c33_22 : AC := .cond (.t 31) (.seq (.reg o33_8) .ret) .skip
def c33_23 : AC := .seq (.reg o33_7) c33_22
def c33_27 : AC := .seq (.reg o33_9) .ret
def c33_28 : AC := .seq (.seq (.reg o33_6) c33_23) c33_27
def c33_29 : AC := .seq (.block 0 (.seq (.reg o33_2) c33_13)) c33_28
def c33_31 : AC := .seq (.reg o33_0) (.seq (.reg o33_1) c33_29)
theorem fn33 : fnA Try.prog 33 = some (36, [.t 2, .t 3], c33_31) := by kernel_rfl
theorem ok_crc_Open (a0 : List Int) : ∀ v, M_crc_Open a0 = some v → EvF Try.prog 33 [.lst (List.map (D.int .u8) a0)] (en_crc_Open v) := by
  intro v hv
  refine EvF_go fn33 (Nat.le_of_ble_eq_true rfl) ?_
  suffices h : Ok (M_crc_Open a0) fun v => go Try.prog 36 (Fnl [.t 2, .t 3] (en_crc_Open v) []) [.c c33_31] .norm (initSt (List.map PV.d [.lst (List.map (D.int .u8) a0)]) []) from h v hv
  unfold M_crc_Open
  refine Av 8 [.o false (o33_1.drop 1), .c c33_29] ⟨[(7, lY a0), (0, lY a0)], []⟩ ?_
  refine L_len (enc := D.int .u8) (l := a0) trivial rfl ?_
  refine Av 8 [.o false (o33_2.drop 1), .c c33_13, .b 0, .c c33_28] ⟨[(11, lY a0), (4, nI (IntKind.i64.wrap ((a0.length : Int) - 4))), (0, lY a0)], []⟩ ?_
  refine L_len (enc := D.int .u8) (l := a0) trivial rfl ?_
  refine Av 3 [.c c33_13, .b 0, .c c33_28] ⟨[(10, bB (decide ((a0.length : Int) > 65536))), (4, nI (IntKind.i64.wrap ((a0.length : Int) - 4))), (0, lY a0)], []⟩ ?_
  refine L_split 10 rfl (fun _ => ?_) (fun _ => ?_)
  · refine Avk 9 [] .ret ⟨[(3, nI 3), (2, .nils)], []⟩ ?_
    exact L_ret
  · refine Av 7 [.c c33_11, .b 0, .c c33_28] ⟨[(14, bB (decide ((IntKind.i64.wrap ((a0.length : Int) - 4)) < 0))), (4, nI (IntKind.i64.wrap ((a0.length : Int) - 4))), (0, lY a0)], []⟩ ?_
    refine L_split 14 rfl (fun _ => ?_) (fun _ => ?_)
    · refine Avk 9 [] .ret ⟨[(3, nI 5), (2, .nils)], []⟩ ?_
      exact L_ret
    · refine Av 8 [.o false (o33_6.drop 2), .c c33_23, .c c33_27] ⟨[(19, nI (IntKind.i64.wrap ((a0.length : Int) - 4))), (18, lY a0), (4, nI (IntKind.i64.wrap ((a0.length : Int) - 4))), (0, lY a0)], []⟩ ?_
      refine L_cutD (enc := D.int .u8) (l := a0) (a := none) (b := (some (IntKind.i64.wrap ((a0.length : Int) - 4)))) trivial rfl rfl rfl (fun _ => rfl) (fun hc602 => ?_)
      refine Al 0 [.o false (o33_6.drop 3), .c c33_23, .c c33_27] .norm (fun y1 : List Int => ⟨[(20, lY y1), (4, nI (IntKind.i64.wrap ((a0.length : Int) - 4))), (0, lY a0)], []⟩) (fun y1 => ?_)
      refine L_call (ok_crc_Seal y1) trivial rfl (fun _ => rfl) (fun _ => ⟨(flat_map_of fun _ => trivial), trivial, trivial⟩) (fun r3 => ?_)
      refine Av 11 [.o false (o33_7.drop 3), .c c33_22, .c c33_27] ⟨[(26, bB (r3.2 != 0)), (5, sY (.s 9648) r3.1), (4, nI (IntKind.i64.wrap ((a0.length : Int) - 4))), (0, lY a0)], []⟩ ?_
      refine L_take 5 o33_7t3_8 (o33_7.drop 8) ?_
      refine L_join [.o false o33_7t3_8] [.o false (o33_7.drop 8), .c c33_22, .c c33_27] (fun x : Bool => ⟨[(31, bB x), (4, nI (IntKind.i64.wrap ((a0.length : Int) - 4))), (0, lY a0)], []⟩) ?_ (fun j5 => ?_)
      · refine L_split 26 decNe (fun _ => ?_) (fun _ => ?_)
        · refine Av 6 [] ⟨[(31, bB true), (4, nI (IntKind.i64.wrap ((a0.length : Int) - 4))), (0, lY a0)], []⟩ ?_
          exact L_end
        · refine Av 2 [.o false (o33_7t3_8.drop 2)] ⟨[(28, lY a0), (26, bB false), (27, sY (.s 9648) r3.1), (4, nI (IntKind.i64.wrap ((a0.length : Int) - 4))), (0, lY a0)], []⟩ ?_
          refine L_call (ok_slices_Equal_byte_byte r3.1 a0) rfl rfl (fun _ => rfl) (fun _ => trivial) (fun r4 => ?_)
          refine Av 3 [] ⟨[(31, bB (!r4)), (4, nI (IntKind.i64.wrap ((a0.length : Int) - 4))), (0, lY a0)], []⟩ ?_
          exact L_end
      · refine Av 1 [.c c33_22, .c c33_27] ⟨[(31, bB j5), (4, nI (IntKind.i64.wrap ((a0.length : Int) - 4))), (0, lY a0)], []⟩ ?_
        refine L_split 31 decT (fun _ => ?_) (fun _ => ?_)
        · refine Avk 8 [] .ret ⟨[(3, nI 7), (2, .nils)], []⟩ ?_
          exact L_ret
        · refine Av 6 [.o false (o33_9.drop 2), .c .ret] ⟨[(33, nI (IntKind.i64.wrap ((a0.length : Int) - 4))), (32, lY a0)], []⟩ ?_
          refine L_cutD (enc := D.int .u8) (l := a0) (a := none) (b := (some (IntKind.i64.wrap ((a0.length : Int) - 4)))) trivial rfl rfl rfl (fun _ => rfl) (fun hc902 => ?_)
          refine Al 0 [.o false (o33_9.drop 3), .c .ret] .norm (fun y6 : List Int => ⟨[(34, lY y6)], []⟩) (fun y6 => ?_)
          refine L_call (ok_slices_Clone_byte_byte y6) trivial rfl (fun _ => rfl) (fun _ => (flat_map_of fun _ => trivial)) (fun r8 => ?_)
          refine Avk 4 [] .ret ⟨[(3, nI 0), (2, sY (.s 14448) r8)], []⟩ ?_
          exact L_ret
/-- thrum/thrumref04.Open. -/
def en_thrumref04_Open (v : (List Int) × Int) : PV := .tup [sY (.s 0) v.1, nI v.2]
def o34_0 : List AOper := [⟨some 2, none, 0, .mov (.c .nils)⟩, mi 3 1 0]
def o34_1 : List AOper := [mv 7 100 0, ln 8 101 7, bc 9 102 .gtr 8 65536]
def o34_2 : List AOper := [⟨some 2, none, 200, .mov (.c .nils)⟩, mi 3 201 3]
def o34_3 : List AOper := [mv 10 300 0, ln 11 301 10, bc 12 302 .lss 11 4]
def o34_4 : List AOper := [⟨some 2, none, 400, .mov (.c .nils)⟩, mi 3 401 5]
def o34_5 : List AOper := [mv 13 500 0, mv 14 501 0, ln 15 502 14, bc 16 503 .sub 15 4, ⟨some 17, none, 504, .sliceS 1 (.t 13) none (some (.t 16)) none⟩, ⟨some 18, none, 505, .app 5 1 1 (.c .nils) (.t 17)⟩, mv 4 506 18]
def o34_6 : List AOper := [mv 20 600 4, cl' 21 601 32 [.t 20], mv 19 602 21, xt 22 603 19 0, xt 23 604 19 1, mv 5 605 22, mv 6 606 23]
def o34_7 : List AOper := [mv 24 700 5, ⟨some 25, none, 701, .convS (.t 24)⟩, mv 26 702 0, ⟨some 27, none, 703, .convS (.t 26)⟩, ⟨some 28, none, 704, .bin .neq .str (.t 25) (.t 27)⟩]
def o34_8 : List AOper := [⟨some 2, none, 800, .mov (.c .nils)⟩, mi 3 801 7]
def o34_9 : List AOper := [mv 29 900 4, mv 2 901 29, mi 3 902 0]
def c34_6 : AC := .cond (.t 9) (.seq (.reg o34_2) .ret) .skip
def c34_13 : AC := .cond (.t 12) (.seq (.reg o34_4) .ret) .skip
def c34_22 : AC := .cond (.t 28) (.seq (.reg o34_8) .ret) .skip
def c34_23 : AC := .seq (.reg o34_7) c34_22
def c34_27 : AC := .seq (.reg o34_9) .ret
def c34_28 : AC := .seq (.seq (.reg o34_6) c34_23) c34_27
def c34_29 : AC := .seq (.reg o34_5) c34_28
def c34_30 : AC := .seq (.seq (.reg o34_3) c34_13) c34_29
def c34_32 : AC := .seq (.reg o34_0) (.seq (.seq (.reg o34_1) c34_6) c34_30)
theorem fn34 : fnA Try.prog 34 = some (30, [.t 2, .t 3], c34_32) := by kernel_rfl
theorem ok_thrumref04_Open (a0 : List Int) : ∀ v, M_thrumref04_Open a0 = some v → EvF Try.prog 34 [.lst (List.map (D.int .u8) a0)] (en_thrumref04_Open v) := by
  intro v hv
  refine EvF_go fn34 (Nat.le_of_ble_eq_true rfl) ?_
  suffices h : Ok (M_thrumref04_Open a0) fun v => go Try.prog 30 (Fnl [.t 2, .t 3] (en_thrumref04_Open v) []) [.c c34_32] .norm (initSt (List.map PV.d [.lst (List.map (D.int .u8) a0)]) []) from h v hv
  unfold M_thrumref04_Open
  refine Av 9 [.o false (o34_1.drop 1), .c c34_6, .c c34_30] ⟨[(7, lY a0), (0, lY a0)], []⟩ ?_
  refine L_len (enc := D.int .u8) (l := a0) trivial rfl ?_
  refine Av 2 [.c c34_6, .c c34_30] ⟨[(9, bB (decide ((a0.length : Int) > 65536))), (0, lY a0)], []⟩ ?_
  refine L_split 9 rfl (fun _ => ?_) (fun _ => ?_)
  · refine Avk 8 [] .ret ⟨[(3, nI 3), (2, .nils)], []⟩ ?_
    exact L_ret
  · refine Av 6 [.o false (o34_3.drop 1), .c c34_13, .c c34_29] ⟨[(10, lY a0), (0, lY a0)], []⟩ ?_
    refine L_len (enc := D.int .u8) (l := a0) trivial rfl ?_
    refine Av 2 [.c c34_13, .c c34_29] ⟨[(12, bB (decide ((a0.length : Int) < 4))), (0, lY a0)], []⟩ ?_
    refine L_split 12 rfl (fun _ => ?_) (fun _ => ?_)
    · refine Avk 8 [] .ret ⟨[(3, nI 5), (2, .nils)], []⟩ ?_
      exact L_ret
    · refine Av 6 [.o false (o34_5.drop 2), .c c34_28] ⟨[(14, lY a0), (13, lY a0), (0, lY a0)], []⟩ ?_
      refine L_len (enc := D.int .u8) (l := a0) trivial rfl ?_
      refine Av 1 [.o false (o34_5.drop 4), .c c34_28] ⟨[(16, nI (IntKind.i64.wrap ((a0.length : Int) - 4))), (13, lY a0), (0, lY a0)], []⟩ ?_
      refine L_cutD (enc := D.int .u8) (l := a0) (a := none) (b := (some (IntKind.i64.wrap ((a0.length : Int) - 4)))) trivial rfl rfl rfl (fun _ => rfl) (fun hc504 => ?_)
      refine Al 0 [.o false (o34_5.drop 5), .c c34_28] .norm (fun y1 : List Int => ⟨[(17, lY y1), (0, lY a0)], []⟩) (fun y1 => ?_)
      refine L_appN (enc := D.int .u8) (l2 := y1) trivial rfl rfl (fun _ => rfl) (fun _ => ?_)
      refine Av 6 [.o false (o34_6.drop 1), .c c34_23, .c c34_27] ⟨[(20, sY (.s 8095) y1), (4, sY (.s 8095) y1), (0, lY a0)], []⟩ ?_
      refine L_call (ok_thrumref04_Seal y1) trivial rfl (fun _ => rfl) (fun _ => ⟨(flat_map_of fun _ => trivial), trivial, trivial⟩) (fun r3 => ?_)
      refine Av 9 [.o false (o34_7.drop 1), .c c34_22, .c c34_27] ⟨[(24, sY (.s 9616) r3.1), (4, sY (.s 8095) y1), (0, lY a0)], []⟩ ?_
      refine L_convS (l := r3.1) trivial (.inr ⟨_, _, rfl⟩) ?_
      refine Av 1 [.o false (o34_7.drop 3), .c c34_22, .c c34_27] ⟨[(26, lY a0), (25, .d (.str (strB r3.1))), (4, sY (.s 8095) y1)], []⟩ ?_
      refine L_convS (l := a0) trivial (.inl rfl) ?_
      refine Av 2 [.c c34_22, .c c34_27] ⟨[(28, bB (!((strB r3.1).toList == (strB a0).toList))), (4, sY (.s 8095) y1)], []⟩ ?_
      refine L_split 28 decT (fun _ => ?_) (fun _ => ?_)
      · refine Avk 8 [] .ret ⟨[(3, nI 7), (2, .nils)], []⟩ ?_
        exact L_ret
      · refine Avk 9 [] .ret ⟨[(3, nI 0), (2, sY (.s 8095) y1)], []⟩ ?_
        exact L_ret
/-- thrum/thrumlaw04.CrcSeals. -/
def en_thrumlaw04_CrcSeals (v : Bool) : PV := bB v
def o8_0 : List AOper := [mb 2 0 false]
def o8_1 : List AOper := [cl' 16 100 24 [], mv 3 101 16]
def o8_2 : List AOper := [mv 17 200 3, ⟨some 18, none, 201, .un .not (.t 17)⟩]
def o8_3 : List AOper := [mb 2 300 false]
def o8_4 : List AOper := [mv 19 400 0, ln 20 401 19, bc 21 402 .gtr 20 66000]
def o8_5 : List AOper := [mv 22 500 3, mv 2 501 22]
def o8_6 : List AOper := [mv 23 600 0, ⟨some 24, none, 601, .app 5 1 1 (.c .nils) (.t 23)⟩, mv 4 602 24]
def o8_7 : List AOper := [mv 26 700 0, cl' 27 701 31 [.t 26], mv 25 702 27, xt 28 703 25 0, xt 29 704 25 1, mv 5 705 28, mv 6 706 29]
def o8_8 : List AOper := [mv 31 800 0, cl' 32 801 32 [.t 31], mv 30 802 32, xt 33 803 30 0, xt 34 804 30 1, mv 7 805 33, mv 8 806 34]
def o8_9 : List AOper := [mv 36 900 0, cl' 37 901 33 [.t 36], mv 35 902 37, xt 38 903 35 0, xt 39 904 35 1, mv 9 905 38, mv 10 906 39]
def o8_10 : List AOper := [mv 41 1000 0, cl' 42 1001 34 [.t 41], mv 40 1002 42, xt 43 1003 40 0, xt 44 1004 40 1, mv 11 1005 43, mv 12 1006 44]
def o8_11 : List AOper := [mv 45 1100 5, mv 46 1101 7, cl' 47 1102 20 [.t 45, .t 46], mv 48 1103 47, gv 49 48 true 1104 6, gv 50 48 true 1105 8, ⟨some 51, some (48, true), 1106, .bin .eql .int (.t 49) (.t 50)⟩, pk 52 1107 48 51 false, mv 53 1108 52, gv 54 53 true 1109 9, gv 55 53 true 1110 11, ⟨some 56, some (53, true), 1111, .call 20 [.t 54, .t 55]⟩, pk 57 1112 53 56 false, mv 58 1113 57, gv 59 58 true 1114 10, gv 60 58 true 1115 12, ⟨some 61, some (58, true), 1116, .bin .eql .int (.t 59) (.t 60)⟩, pk 62 1117 58 61 false, mv 13 1118 62]
def o8_12 : List AOper := [mv 63 1200 5, ln 64 1201 63, mi 65 1202 0]
def o8_13 : List AOper := [bi 66 1300 .lss 65 64]
def o8_14 : List AOper := [mv 67 1400 65, mv 14 1401 67]
def o8_15 : List AOper := [mv 68 1500 5, mv 69 1501 14, ⟨some 70, none, 1502, .idxA 1 (.t 68) (.t 69)⟩, ld 71 1503 70, ⟨some 72, none, 1504, .bin .add .int (.t 71) (.c (.d (.int .u8 1)))⟩, ⟨some 73, none, 1505, .idxA 1 (.t 68) (.t 69)⟩, ⟨none, none, 1506, .store 1 (.t 73) (.t 72)⟩]
def o8_16 : List AOper := [bc 74 1600 .add 65 1, mv 65 1601 74]
def o8_17 : List AOper := [mv 75 1700 9, ln 76 1701 75, mi 77 1702 0]
def o8_18 : List AOper := [bi 78 1800 .lss 77 76]
def o8_19 : List AOper := [mv 79 1900 77, mv 15 1901 79]
def o8_20 : List AOper := [mv 80 2000 9, mv 81 2001 15, ⟨some 82, none, 2002, .idxA 1 (.t 80) (.t 81)⟩, ld 83 2003 82, ⟨some 84, none, 2004, .bin .add .int (.t 83) (.c (.d (.int .u8 1)))⟩, ⟨some 85, none, 2005, .idxA 1 (.t 80) (.t 81)⟩, ⟨none, none, 2006, .store 1 (.t 85) (.t 84)⟩]
def o8_21 : List AOper := [bc 86 2100 .add 77 1, mv 77 2101 86]
def o8_22 : List AOper := [mv 87 2200 3, mv 88 2201 87, gv 89 88 true 2202 13, pk 90 2203 88 89 false, mv 91 2204 90, gv 92 91 true 2205 0, gv 93 91 true 2206 4, ⟨some 94, some (91, true), 2207, .call 20 [.t 92, .t 93]⟩, pk 95 2208 91 94 false, mv 2 2209 95]
def o8_11t4_8 : List AOper := (o8_11.drop 4).take 4
def o8_11t9_13 : List AOper := (o8_11.drop 9).take 4
def o8_11t14_18 : List AOper := (o8_11.drop 14).take 4
def o8_22t2_4 : List AOper := (o8_22.drop 2).take 2
def o8_22t5_9 : List AOper := (o8_22.drop 5).take 4
def c8_7 : AC := .cond (.t 18) (.seq (.reg o8_3) .ret) .skip
def c8_14 : AC := .cond (.t 21) (.seq (.reg o8_5) .ret) .skip
def c8_26 : AC := .cond (.t 66) .skip (.exit 0)
def c8_31 : AC := .reg o8_16
def c8_32 : AC := .seq (.block 1 (.seq (.reg o8_14) (.reg o8_15))) c8_31
def c8_34 : AC := .seq (.reg o8_13) (.seq c8_26 c8_32)
def c8_36 : AC := .block 0 (.loop c8_34)
def c8_42 : AC := .cond (.t 78) .skip (.exit 2)
def c8_47 : AC := .reg o8_21
def c8_48 : AC := .seq (.block 3 (.seq (.reg o8_19) (.reg o8_20))) c8_47
def c8_50 : AC := .seq (.reg o8_18) (.seq c8_42 c8_48)
def c8_52 : AC := .block 2 (.loop c8_50)
def c8_56 : AC := .seq (.reg o8_22) .ret
def c8_57 : AC := .seq (.seq (.reg o8_17) c8_52) c8_56
def c8_58 : AC := .seq (.seq (.reg o8_12) c8_36) c8_57
def c8_59 : AC := .seq (.reg o8_11) c8_58
def c8_60 : AC := .seq (.reg o8_10) c8_59
def c8_61 : AC := .seq (.reg o8_9) c8_60
def c8_62 : AC := .seq (.reg o8_8) c8_61
def c8_63 : AC := .seq (.reg o8_7) c8_62
def c8_64 : AC := .seq (.reg o8_6) c8_63
def c8_65 : AC := .seq (.seq (.reg o8_4) c8_14) c8_64
def c8_66 : AC := .seq (.seq (.reg o8_2) c8_7) c8_65
def c8_68 : AC := .seq (.reg o8_0) (.seq (.reg o8_1) c8_66)
theorem fn8 : fnA Try.prog 8 = some (96, [.t 2], c8_68) := by kernel_rfl
def q_ok_thrumlaw04_CrcSeals_l0_ok (a0 : List Int) (r1 : Bool) (r2 : (List Int) × Int) (r4 : (List Int) × Int) (j10 : Bool) (x0 : Int) (x1 : List Int) (v : Unit) : Prop := (fun v => go Try.prog 96 (PostN (.exit 0) (fun x : Unit => ⟨[(13, bB j10), (9, sY (.s 14416) r4.1), (4, sY (.s 9631) a0), (3, bB r1), (0, lY a0)], []⟩) v) [.l c8_34] .norm ⟨[(65, nI x0), (64, nI (r2.1.length : Int)), (13, bB j10), (9, sY (.s 14416) r4.1), (5, sY (.h 0) x1), (4, sY (.s 9631) a0), (3, bB r1), (0, lY a0)], []⟩) v
theorem ok_thrumlaw04_CrcSeals_l0_ok (a0 : List Int) (r1 : Bool) (r2 : (List Int) × Int) (r4 : (List Int) × Int) (j10 : Bool) (x0 : Int) (x1 : List Int) : Ok (M_thrumlaw04_CrcSeals_l0 a0 r1 r2 r4 j10 x0 x1) (q_ok_thrumlaw04_CrcSeals_l0_ok a0 r1 r2 r4 j10 x0 x1) := by
  refine M_thrumlaw04_CrcSeals_l0.partial_correctness a0 r1 r2 r4 j10 (q_ok_thrumlaw04_CrcSeals_l0_ok a0 r1 r2 r4 j10) ?_ x0 x1
  clear x0 x1
  intro f' IH x0 x1
  refine okI ?_
  unfold q_ok_thrumlaw04_CrcSeals_l0_ok at *
  refine Av 1 [.c c8_34, .l c8_34] ⟨[(65, nI x0), (64, nI (r2.1.length : Int)), (13, bB j10), (9, sY (.s 14416) r4.1), (5, sY (.h 0) x1), (4, sY (.s 9631) a0), (3, bB r1), (0, lY a0)], []⟩ ?_
  refine Av 5 [.c c8_26, .c c8_32, .l c8_34] ⟨[(66, bB (decide (x0 < (r2.1.length : Int)))), (65, nI x0), (64, nI (r2.1.length : Int)), (13, bB j10), (9, sY (.s 14416) r4.1), (5, sY (.h 0) x1), (4, sY (.s 9631) a0), (3, bB r1), (0, lY a0)], []⟩ ?_
  refine L_split 66 rfl (fun _ => ?_) (fun _ => ?_)
  · refine Av 12 [.o false (o8_15.drop 2), .b 1, .c c8_31, .l c8_34] ⟨[(69, nI x0), (68, sY (.h 0) x1), (65, nI x0), (64, nI (r2.1.length : Int)), (13, bB j10), (9, sY (.s 14416) r4.1), (5, sY (.h 0) x1), (4, sY (.s 9631) a0), (3, bB r1), (0, lY a0)], []⟩ ?_
    refine L_idxO (enc := D.int .u8) (l := x1) (iv := x0) trivial rfl rfl (fun hc1502 => ?_)
    refine Av 2 [.o false (o8_15.drop 5), .b 1, .c c8_31, .l c8_34] ⟨[(72, nY (IntKind.u8.wrap ((at' x1 x0) + 1))), (69, nI x0), (68, sY (.h 0) x1), (65, nI x0), (64, nI (r2.1.length : Int)), (13, bB j10), (9, sY (.s 14416) r4.1), (5, sY (.h 0) x1), (4, sY (.s 9631) a0), (3, bB r1), (0, lY a0)], []⟩ ?_
    refine L_idxO (enc := D.int .u8) (l := x1) (iv := x0) trivial rfl rfl (fun hc1505 => ?_)
    refine Av 0 [.o false (o8_15.drop 6), .b 1, .c c8_31, .l c8_34] ⟨[(73, .ep (.h 0) 1 (0 + Int.toNat x0) none (some (.int .u8 (at' x1 x0)))), (72, nY (IntKind.u8.wrap ((at' x1 x0) + 1))), (65, nI x0), (64, nI (r2.1.length : Int)), (13, bB j10), (9, sY (.s 14416) r4.1), (5, sY (.h 0) x1), (4, sY (.s 9631) a0), (3, bB r1), (0, lY a0)], []⟩ ?_
    refine L_sto (p := nY (IntKind.u8.wrap ((at' x1 x0) + 1))) (d := .int .u8 (IntKind.u8.wrap ((at' x1 x0) + 1))) trivial rfl rfl rfl (of_decide_eq_true (by kernel_rfl)) rfl ?_
    refine Av 0 [.o false (o8_15.drop 7), .b 1, .c c8_31, .l c8_34] ⟨[(65, nI x0), (64, nI (r2.1.length : Int)), (13, bB j10), (9, sY (.s 14416) r4.1), (5, .sl (.h 0) 1 0 (updEs none (.int .u8 (IntKind.u8.wrap ((at' x1 x0) + 1))) (List.map (D.int .u8) x1) (0 + Int.toNat x0))), (4, sY (.s 9631) a0), (3, bB r1), (0, lY a0)], []⟩ ?_
    refine L_rw (fun z => ⟨[(65, nI x0), (64, nI (r2.1.length : Int)), (13, bB j10), (9, sY (.s 14416) r4.1), (5, .sl (.h 0) 1 0 z), (4, sY (.s 9631) a0), (3, bB r1), (0, lY a0)], []⟩) (b := List.map (D.int .u8) (x1.set (Int.toNat x0) (IntKind.u8.wrap ((at' x1 x0) + 1)))) (by rw [Nat.zero_add]; exact set_map) ?_
    refine Al 6 [.l c8_34] .norm (fun y11 : List Int => ⟨[(65, nI (IntKind.i64.wrap (x0 + 1))), (64, nI (r2.1.length : Int)), (13, bB j10), (9, sY (.s 14416) r4.1), (5, sY (.h 0) y11), (4, sY (.s 9631) a0), (3, bB r1), (0, lY a0)], []⟩) (fun y11 => ?_)
    exact L_again (IH (IntKind.i64.wrap (x0 + 1)) y11)
  · refine Avk 4 [] (.exit 0) ⟨[(13, bB j10), (9, sY (.s 14416) r4.1), (4, sY (.s 9631) a0), (3, bB r1), (0, lY a0)], []⟩ ?_
    exact L_end
def q_ok_thrumlaw04_CrcSeals_l1_ok (a0 : List Int) (r1 : Bool) (r4 : (List Int) × Int) (j10 : Bool) (x0 : Int) (x1 : List Int) (v : Unit) : Prop := (fun v => go Try.prog 96 (PostN (.exit 2) (fun x : Unit => ⟨[(13, bB j10), (4, sY (.s 9631) a0), (3, bB r1), (0, lY a0)], []⟩) v) [.l c8_50] .norm ⟨[(77, nI x0), (76, nI (r4.1.length : Int)), (13, bB j10), (9, sY (.h 0) x1), (4, sY (.s 9631) a0), (3, bB r1), (0, lY a0)], []⟩) v
theorem ok_thrumlaw04_CrcSeals_l1_ok (a0 : List Int) (r1 : Bool) (r4 : (List Int) × Int) (j10 : Bool) (x0 : Int) (x1 : List Int) : Ok (M_thrumlaw04_CrcSeals_l1 a0 r1 r4 j10 x0 x1) (q_ok_thrumlaw04_CrcSeals_l1_ok a0 r1 r4 j10 x0 x1) := by
  refine M_thrumlaw04_CrcSeals_l1.partial_correctness a0 r1 r4 j10 (q_ok_thrumlaw04_CrcSeals_l1_ok a0 r1 r4 j10) ?_ x0 x1
  clear x0 x1
  intro f' IH x0 x1
  refine okI ?_
  unfold q_ok_thrumlaw04_CrcSeals_l1_ok at *
  refine Av 1 [.c c8_50, .l c8_50] ⟨[(77, nI x0), (76, nI (r4.1.length : Int)), (13, bB j10), (9, sY (.h 0) x1), (4, sY (.s 9631) a0), (3, bB r1), (0, lY a0)], []⟩ ?_
  refine Av 5 [.c c8_42, .c c8_48, .l c8_50] ⟨[(78, bB (decide (x0 < (r4.1.length : Int)))), (77, nI x0), (76, nI (r4.1.length : Int)), (13, bB j10), (9, sY (.h 0) x1), (4, sY (.s 9631) a0), (3, bB r1), (0, lY a0)], []⟩ ?_
  refine L_split 78 rfl (fun _ => ?_) (fun _ => ?_)
  · refine Av 12 [.o false (o8_20.drop 2), .b 3, .c c8_47, .l c8_50] ⟨[(81, nI x0), (80, sY (.h 0) x1), (77, nI x0), (76, nI (r4.1.length : Int)), (13, bB j10), (9, sY (.h 0) x1), (4, sY (.s 9631) a0), (3, bB r1), (0, lY a0)], []⟩ ?_
    refine L_idxO (enc := D.int .u8) (l := x1) (iv := x0) trivial rfl rfl (fun hc2002 => ?_)
    refine Av 2 [.o false (o8_20.drop 5), .b 3, .c c8_47, .l c8_50] ⟨[(84, nY (IntKind.u8.wrap ((at' x1 x0) + 1))), (81, nI x0), (80, sY (.h 0) x1), (77, nI x0), (76, nI (r4.1.length : Int)), (13, bB j10), (9, sY (.h 0) x1), (4, sY (.s 9631) a0), (3, bB r1), (0, lY a0)], []⟩ ?_
    refine L_idxO (enc := D.int .u8) (l := x1) (iv := x0) trivial rfl rfl (fun hc2005 => ?_)
    refine Av 0 [.o false (o8_20.drop 6), .b 3, .c c8_47, .l c8_50] ⟨[(85, .ep (.h 0) 1 (0 + Int.toNat x0) none (some (.int .u8 (at' x1 x0)))), (84, nY (IntKind.u8.wrap ((at' x1 x0) + 1))), (77, nI x0), (76, nI (r4.1.length : Int)), (13, bB j10), (9, sY (.h 0) x1), (4, sY (.s 9631) a0), (3, bB r1), (0, lY a0)], []⟩ ?_
    refine L_sto (p := nY (IntKind.u8.wrap ((at' x1 x0) + 1))) (d := .int .u8 (IntKind.u8.wrap ((at' x1 x0) + 1))) trivial rfl rfl rfl (of_decide_eq_true (by kernel_rfl)) rfl ?_
    refine Av 0 [.o false (o8_20.drop 7), .b 3, .c c8_47, .l c8_50] ⟨[(77, nI x0), (76, nI (r4.1.length : Int)), (13, bB j10), (9, .sl (.h 0) 1 0 (updEs none (.int .u8 (IntKind.u8.wrap ((at' x1 x0) + 1))) (List.map (D.int .u8) x1) (0 + Int.toNat x0))), (4, sY (.s 9631) a0), (3, bB r1), (0, lY a0)], []⟩ ?_
    refine L_rw (fun z => ⟨[(77, nI x0), (76, nI (r4.1.length : Int)), (13, bB j10), (9, .sl (.h 0) 1 0 z), (4, sY (.s 9631) a0), (3, bB r1), (0, lY a0)], []⟩) (b := List.map (D.int .u8) (x1.set (Int.toNat x0) (IntKind.u8.wrap ((at' x1 x0) + 1)))) (by rw [Nat.zero_add]; exact set_map) ?_
    refine Al 6 [.l c8_50] .norm (fun y14 : List Int => ⟨[(77, nI (IntKind.i64.wrap (x0 + 1))), (76, nI (r4.1.length : Int)), (13, bB j10), (9, sY (.h 0) y14), (4, sY (.s 9631) a0), (3, bB r1), (0, lY a0)], []⟩) (fun y14 => ?_)
    exact L_again (IH (IntKind.i64.wrap (x0 + 1)) y14)
  · refine Avk 4 [] (.exit 2) ⟨[(13, bB j10), (4, sY (.s 9631) a0), (3, bB r1), (0, lY a0)], []⟩ ?_
    exact L_end
theorem ok_thrumlaw04_CrcSeals (a0 : List Int) : ∀ v, M_thrumlaw04_CrcSeals a0 = some v → EvF Try.prog 8 [.lst (List.map (D.int .u8) a0)] (en_thrumlaw04_CrcSeals v) := by
  intro v hv
  refine EvF_go fn8 (Nat.le_of_ble_eq_true rfl) ?_
  suffices h : Ok (M_thrumlaw04_CrcSeals a0) fun v => go Try.prog 96 (Fnl [.t 2] (en_thrumlaw04_CrcSeals v) []) [.c c8_68] .norm (initSt (List.map PV.d [.lst (List.map (D.int .u8) a0)]) []) from h v hv
  unfold M_thrumlaw04_CrcSeals
  refine Av 6 [.o false o8_1, .c c8_66] ⟨[(0, lY a0)], []⟩ ?_
  refine L_call (ok_thrumlaw04_live) trivial rfl (fun _ => rfl) (fun _ => trivial) (fun r1 => ?_)
  refine Av 8 [.c c8_7, .c c8_65] ⟨[(18, bB (!r1)), (3, bB r1), (0, lY a0)], []⟩ ?_
  refine L_split 18 decF (fun _ => ?_) (fun _ => ?_)
  · refine Avk 7 [] .ret ⟨[(2, bB false)], []⟩ ?_
    exact L_ret
  · refine Av 6 [.o false (o8_4.drop 1), .c c8_14, .c c8_64] ⟨[(19, lY a0), (3, bB r1), (0, lY a0)], []⟩ ?_
    refine L_len (enc := D.int .u8) (l := a0) trivial rfl ?_
    refine Av 2 [.c c8_14, .c c8_64] ⟨[(21, bB (decide ((a0.length : Int) > 66000))), (3, bB r1), (0, lY a0)], []⟩ ?_
    refine L_split 21 rfl (fun _ => ?_) (fun _ => ?_)
    · refine Avk 8 [] .ret ⟨[(2, bB r1)], []⟩ ?_
      exact L_ret
    · refine Av 5 [.o false (o8_6.drop 1), .c c8_63] ⟨[(23, lY a0), (3, bB r1), (0, lY a0)], []⟩ ?_
      refine L_appN (enc := D.int .u8) (l2 := a0) trivial rfl rfl (fun _ => rfl) (fun _ => ?_)
      refine Av 5 [.o false (o8_7.drop 1), .c c8_62] ⟨[(26, lY a0), (4, sY (.s 9631) a0), (3, bB r1), (0, lY a0)], []⟩ ?_
      refine L_call (ok_crc_Seal a0) trivial rfl (fun _ => rfl) (fun _ => ⟨(flat_map_of fun _ => trivial), trivial, trivial⟩) (fun r2 => ?_)
      refine Av 9 [.o false (o8_8.drop 1), .c c8_61] ⟨[(31, lY a0), (6, nI r2.2), (5, sY (.s 11216) r2.1), (4, sY (.s 9631) a0), (3, bB r1), (0, lY a0)], []⟩ ?_
      refine L_call (ok_thrumref04_Seal a0) trivial rfl (fun _ => rfl) (fun _ => ⟨(flat_map_of fun _ => trivial), trivial, trivial⟩) (fun r3 => ?_)
      refine Av 9 [.o false (o8_9.drop 1), .c c8_60] ⟨[(36, lY a0), (8, nI r3.2), (7, sY (.s 12816) r3.1), (6, nI r2.2), (5, sY (.s 11216) r2.1), (4, sY (.s 9631) a0), (3, bB r1), (0, lY a0)], []⟩ ?_
      refine L_call (ok_crc_Open a0) trivial rfl (fun _ => rfl) (fun _ => ⟨(flat_map_of fun _ => trivial), trivial, trivial⟩) (fun r4 => ?_)
      refine Av 9 [.o false (o8_10.drop 1), .c c8_59] ⟨[(41, lY a0), (10, nI r4.2), (9, sY (.s 14416) r4.1), (8, nI r3.2), (7, sY (.s 12816) r3.1), (6, nI r2.2), (5, sY (.s 11216) r2.1), (4, sY (.s 9631) a0), (3, bB r1), (0, lY a0)], []⟩ ?_
      refine L_call (ok_thrumref04_Open a0) trivial rfl (fun _ => rfl) (fun _ => ⟨(flat_map_of fun _ => trivial), trivial, trivial⟩) (fun r5 => ?_)
      refine Av 10 [.o false (o8_11.drop 2), .c c8_58] ⟨[(46, sY (.s 12816) r3.1), (45, sY (.s 11216) r2.1), (12, nI r5.2), (11, sY (.s 16016) r5.1), (10, nI r4.2), (9, sY (.s 14416) r4.1), (8, nI r3.2), (6, nI r2.2), (5, sY (.s 11216) r2.1), (4, sY (.s 9631) a0), (3, bB r1), (0, lY a0)], []⟩ ?_
      refine L_call (ok_thrumref03_Same r2.1 r3.1) trivial rfl (fun _ => rfl) (fun _ => trivial) (fun r6 => ?_)
      refine Av 1 [.o false (o8_11.drop 4), .c c8_58] ⟨[(48, bB r6), (12, nI r5.2), (11, sY (.s 16016) r5.1), (10, nI r4.2), (9, sY (.s 14416) r4.1), (8, nI r3.2), (6, nI r2.2), (5, sY (.s 11216) r2.1), (4, sY (.s 9631) a0), (3, bB r1), (0, lY a0)], []⟩ ?_
      refine L_take 4 o8_11t4_8 (o8_11.drop 8) ?_
      refine L_join [.o false o8_11t4_8] [.o false (o8_11.drop 8), .c c8_58] (fun x : Bool => ⟨[(52, bB x), (12, nI r5.2), (11, sY (.s 16016) r5.1), (10, nI r4.2), (9, sY (.s 14416) r4.1), (5, sY (.s 11216) r2.1), (4, sY (.s 9631) a0), (3, bB r1), (0, lY a0)], []⟩) ?_ (fun j7 => ?_)
      · refine L_split 48 decT (fun _ => ?_) (fun _ => ?_)
        · refine Av 5 [] ⟨[(52, bB (r2.2 == r3.2)), (12, nI r5.2), (11, sY (.s 16016) r5.1), (10, nI r4.2), (9, sY (.s 14416) r4.1), (5, sY (.s 11216) r2.1), (4, sY (.s 9631) a0), (3, bB r1), (0, lY a0)], []⟩ ?_
          exact L_end
        · refine Av 5 [] ⟨[(52, bB false), (12, nI r5.2), (11, sY (.s 16016) r5.1), (10, nI r4.2), (9, sY (.s 14416) r4.1), (5, sY (.s 11216) r2.1), (4, sY (.s 9631) a0), (3, bB r1), (0, lY a0)], []⟩ ?_
          exact L_end
      · refine Av 1 [.o false (o8_11.drop 9), .c c8_58] ⟨[(53, bB j7), (12, nI r5.2), (11, sY (.s 16016) r5.1), (10, nI r4.2), (9, sY (.s 14416) r4.1), (5, sY (.s 11216) r2.1), (4, sY (.s 9631) a0), (3, bB r1), (0, lY a0)], []⟩ ?_
        refine L_take 4 o8_11t9_13 (o8_11.drop 13) ?_
        refine L_join [.o false o8_11t9_13] [.o false (o8_11.drop 13), .c c8_58] (fun x : Bool => ⟨[(57, bB x), (12, nI r5.2), (10, nI r4.2), (9, sY (.s 14416) r4.1), (5, sY (.s 11216) r2.1), (4, sY (.s 9631) a0), (3, bB r1), (0, lY a0)], []⟩) ?_ (fun j9 => ?_)
        · refine L_split 53 decT (fun _ => ?_) (fun _ => ?_)
          · refine Av 2 [.o false (o8_11t9_13.drop 2)] ⟨[(55, sY (.s 16016) r5.1), (53, bB true), (54, sY (.s 14416) r4.1), (12, nI r5.2), (10, nI r4.2), (9, sY (.s 14416) r4.1), (5, sY (.s 11216) r2.1), (4, sY (.s 9631) a0), (3, bB r1), (0, lY a0)], []⟩ ?_
            refine L_call (ok_thrumref03_Same r4.1 r5.1) rfl rfl (fun _ => rfl) (fun _ => trivial) (fun r8 => ?_)
            refine Av 2 [] ⟨[(57, bB r8), (12, nI r5.2), (10, nI r4.2), (9, sY (.s 14416) r4.1), (5, sY (.s 11216) r2.1), (4, sY (.s 9631) a0), (3, bB r1), (0, lY a0)], []⟩ ?_
            exact L_end
          · refine Av 5 [] ⟨[(57, bB false), (12, nI r5.2), (10, nI r4.2), (9, sY (.s 14416) r4.1), (5, sY (.s 11216) r2.1), (4, sY (.s 9631) a0), (3, bB r1), (0, lY a0)], []⟩ ?_
            exact L_end
        · refine Av 1 [.o false (o8_11.drop 14), .c c8_58] ⟨[(58, bB j9), (12, nI r5.2), (10, nI r4.2), (9, sY (.s 14416) r4.1), (5, sY (.s 11216) r2.1), (4, sY (.s 9631) a0), (3, bB r1), (0, lY a0)], []⟩ ?_
          refine L_take 4 o8_11t14_18 (o8_11.drop 18) ?_
          refine L_join [.o false o8_11t14_18] [.o false (o8_11.drop 18), .c c8_58] (fun x : Bool => ⟨[(62, bB x), (9, sY (.s 14416) r4.1), (5, sY (.s 11216) r2.1), (4, sY (.s 9631) a0), (3, bB r1), (0, lY a0)], []⟩) ?_ (fun j10 => ?_)
          · refine L_split 58 decT (fun _ => ?_) (fun _ => ?_)
            · refine Av 5 [] ⟨[(62, bB (r4.2 == r5.2)), (9, sY (.s 14416) r4.1), (5, sY (.s 11216) r2.1), (4, sY (.s 9631) a0), (3, bB r1), (0, lY a0)], []⟩ ?_
              exact L_end
            · refine Av 5 [] ⟨[(62, bB false), (9, sY (.s 14416) r4.1), (5, sY (.s 11216) r2.1), (4, sY (.s 9631) a0), (3, bB r1), (0, lY a0)], []⟩ ?_
              exact L_end
          · refine Av 6 [.o false (o8_12.drop 1), .c c8_36, .c c8_57] ⟨[(63, sY (.s 11216) r2.1), (13, bB j10), (9, sY (.s 14416) r4.1), (5, sY (.s 11216) r2.1), (4, sY (.s 9631) a0), (3, bB r1), (0, lY a0)], []⟩ ?_
            refine L_len (enc := D.int .u8) (l := r2.1) trivial rfl ?_
            refine Av 4 [.l c8_34, .b 0, .c c8_57] ⟨[(65, nI 0), (64, nI (r2.1.length : Int)), (13, bB j10), (9, sY (.s 14416) r4.1), (5, sY (.s 11216) r2.1), (4, sY (.s 9631) a0), (3, bB r1), (0, lY a0)], []⟩ ?_
            refine L_piece (fs := [.l c8_34]) (ks := [.b 0, .c c8_57]) (ok_thrumlaw04_CrcSeals_l0_ok a0 r1 r2 r4 j10 0 r2.1) (fun j13 => ?_)
            refine Av 5 [.o false (o8_17.drop 1), .c c8_52, .c c8_56] ⟨[(75, sY (.s 14416) r4.1), (13, bB j10), (9, sY (.s 14416) r4.1), (4, sY (.s 9631) a0), (3, bB r1), (0, lY a0)], []⟩ ?_
            refine L_len (enc := D.int .u8) (l := r4.1) trivial rfl ?_
            refine Av 4 [.l c8_50, .b 2, .c c8_56] ⟨[(77, nI 0), (76, nI (r4.1.length : Int)), (13, bB j10), (9, sY (.s 14416) r4.1), (4, sY (.s 9631) a0), (3, bB r1), (0, lY a0)], []⟩ ?_
            refine L_piece (fs := [.l c8_50]) (ks := [.b 2, .c c8_56]) (ok_thrumlaw04_CrcSeals_l1_ok a0 r1 r4 j10 0 r4.1) (fun j16 => ?_)
            refine Av 5 [.o false (o8_22.drop 2), .c .ret] ⟨[(88, bB r1), (13, bB j10), (4, sY (.s 9631) a0), (0, lY a0)], []⟩ ?_
            refine L_take 2 o8_22t2_4 (o8_22.drop 4) ?_
            refine L_join [.o false o8_22t2_4] [.o false (o8_22.drop 4), .c .ret] (fun x : Bool => ⟨[(90, bB x), (4, sY (.s 9631) a0), (0, lY a0)], []⟩) ?_ (fun j17 => ?_)
            · refine L_split 88 decT (fun _ => ?_) (fun _ => ?_)
              · refine Av 3 [] ⟨[(90, bB j10), (4, sY (.s 9631) a0), (0, lY a0)], []⟩ ?_
                exact L_end
              · refine Av 3 [] ⟨[(90, bB false), (4, sY (.s 9631) a0), (0, lY a0)], []⟩ ?_
                exact L_end
            · refine Av 1 [.o false (o8_22.drop 5), .c .ret] ⟨[(91, bB j17), (4, sY (.s 9631) a0), (0, lY a0)], []⟩ ?_
              refine L_take 4 o8_22t5_9 (o8_22.drop 9) ?_
              refine L_join [.o false o8_22t5_9] [.o false (o8_22.drop 9), .c .ret] (fun x : Bool => ⟨[(95, bB x)], []⟩) ?_ (fun j19 => ?_)
              · refine L_split 91 decT (fun _ => ?_) (fun _ => ?_)
                · refine Av 2 [.o false (o8_22t5_9.drop 2)] ⟨[(93, sY (.s 9631) a0), (91, bB true), (92, lY a0)], []⟩ ?_
                  refine L_call (ok_thrumref03_Same a0 a0) rfl rfl (fun _ => rfl) (fun _ => trivial) (fun r18 => ?_)
                  refine Av 2 [] ⟨[(95, bB r18)], []⟩ ?_
                  exact L_end
                · refine Av 5 [] ⟨[(95, bB false)], []⟩ ?_
                  exact L_end
              · refine Avk 3 [] .ret ⟨[(2, bB j19)], []⟩ ?_
                exact L_ret
/-- thrum/thrumlaw04.CrcBursts. -/
def en_thrumlaw04_CrcBursts (v : Bool) : PV := bB v
def o9_0 : List AOper := [mb 6 0 false]
def o9_1 : List AOper := [cl' 19 100 24 [], mv 7 101 19]
def o9_2 : List AOper := [mv 20 200 7, ⟨some 21, none, 201, .un .not (.t 20)⟩]
def o9_3 : List AOper := [mb 6 300 false]
def o9_4 : List AOper := [mv 22 400 0, ln 23 401 22, bc 24 402 .gtr 23 3000]
def o9_5 : List AOper := [mv 25 500 7, mv 6 501 25]
def o9_6 : List AOper := [mv 27 600 0, cl' 28 601 31 [.t 27], mv 26 602 28, xt 29 603 26 0, xt 30 604 26 1, mv 8 605 29, mv 9 606 30]
def o9_7 : List AOper := [mv 32 700 8, cl' 33 701 33 [.t 32], mv 31 702 33, xt 34 703 31 0, xt 35 704 31 1, mv 10 705 34, mv 11 706 35]
def o9_8 : List AOper := [mv 36 800 9, bc 37 801 .neq 36 0, mv 38 802 37, gv 39 38 false 803 11, ⟨some 40, some (38, false), 804, .bin .neq .int (.t 39) (.c (.d (.int .i64 0)))⟩, pz 41 805 38 40 true, mv 42 806 41, gv 43 42 false 807 10, gv 44 42 false 808 0, ⟨some 45, some (42, false), 809, .call 20 [.t 43, .t 44]⟩, ⟨some 46, some (42, false), 810, .un .not (.t 45)⟩, pz 47 811 42 46 true]
def o9_9 : List AOper := [mb 6 900 false]
def o9_10 : List AOper := [mv 48 1000 2, ⟨some 49, none, 1001, .bin .eql .int (.t 48) (.c (.d (.int .u32 0)))⟩]
def o9_11 : List AOper := [mv 50 1100 7, mv 6 1101 50]
def o9_12 : List AOper := [mv 51 1200 8, ln 52 1201 51, ⟨some 53, none, 1202, .bin .mul .int (.c (.d (.int .i64 8))) (.t 52)⟩, mv 12 1203 53]
def o9_13 : List AOper := [mv 54 1300 1, mv 55 1301 12, bi 56 1302 .rem 54 55, mv 57 1303 12, bi 58 1304 .add 56 57, mv 59 1305 12, bi 60 1306 .rem 58 59, mv 1 1307 60]
def o9_14 : List AOper := [mb 13 1400 false]
def o9_15 : List AOper := [mi 61 1500 0]
def o9_16 : List AOper := [bc 62 1600 .lss 61 32]
def o9_17 : List AOper := [mv 63 1700 61, mv 14 1701 63]
def o9_18 : List AOper := [mv 64 1800 2, mv 65 1801 14, bi 66 1802 .shr 64 65, ⟨some 67, none, 1803, .bin .and .int (.t 66) (.c (.d (.int .u32 1)))⟩, ⟨some 68, none, 1804, .bin .eql .int (.t 67) (.c (.d (.int .u32 1)))⟩, mv 69 1805 68, gv 70 69 true 1806 1, gv 71 69 true 1807 14, ⟨some 72, some (69, true), 1808, .bin .add .int (.t 70) (.t 71)⟩, gv 73 69 true 1809 12, ⟨some 74, some (69, true), 1810, .bin .lss .int (.t 72) (.t 73)⟩, pk 75 1811 69 74 false]
def o9_19 : List AOper := [mv 77 1900 8, mv 78 1901 1, mv 79 1902 14, bi 80 1903 .add 78 79, cl' 81 1904 26 [.t 77, .t 80], mv 76 1905 81, xt 82 1906 76 0, xt 83 1907 76 1, mv 15 1908 82, mv 16 1909 83]
def o9_20 : List AOper := [mv 84 2000 16, bc 85 2001 .neq 84 0]
def o9_21 : List AOper := [mb 6 2100 false]
def o9_22 : List AOper := [mv 86 2200 15, mv 8 2201 86]
def o9_23 : List AOper := [mb 13 2300 true]
def o9_24 : List AOper := [bc 87 2400 .add 61 1, mv 61 2401 87]
def o9_25 : List AOper := [mv 89 2500 8, cl' 90 2501 33 [.t 89], mv 88 2502 90, xt 91 2503 88 0, xt 92 2504 88 1, mv 17 2505 91, mv 18 2506 92]
def o9_26 : List AOper := [mv 93 2600 7, mv 94 2601 93, gv 95 94 true 2602 18, ⟨some 96, some (94, true), 2603, .bin .eql .int (.t 95) (.c (.d (.int .i64 7)))⟩, gv 97 94 true 2604 13, ⟨some 98, some (94, true), 2605, .bin .eql .bool (.t 96) (.t 97)⟩, pk 99 2606 94 98 false, mv 100 2607 99, gv 101 100 true 2608 13, gv 102 100 true 2609 101, gv 103 102 false 2610 18, ⟨some 104, some (102, false), 2611, .bin .eql .int (.t 103) (.c (.d (.int .i64 0)))⟩, ⟨some 105, some (100, true), 2612, .pick (.t 102) (.c (.d (.bool true))) (.t 104)⟩, pk 106 2613 100 105 false, mv 6 2614 106]
def o9_8t3_6 : List AOper := (o9_8.drop 3).take 3
def o9_8t7_12 : List AOper := (o9_8.drop 7).take 5
def o9_18t6_12 : List AOper := (o9_18.drop 6).take 6
def o9_26t2_7 : List AOper := (o9_26.drop 2).take 5
def c9_7 : AC := .cond (.t 21) (.seq (.reg o9_3) .ret) .skip
def c9_14 : AC := .cond (.t 24) (.seq (.reg o9_5) .ret) .skip
def c9_23 : AC := .cond (.t 47) (.seq (.reg o9_9) .ret) .skip
def c9_30 : AC := .cond (.t 49) (.seq (.reg o9_11) .ret) .skip
def c9_39 : AC := .cond (.t 62) .skip (.exit 0)
def c9_48 : AC := .cond (.t 85) (.seq (.reg o9_21) .ret) .skip
def c9_52 : AC := .seq (.reg o9_22) (.reg o9_23)
def c9_53 : AC := .seq (.seq (.reg o9_20) c9_48) c9_52
def c9_56 : AC := .cond (.t 75) (.seq (.reg o9_19) c9_53) .skip
def c9_60 : AC := .reg o9_24
def c9_61 : AC := .seq (.block 1 (.seq (.reg o9_17) (.seq (.reg o9_18) c9_56))) c9_60
def c9_63 : AC := .seq (.reg o9_16) (.seq c9_39 c9_61)
def c9_70 : AC := .seq (.reg o9_26) .ret
def c9_71 : AC := .seq (.reg o9_25) c9_70
def c9_73 : AC := .seq (.reg o9_14) (.seq (.seq (.reg o9_15) (.block 0 (.loop c9_63))) c9_71)
def c9_74 : AC := .seq (.reg o9_13) c9_73
def c9_75 : AC := .seq (.reg o9_12) c9_74
def c9_76 : AC := .seq (.seq (.reg o9_10) c9_30) c9_75
def c9_77 : AC := .seq (.seq (.reg o9_8) c9_23) c9_76
def c9_78 : AC := .seq (.reg o9_7) c9_77
def c9_79 : AC := .seq (.reg o9_6) c9_78
def c9_80 : AC := .seq (.seq (.reg o9_4) c9_14) c9_79
def c9_81 : AC := .seq (.seq (.reg o9_2) c9_7) c9_80
def c9_83 : AC := .seq (.reg o9_0) (.seq (.reg o9_1) c9_81)
theorem fn9 : fnA Try.prog 9 = some (107, [.t 6], c9_83) := by kernel_rfl
def q_ok_thrumlaw04_CrcBursts_l0_ok (a2 : Int) (r1 : Bool) (r2 : (List Int) × Int) (y7 : Int) (x0 : Int) (x1 : Bool) (x2 : List Int) (v : (Sum Bool (Bool × (List Int)))) : Prop := (fun v => go Try.prog 107 (PostR (fun r => Fnl [.t 6] (en_thrumlaw04_CrcBursts r) []) (.exit 0) (fun x : Bool × (List Int) => ⟨[(13, bB x.1), (8, sY (.h 0) x.2), (7, bB r1)], []⟩) v) [.l c9_63] .norm ⟨[(61, nI x0), (13, bB x1), (1, nI (Int.tmod y7 (IntKind.i64.wrap (8 * (r2.1.length : Int))))), (12, nI (IntKind.i64.wrap (8 * (r2.1.length : Int)))), (8, sY (.h 0) x2), (7, bB r1), (2, nW a2)], []⟩) v
theorem ok_thrumlaw04_CrcBursts_l0_ok (a2 : Int) (r1 : Bool) (r2 : (List Int) × Int) (y7 : Int) (x0 : Int) (x1 : Bool) (x2 : List Int) : Ok (M_thrumlaw04_CrcBursts_l0 a2 r1 r2 y7 x0 x1 x2) (q_ok_thrumlaw04_CrcBursts_l0_ok a2 r1 r2 y7 x0 x1 x2) := by
  refine M_thrumlaw04_CrcBursts_l0.partial_correctness a2 r1 r2 y7 (q_ok_thrumlaw04_CrcBursts_l0_ok a2 r1 r2 y7) ?_ x0 x1 x2
  clear x0 x1 x2
  intro f' IH x0 x1 x2
  refine okI ?_
  unfold q_ok_thrumlaw04_CrcBursts_l0_ok at *
  refine Av 1 [.c c9_63, .l c9_63] ⟨[(61, nI x0), (13, bB x1), (1, nI (Int.tmod y7 (IntKind.i64.wrap (8 * (r2.1.length : Int))))), (12, nI (IntKind.i64.wrap (8 * (r2.1.length : Int)))), (8, sY (.h 0) x2), (7, bB r1), (2, nW a2)], []⟩ ?_
  refine Av 5 [.c c9_39, .c c9_61, .l c9_63] ⟨[(62, bB (decide (x0 < 32))), (61, nI x0), (13, bB x1), (1, nI (Int.tmod y7 (IntKind.i64.wrap (8 * (r2.1.length : Int))))), (12, nI (IntKind.i64.wrap (8 * (r2.1.length : Int)))), (8, sY (.h 0) x2), (7, bB r1), (2, nW a2)], []⟩ ?_
  refine L_split 62 rfl (fun _ => ?_) (fun _ => ?_)
  · refine Av 13 [.o false (o9_18.drop 2), .c c9_56, .b 1, .c c9_60, .l c9_63] ⟨[(65, nI x0), (64, nW a2), (14, nI x0), (61, nI x0), (13, bB x1), (1, nI (Int.tmod y7 (IntKind.i64.wrap (8 * (r2.1.length : Int))))), (12, nI (IntKind.i64.wrap (8 * (r2.1.length : Int)))), (8, sY (.h 0) x2), (7, bB r1), (2, nW a2)], []⟩ ?_
    refine L_rd (c := 0 ≤ x0) (v := nW (sShr .u32 a2 x0)) trivial rfl (fun _ => ?_)
    refine Av 3 [.o false (o9_18.drop 6), .c c9_56, .b 1, .c c9_60, .l c9_63] ⟨[(69, bB ((bAnd .u32 (sShr .u32 a2 x0) 1) == 1)), (14, nI x0), (61, nI x0), (13, bB x1), (1, nI (Int.tmod y7 (IntKind.i64.wrap (8 * (r2.1.length : Int))))), (12, nI (IntKind.i64.wrap (8 * (r2.1.length : Int)))), (8, sY (.h 0) x2), (7, bB r1), (2, nW a2)], []⟩ ?_
    refine L_take 6 o9_18t6_12 (o9_18.drop 12) ?_
    refine L_join [.o false o9_18t6_12] [.o false (o9_18.drop 12), .c c9_56, .b 1, .c c9_60, .l c9_63] (fun x : Bool => ⟨[(75, bB x), (14, nI x0), (61, nI x0), (13, bB x1), (1, nI (Int.tmod y7 (IntKind.i64.wrap (8 * (r2.1.length : Int))))), (12, nI (IntKind.i64.wrap (8 * (r2.1.length : Int)))), (8, sY (.h 0) x2), (7, bB r1), (2, nW a2)], []⟩) ?_ (fun j9 => ?_)
    · refine L_split 69 decE (fun _ => ?_) (fun _ => ?_)
      · refine Av 7 [] ⟨[(75, bB (decide ((IntKind.i64.wrap ((Int.tmod y7 (IntKind.i64.wrap (8 * (r2.1.length : Int)))) + x0)) < (IntKind.i64.wrap (8 * (r2.1.length : Int)))))), (14, nI x0), (61, nI x0), (13, bB x1), (1, nI (Int.tmod y7 (IntKind.i64.wrap (8 * (r2.1.length : Int))))), (12, nI (IntKind.i64.wrap (8 * (r2.1.length : Int)))), (8, sY (.h 0) x2), (7, bB r1), (2, nW a2)], []⟩ ?_
        exact L_end
      · refine Av 7 [] ⟨[(75, bB false), (14, nI x0), (61, nI x0), (13, bB x1), (1, nI (Int.tmod y7 (IntKind.i64.wrap (8 * (r2.1.length : Int))))), (12, nI (IntKind.i64.wrap (8 * (r2.1.length : Int)))), (8, sY (.h 0) x2), (7, bB r1), (2, nW a2)], []⟩ ?_
        exact L_end
    · refine Av 1 [.c c9_56, .b 1, .c c9_60, .l c9_63] ⟨[(75, bB j9), (14, nI x0), (61, nI x0), (13, bB x1), (1, nI (Int.tmod y7 (IntKind.i64.wrap (8 * (r2.1.length : Int))))), (12, nI (IntKind.i64.wrap (8 * (r2.1.length : Int)))), (8, sY (.h 0) x2), (7, bB r1), (2, nW a2)], []⟩ ?_
      refine L_split 75 decT (fun _ => ?_) (fun _ => ?_)
      · refine Al 7 [.o false (o9_19.drop 4), .c c9_53, .b 1, .c c9_60, .l c9_63] .norm (fun y10 : Int => ⟨[(80, nI y10), (77, sY (.h 0) x2), (61, nI x0), (1, nI (Int.tmod y7 (IntKind.i64.wrap (8 * (r2.1.length : Int))))), (12, nI (IntKind.i64.wrap (8 * (r2.1.length : Int)))), (7, bB r1), (2, nW a2)], []⟩) (fun y10 => ?_)
        refine L_call (ok_crc_Turn x2 y10) trivial rfl (fun _ => rfl) (fun _ => ⟨(flat_map_of fun _ => trivial), trivial, trivial⟩) (fun r12 => ?_)
        refine Av 12 [.c c9_48, .c c9_52, .b 1, .c c9_60, .l c9_63] ⟨[(85, bB (r12.2 != 0)), (15, sY (.s 30464) r12.1), (61, nI x0), (1, nI (Int.tmod y7 (IntKind.i64.wrap (8 * (r2.1.length : Int))))), (12, nI (IntKind.i64.wrap (8 * (r2.1.length : Int)))), (7, bB r1), (2, nW a2)], []⟩ ?_
        refine L_split 85 decNe (fun _ => ?_) (fun _ => ?_)
        · refine Avk 10 [] .ret ⟨[(6, bB false)], []⟩ ?_
          exact L_retR
        · refine Av 15 [.l c9_63] ⟨[(61, nI (IntKind.i64.wrap (x0 + 1))), (13, bB true), (8, sY (.s 30464) r12.1), (1, nI (Int.tmod y7 (IntKind.i64.wrap (8 * (r2.1.length : Int))))), (12, nI (IntKind.i64.wrap (8 * (r2.1.length : Int)))), (7, bB r1), (2, nW a2)], []⟩ ?_
          exact L_again (IH (IntKind.i64.wrap (x0 + 1)) true r12.1)
      · refine Av 7 [.l c9_63] ⟨[(61, nI (IntKind.i64.wrap (x0 + 1))), (13, bB x1), (1, nI (Int.tmod y7 (IntKind.i64.wrap (8 * (r2.1.length : Int))))), (12, nI (IntKind.i64.wrap (8 * (r2.1.length : Int)))), (8, sY (.h 0) x2), (7, bB r1), (2, nW a2)], []⟩ ?_
        exact L_again (IH (IntKind.i64.wrap (x0 + 1)) x1 x2)
  · refine Avk 4 [] (.exit 0) ⟨[(13, bB x1), (8, sY (.h 0) x2), (7, bB r1)], []⟩ ?_
    exact L_endR
theorem ok_thrumlaw04_CrcBursts (a0 : List Int) (a1 : Int) (a2 : Int) : ∀ v, M_thrumlaw04_CrcBursts a0 a1 a2 = some v → EvF Try.prog 9 [.lst (List.map (D.int .u8) a0), .int .i64 a1, .int .u32 a2] (en_thrumlaw04_CrcBursts v) := by
  intro v hv
  refine EvF_go fn9 (Nat.le_of_ble_eq_true rfl) ?_
  suffices h : Ok (M_thrumlaw04_CrcBursts a0 a1 a2) fun v => go Try.prog 107 (Fnl [.t 6] (en_thrumlaw04_CrcBursts v) []) [.c c9_83] .norm (initSt (List.map PV.d [.lst (List.map (D.int .u8) a0), .int .i64 a1, .int .u32 a2]) []) from h v hv
  unfold M_thrumlaw04_CrcBursts
  refine Av 6 [.o false o9_1, .c c9_81] ⟨[(0, lY a0), (1, nI a1), (2, nW a2)], []⟩ ?_
  refine L_call (ok_thrumlaw04_live) trivial rfl (fun _ => rfl) (fun _ => trivial) (fun r1 => ?_)
  refine Av 8 [.c c9_7, .c c9_80] ⟨[(21, bB (!r1)), (7, bB r1), (0, lY a0), (1, nI a1), (2, nW a2)], []⟩ ?_
  refine L_split 21 decF (fun _ => ?_) (fun _ => ?_)
  · refine Avk 7 [] .ret ⟨[(6, bB false)], []⟩ ?_
    exact L_ret
  · refine Av 6 [.o false (o9_4.drop 1), .c c9_14, .c c9_79] ⟨[(22, lY a0), (7, bB r1), (0, lY a0), (1, nI a1), (2, nW a2)], []⟩ ?_
    refine L_len (enc := D.int .u8) (l := a0) trivial rfl ?_
    refine Av 2 [.c c9_14, .c c9_79] ⟨[(24, bB (decide ((a0.length : Int) > 3000))), (7, bB r1), (0, lY a0), (1, nI a1), (2, nW a2)], []⟩ ?_
    refine L_split 24 rfl (fun _ => ?_) (fun _ => ?_)
    · refine Avk 8 [] .ret ⟨[(6, bB r1)], []⟩ ?_
      exact L_ret
    · refine Av 5 [.o false (o9_6.drop 1), .c c9_78] ⟨[(27, lY a0), (7, bB r1), (0, lY a0), (1, nI a1), (2, nW a2)], []⟩ ?_
      refine L_call (ok_crc_Seal a0) trivial rfl (fun _ => rfl) (fun _ => ⟨(flat_map_of fun _ => trivial), trivial, trivial⟩) (fun r2 => ?_)
      refine Av 9 [.o false (o9_7.drop 1), .c c9_77] ⟨[(32, sY (.s 9616) r2.1), (9, nI r2.2), (8, sY (.s 9616) r2.1), (7, bB r1), (0, lY a0), (1, nI a1), (2, nW a2)], []⟩ ?_
      refine L_call (ok_crc_Open r2.1) trivial rfl (fun _ => rfl) (fun _ => ⟨(flat_map_of fun _ => trivial), trivial, trivial⟩) (fun r3 => ?_)
      refine Av 12 [.o false (o9_8.drop 3), .c c9_23, .c c9_76] ⟨[(38, bB (r2.2 != 0)), (11, nI r3.2), (10, sY (.s 11216) r3.1), (8, sY (.s 9616) r2.1), (7, bB r1), (0, lY a0), (1, nI a1), (2, nW a2)], []⟩ ?_
      refine L_take 3 o9_8t3_6 (o9_8.drop 6) ?_
      refine L_join [.o false o9_8t3_6] [.o false (o9_8.drop 6), .c c9_23, .c c9_76] (fun x : Bool => ⟨[(41, bB x), (10, sY (.s 11216) r3.1), (8, sY (.s 9616) r2.1), (7, bB r1), (0, lY a0), (1, nI a1), (2, nW a2)], []⟩) ?_ (fun j4 => ?_)
      · refine L_split 38 decNe (fun _ => ?_) (fun _ => ?_)
        · refine Av 4 [] ⟨[(41, bB true), (10, sY (.s 11216) r3.1), (8, sY (.s 9616) r2.1), (7, bB r1), (0, lY a0), (1, nI a1), (2, nW a2)], []⟩ ?_
          exact L_end
        · refine Av 4 [] ⟨[(41, bB (r3.2 != 0)), (10, sY (.s 11216) r3.1), (8, sY (.s 9616) r2.1), (7, bB r1), (0, lY a0), (1, nI a1), (2, nW a2)], []⟩ ?_
          exact L_end
      · refine Av 1 [.o false (o9_8.drop 7), .c c9_23, .c c9_76] ⟨[(42, bB j4), (10, sY (.s 11216) r3.1), (8, sY (.s 9616) r2.1), (7, bB r1), (0, lY a0), (1, nI a1), (2, nW a2)], []⟩ ?_
        refine L_take 5 o9_8t7_12 (o9_8.drop 12) ?_
        refine L_join [.o false o9_8t7_12] [.o false (o9_8.drop 12), .c c9_23, .c c9_76] (fun x : Bool => ⟨[(47, bB x), (8, sY (.s 9616) r2.1), (7, bB r1), (1, nI a1), (2, nW a2)], []⟩) ?_ (fun j6 => ?_)
        · refine L_split 42 decT (fun _ => ?_) (fun _ => ?_)
          · refine Av 6 [] ⟨[(47, bB true), (8, sY (.s 9616) r2.1), (7, bB r1), (1, nI a1), (2, nW a2)], []⟩ ?_
            exact L_end
          · refine Av 2 [.o false (o9_8t7_12.drop 2)] ⟨[(44, lY a0), (42, bB false), (43, sY (.s 11216) r3.1), (8, sY (.s 9616) r2.1), (7, bB r1), (1, nI a1), (2, nW a2)], []⟩ ?_
            refine L_call (ok_thrumref03_Same r3.1 a0) rfl rfl (fun _ => rfl) (fun _ => trivial) (fun r5 => ?_)
            refine Av 3 [] ⟨[(47, bB (!r5)), (8, sY (.s 9616) r2.1), (7, bB r1), (1, nI a1), (2, nW a2)], []⟩ ?_
            exact L_end
        · refine Av 1 [.c c9_23, .c c9_76] ⟨[(47, bB j6), (8, sY (.s 9616) r2.1), (7, bB r1), (1, nI a1), (2, nW a2)], []⟩ ?_
          refine L_split 47 decT (fun _ => ?_) (fun _ => ?_)
          · refine Avk 7 [] .ret ⟨[(6, bB false)], []⟩ ?_
            exact L_ret
          · refine Av 8 [.c c9_30, .c c9_75] ⟨[(49, bB (a2 == 0)), (8, sY (.s 9616) r2.1), (7, bB r1), (1, nI a1), (2, nW a2)], []⟩ ?_
            refine L_split 49 decE (fun _ => ?_) (fun _ => ?_)
            · refine Avk 8 [] .ret ⟨[(6, bB r1)], []⟩ ?_
              exact L_ret
            · refine Av 5 [.o false (o9_12.drop 1), .c c9_74] ⟨[(51, sY (.s 9616) r2.1), (8, sY (.s 9616) r2.1), (7, bB r1), (1, nI a1), (2, nW a2)], []⟩ ?_
              refine L_len (enc := D.int .u8) (l := r2.1) trivial rfl ?_
              refine Av 7 [.o false (o9_13.drop 2), .c c9_73] ⟨[(55, nI (IntKind.i64.wrap (8 * (r2.1.length : Int)))), (54, nI a1), (12, nI (IntKind.i64.wrap (8 * (r2.1.length : Int)))), (8, sY (.s 9616) r2.1), (7, bB r1), (2, nW a2)], []⟩ ?_
              refine L_rd (c := IntKind.i64.wrap (8 * (r2.1.length : Int)) ≠ 0) (v := nI (Int.tmod a1 (IntKind.i64.wrap (8 * (r2.1.length : Int))))) trivial rfl (fun _ => ?_)
              refine Al 3 [.o false (o9_13.drop 6), .c c9_73] .norm (fun y7 : Int => ⟨[(59, nI (IntKind.i64.wrap (8 * (r2.1.length : Int)))), (58, nI y7), (12, nI (IntKind.i64.wrap (8 * (r2.1.length : Int)))), (8, sY (.s 9616) r2.1), (7, bB r1), (2, nW a2)], []⟩) (fun y7 => ?_)
              refine L_rd (c := IntKind.i64.wrap (8 * (r2.1.length : Int)) ≠ 0) (v := nI (Int.tmod y7 (IntKind.i64.wrap (8 * (r2.1.length : Int))))) trivial rfl (fun _ => ?_)
              refine Av 13 [.l c9_63, .b 0, .c c9_71] ⟨[(61, nI 0), (13, bB false), (1, nI (Int.tmod y7 (IntKind.i64.wrap (8 * (r2.1.length : Int))))), (12, nI (IntKind.i64.wrap (8 * (r2.1.length : Int)))), (8, sY (.s 9616) r2.1), (7, bB r1), (2, nW a2)], []⟩ ?_
              refine L_pieceR (fs := [.l c9_63]) (ks := [.b 0, .c c9_71]) (ok_thrumlaw04_CrcBursts_l0_ok a2 r1 r2 y7 0 false r2.1) L_thru (fun j13 => ?_)
              refine Av 4 [.o false (o9_25.drop 1), .c c9_70] ⟨[(89, sY (.h 0) j13.2), (13, bB j13.1), (7, bB r1)], []⟩ ?_
              refine L_call (ok_crc_Open j13.2) trivial rfl (fun _ => rfl) (fun _ => ⟨(flat_map_of fun _ => trivial), trivial, trivial⟩) (fun r14 => ?_)
              refine Av 10 [.o false (o9_26.drop 2), .c .ret] ⟨[(94, bB r1), (18, nI r14.2), (13, bB j13.1)], []⟩ ?_
              refine L_take 5 o9_26t2_7 (o9_26.drop 7) ?_
              refine L_join [.o false o9_26t2_7] [.o false (o9_26.drop 7), .c .ret] (fun x : Bool => ⟨[(99, bB x), (18, nI r14.2), (13, bB j13.1)], []⟩) ?_ (fun j15 => ?_)
              · refine L_split 94 decT (fun _ => ?_) (fun _ => ?_)
                · refine Av 6 [] ⟨[(99, bB ((r14.2 == 7) == j13.1)), (18, nI r14.2), (13, bB j13.1)], []⟩ ?_
                  exact L_end
                · refine Av 6 [] ⟨[(99, bB false), (18, nI r14.2), (13, bB j13.1)], []⟩ ?_
                  exact L_end
              · refine Av 1 [.o false (o9_26.drop 8), .c .ret] ⟨[(100, bB j15), (18, nI r14.2), (13, bB j13.1)], []⟩ ?_
                refine L_split 100 decT (fun _ => ?_) (fun _ => ?_)
                · refine Av 2 [.o false (o9_26.drop 10), .c .ret] ⟨[(102, bB j13.1), (100, bB true), (18, nI r14.2)], []⟩ ?_
                  refine L_split 102 decT (fun _ => ?_) (fun _ => ?_)
                  · refine Avk 7 [] .ret ⟨[(6, bB true)], []⟩ ?_
                    exact L_ret
                  · refine Avk 7 [] .ret ⟨[(6, bB (r14.2 == 0))], []⟩ ?_
                    exact L_ret
                · refine Avk 9 [] .ret ⟨[(6, bB false)], []⟩ ?_
                  exact L_ret
end Go.Proofs.Ytaghpancpfpnhaa.Abs
