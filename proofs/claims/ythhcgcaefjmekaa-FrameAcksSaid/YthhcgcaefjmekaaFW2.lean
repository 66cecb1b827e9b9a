/- Walks of functions, printed by a program. Conditions: none. -/
import Derived.Test.YthhcgcaefjmekaaProg
import Derived.Test.YthhcgcaefjmekaaFW
namespace Go.Proofs.Ythhcgcaefjmekaa.Abs
open Go Go.RowKit
set_option linter.unusedVariables false
set_option maxRecDepth 100000
open Z
/-- thrum/leb.Get. -/
def en_leb_Get (v : Int × Int × Int) : PV := .tup [nU v.1, nI v.2.1, nI v.2.2]
def o143_0 : List AOper := [⟨some 4, none, 0, .mov (.c (.d (.int .u64 0)))⟩, mi 5 1 0, mi 6 2 0]
def o143_1 : List AOper := [mv 10 100 1, bc 11 101 .lss 10 0]
def o143_2 : List AOper := [⟨some 4, none, 200, .mov (.c (.d (.int .u64 0)))⟩, mi 5 201 0, mi 6 202 1]
def o143_3 : List AOper := [mv 12 300 0, mv 13 301 1, mv 14 302 0, ln 15 303 14, ⟨some 16, none, 304, .mnmx false (.t 13) (.t 15)⟩, ⟨some 17, none, 305, .sliceS 1 (.t 12) (some (.t 16)) none none⟩, ln 18 306 17, mi 19 307 0]
def o143_4 : List AOper := [bi 20 400 .lss 19 18]
def o143_5 : List AOper := [mv 21 500 19, ⟨some 22, none, 501, .idxA 1 (.t 17) (.t 19)⟩, ld 23 502 22, mv 7 503 21, mv 8 504 23]
def o143_6 : List AOper := [mv 24 600 8, ⟨some 25, none, 601, .bin .lss .int (.t 24) (.c (.d (.int .u8 128)))⟩, mv 9 602 25]
def o143_7 : List AOper := [mv 27 700 7, bc 28 701 .eql 27 9, mv 29 702 28, gv 30 29 true 703 8, ⟨some 31, some (29, true), 704, .bin .gtr .int (.t 30) (.c (.d (.int .u8 1)))⟩, pk 32 705 29 31 false, mv 26 706 32]
def o143_8 : List AOper := [mv 33 800 9, mv 34 801 33, gv 35 34 true 802 8, ⟨some 36, some (34, true), 803, .bin .eql .int (.t 35) (.c (.d (.int .u8 0)))⟩, pk 37 804 34 36 false, mv 38 805 37, gv 39 38 true 806 7, ⟨some 40, some (38, true), 807, .bin .gtr .int (.t 39) (.c (.d (.int .i64 0)))⟩, pk 41 808 38 40 false, mv 26 809 41]
def o143_9 : List AOper := [⟨some 4, none, 900, .mov (.c (.d (.int .u64 0)))⟩, mi 5 901 0, mi 6 902 6]
def o143_10 : List AOper := [mv 42 1000 4, mv 43 1001 8, ⟨some 44, none, 1002, .bin .and .int (.t 43) (.c (.d (.int .u8 127)))⟩, ⟨some 45, none, 1003, .convI .u64 (.t 44)⟩, mv 46 1004 7, ⟨some 47, none, 1005, .bin .mul .int (.c (.d (.int .i64 7))) (.t 46)⟩, bi 48 1006 .shl 45 47, bi 49 1007 .or 42 48, mv 4 1008 49]
def o143_11 : List AOper := [mv 50 1100 9]
def o143_12 : List AOper := [mv 51 1200 4, mv 52 1201 1, mv 53 1202 7, bi 54 1203 .add 52 53, bc 55 1204 .add 54 1, mv 4 1205 51, mv 5 1206 55, mi 6 1207 0]
def o143_13 : List AOper := [bc 56 1300 .add 19 1, mv 19 1301 56]
def o143_14 : List AOper := [⟨some 4, none, 1400, .mov (.c (.d (.int .u64 0)))⟩, mi 5 1401 0, mi 6 1402 5]
def o143_7t3_6 : List AOper := (o143_7.drop 3).take 3
def o143_8t2_5 : List AOper := (o143_8.drop 2).take 3
def o143_8t6_9 : List AOper := (o143_8.drop 6).take 3
def c143_6 : AC := .cond (.t 11) (.seq (.reg o143_2) .ret) .skip
def c143_12 : AC := .cond (.t 20) .skip (.exit 0)
def c143_18 : AC := .cond (.t 26) .skip (.reg o143_8)
def c143_24 : AC := .cond (.t 26) (.seq (.reg o143_9) .ret) .skip
def c143_33 : AC := .cond (.t 50) (.seq (.reg o143_12) .ret) .skip
def c143_34 : AC := .seq (.reg o143_11) c143_33
def c143_35 : AC := .seq (.reg o143_10) c143_34
def c143_37 : AC := .seq (.reg o143_6) (.seq (.block 2 (.seq (.seq (.reg o143_7) c143_18) c143_24)) c143_35)
def c143_40 : AC := .reg o143_13
def c143_41 : AC := .seq (.block 1 (.seq (.reg o143_5) c143_37)) c143_40
def c143_43 : AC := .seq (.reg o143_4) (.seq c143_12 c143_41)
def c143_45 : AC := .block 0 (.loop c143_43)
def c143_49 : AC := .seq (.reg o143_14) .ret
def c143_50 : AC := .seq (.seq (.reg o143_3) c143_45) c143_49
def c143_52 : AC := .seq (.reg o143_0) (.seq (.seq (.reg o143_1) c143_6) c143_50)
theorem fn143 : fnA Try.prog 143 = some (57, [.t 4, .t 5, .t 6], c143_52) := by kernel_rfl
def q_ok_leb_Get_l0_ok (a1 : Int) (y1 : List Int) (x0 : Int) (x1 : Int) (v : (Sum (Int × Int × Int) Unit)) : Prop := (fun v => go Try.prog 57 (PostR (fun r => Fnl [.t 4, .t 5, .t 6] (en_leb_Get r) []) (.exit 0) (fun x : Unit => ⟨[], []⟩) v) [.l c143_43] .norm ⟨[(19, nI x0), (18, nI (y1.length : Int)), (17, lY y1), (4, nU x1), (1, nI a1)], []⟩) v
theorem ok_leb_Get_l0_ok (a1 : Int) (y1 : List Int) (x0 : Int) (x1 : Int) : Ok (M_leb_Get_l0 a1 y1 x0 x1) (q_ok_leb_Get_l0_ok a1 y1 x0 x1) := by
  refine M_leb_Get_l0.partial_correctness a1 y1 (q_ok_leb_Get_l0_ok a1 y1) ?_ x0 x1
  clear x0 x1
  intro f' IH x0 x1
  refine okI ?_
  unfold q_ok_leb_Get_l0_ok at *
  refine Av 1 [.c c143_43, .l c143_43] ⟨[(19, nI x0), (18, nI (y1.length : Int)), (17, lY y1), (4, nU x1), (1, nI a1)], []⟩ ?_
  refine Av 5 [.c c143_12, .c c143_41, .l c143_43] ⟨[(20, bB (decide (x0 < (y1.length : Int)))), (19, nI x0), (18, nI (y1.length : Int)), (17, lY y1), (4, nU x1), (1, nI a1)], []⟩ ?_
  refine L_split 20 rfl (fun _ => ?_) (fun _ => ?_)
  · refine Av 7 [.o false (o143_5.drop 1), .c c143_37, .b 1, .c c143_40, .l c143_43] ⟨[(21, nI x0), (19, nI x0), (18, nI (y1.length : Int)), (17, lY y1), (4, nU x1), (1, nI a1)], []⟩ ?_
    refine L_idxD (enc := D.int .u8) (l := y1) (iv := x0) trivial rfl rfl (fun _ => rfl) (fun hc501 => ?_)
    refine Av 18 [.o false (o143_7.drop 3), .c c143_18, .c c143_24, .b 2, .c c143_35, .b 1, .c c143_40, .l c143_43] ⟨[(29, bB (x0 == 9)), (9, bB (decide ((at' y1 x0) < 128))), (8, nY (at' y1 x0)), (7, nI x0), (19, nI x0), (18, nI (y1.length : Int)), (17, lY y1), (4, nU x1), (1, nI a1)], []⟩ ?_
    refine L_take 3 o143_7t3_6 (o143_7.drop 6) ?_
    refine L_join [.o false o143_7t3_6] [.o false (o143_7.drop 6), .c c143_18, .c c143_24, .b 2, .c c143_35, .b 1, .c c143_40, .l c143_43] (fun x : Bool => ⟨[(32, bB x), (9, bB (decide ((at' y1 x0) < 128))), (8, nY (at' y1 x0)), (7, nI x0), (19, nI x0), (18, nI (y1.length : Int)), (17, lY y1), (4, nU x1), (1, nI a1)], []⟩) ?_ (fun j3 => ?_)
    · refine L_split 29 decE (fun _ => ?_) (fun _ => ?_)
      · refine Av 4 [] ⟨[(32, bB (decide ((at' y1 x0) > 1))), (9, bB (decide ((at' y1 x0) < 128))), (8, nY (at' y1 x0)), (7, nI x0), (19, nI x0), (18, nI (y1.length : Int)), (17, lY y1), (4, nU x1), (1, nI a1)], []⟩ ?_
        exact L_end
      · refine Av 4 [] ⟨[(32, bB false), (9, bB (decide ((at' y1 x0) < 128))), (8, nY (at' y1 x0)), (7, nI x0), (19, nI x0), (18, nI (y1.length : Int)), (17, lY y1), (4, nU x1), (1, nI a1)], []⟩ ?_
        exact L_end
    · refine Av 2 [.c c143_18, .c c143_24, .b 2, .c c143_35, .b 1, .c c143_40, .l c143_43] ⟨[(26, bB j3), (9, bB (decide ((at' y1 x0) < 128))), (8, nY (at' y1 x0)), (7, nI x0), (19, nI x0), (18, nI (y1.length : Int)), (17, lY y1), (4, nU x1), (1, nI a1)], []⟩ ?_
      refine L_join [.c c143_18] [.c c143_24, .b 2, .c c143_35, .b 1, .c c143_40, .l c143_43] (fun x : Bool => ⟨[(26, bB x), (9, bB (decide ((at' y1 x0) < 128))), (8, nY (at' y1 x0)), (7, nI x0), (19, nI x0), (18, nI (y1.length : Int)), (17, lY y1), (4, nU x1), (1, nI a1)], []⟩) ?_ (fun j6 => ?_)
      · refine L_split 26 decT (fun _ => ?_) (fun _ => ?_)
        · refine Av 2 [] ⟨[(26, bB true), (9, bB (decide ((at' y1 x0) < 128))), (8, nY (at' y1 x0)), (7, nI x0), (19, nI x0), (18, nI (y1.length : Int)), (17, lY y1), (4, nU x1), (1, nI a1)], []⟩ ?_
          exact L_end
        · refine Av 4 [.o false (o143_8.drop 2)] ⟨[(34, bB (decide ((at' y1 x0) < 128))), (9, bB (decide ((at' y1 x0) < 128))), (8, nY (at' y1 x0)), (7, nI x0), (19, nI x0), (18, nI (y1.length : Int)), (17, lY y1), (4, nU x1), (1, nI a1)], []⟩ ?_
          refine L_take 3 o143_8t2_5 (o143_8.drop 5) ?_
          refine L_join [.o false o143_8t2_5] [.o false (o143_8.drop 5)] (fun x : Bool => ⟨[(37, bB x), (9, bB (decide ((at' y1 x0) < 128))), (8, nY (at' y1 x0)), (7, nI x0), (19, nI x0), (18, nI (y1.length : Int)), (17, lY y1), (4, nU x1), (1, nI a1)], []⟩) ?_ (fun j4 => ?_)
          · refine L_split 34 rfl (fun _ => ?_) (fun _ => ?_)
            · refine Av 4 [] ⟨[(37, bB ((at' y1 x0) == 0)), (9, bB (decide ((at' y1 x0) < 128))), (8, nY (at' y1 x0)), (7, nI x0), (19, nI x0), (18, nI (y1.length : Int)), (17, lY y1), (4, nU x1), (1, nI a1)], []⟩ ?_
              exact L_end
            · refine Av 4 [] ⟨[(37, bB false), (9, bB (decide ((at' y1 x0) < 128))), (8, nY (at' y1 x0)), (7, nI x0), (19, nI x0), (18, nI (y1.length : Int)), (17, lY y1), (4, nU x1), (1, nI a1)], []⟩ ?_
              exact L_end
          · refine Av 1 [.o false (o143_8.drop 6)] ⟨[(38, bB j4), (9, bB (decide ((at' y1 x0) < 128))), (8, nY (at' y1 x0)), (7, nI x0), (19, nI x0), (18, nI (y1.length : Int)), (17, lY y1), (4, nU x1), (1, nI a1)], []⟩ ?_
            refine L_take 3 o143_8t6_9 (o143_8.drop 9) ?_
            refine L_join [.o false o143_8t6_9] [.o false (o143_8.drop 9)] (fun x : Bool => ⟨[(41, bB x), (9, bB (decide ((at' y1 x0) < 128))), (8, nY (at' y1 x0)), (7, nI x0), (19, nI x0), (18, nI (y1.length : Int)), (17, lY y1), (4, nU x1), (1, nI a1)], []⟩) ?_ (fun j5 => ?_)
            · refine L_split 38 decT (fun _ => ?_) (fun _ => ?_)
              · refine Av 4 [] ⟨[(41, bB (decide (x0 > 0))), (9, bB (decide ((at' y1 x0) < 128))), (8, nY (at' y1 x0)), (7, nI x0), (19, nI x0), (18, nI (y1.length : Int)), (17, lY y1), (4, nU x1), (1, nI a1)], []⟩ ?_
                exact L_end
              · refine Av 4 [] ⟨[(41, bB false), (9, bB (decide ((at' y1 x0) < 128))), (8, nY (at' y1 x0)), (7, nI x0), (19, nI x0), (18, nI (y1.length : Int)), (17, lY y1), (4, nU x1), (1, nI a1)], []⟩ ?_
                exact L_end
            · refine Av 2 [] ⟨[(26, bB j5), (9, bB (decide ((at' y1 x0) < 128))), (8, nY (at' y1 x0)), (7, nI x0), (19, nI x0), (18, nI (y1.length : Int)), (17, lY y1), (4, nU x1), (1, nI a1)], []⟩ ?_
              exact L_end
      · refine L_split 26 decT (fun _ => ?_) (fun _ => ?_)
        · refine Avk 13 [] .ret ⟨[(6, nI 6), (5, nI 0), (4, nU 0)], []⟩ ?_
          exact L_retR
        · refine Av 11 [.o false (o143_10.drop 6), .c c143_34, .b 1, .c c143_40, .l c143_43] ⟨[(47, nI (IntKind.i64.wrap (7 * x0))), (45, nU (IntKind.u64.wrap (bAnd .u8 (at' y1 x0) 127))), (42, nU x1), (9, bB (decide ((at' y1 x0) < 128))), (7, nI x0), (19, nI x0), (18, nI (y1.length : Int)), (17, lY y1), (1, nI a1)], []⟩ ?_
          refine L_rd (c := 0 ≤ IntKind.i64.wrap (7 * x0)) (v := nU (sShl .u64 (IntKind.u64.wrap (bAnd .u8 (at' y1 x0) 127)) (IntKind.i64.wrap (7 * x0)))) trivial rfl (fun _ => ?_)
          refine Al 7 [.c c143_33, .b 1, .c c143_40, .l c143_43] .norm (fun y7 : Int => ⟨[(50, bB (decide ((at' y1 x0) < 128))), (4, nU y7), (7, nI x0), (19, nI x0), (18, nI (y1.length : Int)), (17, lY y1), (1, nI a1)], []⟩) (fun y7 => ?_)
          refine L_split 50 rfl (fun _ => ?_) (fun _ => ?_)
          · refine Avk 16 [] .ret ⟨[(6, nI 0), (5, nI (IntKind.i64.wrap ((IntKind.i64.wrap (a1 + x0)) + 1))), (4, nU y7)], []⟩ ?_
            exact L_retR
          · refine Av 7 [.l c143_43] ⟨[(19, nI (IntKind.i64.wrap (x0 + 1))), (4, nU y7), (18, nI (y1.length : Int)), (17, lY y1), (1, nI a1)], []⟩ ?_
            exact L_again (IH (IntKind.i64.wrap (x0 + 1)) y7)
  · refine Avk 4 [] (.exit 0) ⟨[], []⟩ ?_
    exact L_endR
theorem ok_leb_Get (a0 : List Int) (a1 : Int) : ∀ v, M_leb_Get a0 a1 = some v → EvF Try.prog 143 [.lst (List.map (D.int .u8) a0), .int .i64 a1] (en_leb_Get v) := by
  intro v hv
  refine EvF_go fn143 (Nat.le_of_ble_eq_true rfl) ?_
  suffices h : Ok (M_leb_Get a0 a1) fun v => go Try.prog 57 (Fnl [.t 4, .t 5, .t 6] (en_leb_Get v) []) [.c c143_52] .norm (initSt (List.map PV.d [.lst (List.map (D.int .u8) a0), .int .i64 a1]) []) from h v hv
  unfold M_leb_Get
  refine Av 12 [.c c143_6, .c c143_50] ⟨[(11, bB (decide (a1 < 0))), (4, nU 0), (0, lY a0), (1, nI a1)], []⟩ ?_
  refine L_split 11 rfl (fun _ => ?_) (fun _ => ?_)
  · refine Avk 9 [] .ret ⟨[(6, nI 1), (5, nI 0), (4, nU 0)], []⟩ ?_
    exact L_ret
  · refine Av 8 [.o false (o143_3.drop 3), .c c143_45, .c c143_49] ⟨[(14, lY a0), (13, nI a1), (12, lY a0), (4, nU 0), (1, nI a1)], []⟩ ?_
    refine L_len (enc := D.int .u8) (l := a0) trivial rfl ?_
    refine Av 1 [.o false (o143_3.drop 5), .c c143_45, .c c143_49] ⟨[(16, nI (if (a0.length : Int) < a1 then (a0.length : Int) else a1)), (12, lY a0), (4, nU 0), (1, nI a1)], []⟩ ?_
    refine L_cutD (enc := D.int .u8) (l := a0) (a := (some (if (a0.length : Int) < a1 then (a0.length : Int) else a1))) (b := none) trivial rfl rfl rfl (fun _ => rfl) (fun hc305 => ?_)
    refine Al 0 [.o false (o143_3.drop 6), .c c143_45, .c c143_49] .norm (fun y1 : List Int => ⟨[(17, lY y1), (4, nU 0), (1, nI a1)], []⟩) (fun y1 => ?_)
    refine L_len (enc := D.int .u8) (l := y1) trivial rfl ?_
    refine Av 4 [.l c143_43, .b 0, .c c143_49] ⟨[(19, nI 0), (18, nI (y1.length : Int)), (17, lY y1), (4, nU 0), (1, nI a1)], []⟩ ?_
    refine L_pieceR (fs := [.l c143_43]) (ks := [.b 0, .c c143_49]) (ok_leb_Get_l0_ok a1 y1 0 0) L_thru (fun j9 => ?_)
    refine Avk 8 [] .ret ⟨[(6, nI 5), (5, nI 0), (4, nU 0)], []⟩ ?_
    exact L_ret
/-- (*thrum/frame.reader).number. -/
def en_thrum_frame_reader_number (v : Int × (List Int) × Int × Bool) : PV := nU v.1
def bx_thrum_frame_reader_number (v : Int × (List Int) × Int × Bool) : List (Tg × List PV) := [(.up (.s 0), [lY v.2.1, nI v.2.2.1, bB v.2.2.2])]
def o111_0 : List AOper := [⟨some 4, none, 0, .mov (.c (.d (.int .u64 0)))⟩]
def o111_1 : List AOper := [mv 9 100 0, ⟨some 10, none, 101, .nilck (.t 9)⟩, ⟨some 11, none, 102, .fieldA 0 (.t 10)⟩, ⟨some 12, none, 103, .fieldA 0 (.t 11)⟩, ld 13 104 12, mv 14 105 0, ⟨some 15, none, 106, .nilck (.t 14)⟩, ⟨some 16, none, 107, .fieldA 0 (.t 15)⟩, ⟨some 17, none, 108, .fieldA 1 (.t 16)⟩, ld 18 109 17, cl' 19 110 143 [.t 13, .t 18], mv 8 111 19, xt 20 112 8 0, xt 21 113 8 1, xt 22 114 8 2, mv 5 115 20, mv 6 116 21, mv 7 117 22]
def o111_2 : List AOper := [mv 23 200 0, ⟨some 24, none, 201, .nilck (.t 23)⟩, ⟨some 25, none, 202, .fieldA 2 (.t 24)⟩, ld 26 203 25, mv 27 204 26, gv 28 27 false 205 7, ⟨some 29, some (27, false), 206, .bin .neq .int (.t 28) (.c (.d (.int .i64 0)))⟩, pz 30 207 27 29 true, mv 31 208 30, gv 32 31 false 209 5, gv 33 31 false 210 1, ⟨some 34, some (31, false), 211, .bin .gtr .int (.t 32) (.t 33)⟩, pz 35 212 31 34 true]
def o111_3 : List AOper := [mv 36 300 0, ⟨some 37, none, 301, .nilck (.t 36)⟩, ⟨some 38, none, 302, .fieldA 2 (.t 37)⟩, ⟨none, none, 303, .store 1 (.t 38) (.c (.d (.bool true)))⟩]
def o111_4 : List AOper := [⟨some 4, none, 400, .mov (.c (.d (.int .u64 0)))⟩]
def o111_5 : List AOper := [mv 39 500 0, mv 40 501 6, ⟨some 41, none, 502, .nilck (.t 39)⟩, ⟨some 42, none, 503, .fieldA 0 (.t 41)⟩, ⟨some 43, none, 504, .fieldA 1 (.t 42)⟩, ⟨none, none, 505, .store 1 (.t 43) (.t 40)⟩]
def o111_6 : List AOper := [mv 44 600 5, mv 4 601 44]
def o111_2t5_8 : List AOper := (o111_2.drop 5).take 3
def o111_2t9_13 : List AOper := (o111_2.drop 9).take 4
def c111_1 : AC := .draw [⟨mv 9 100 0, false, []⟩, ⟨⟨some 10, none, 101, .nilck (.t 9)⟩, false, []⟩, ⟨⟨some 11, none, 102, .fieldA 0 (.t 10)⟩, false, []⟩, ⟨⟨some 12, none, 103, .fieldA 0 (.t 11)⟩, false, []⟩, ⟨ld 13 104 12, false, []⟩, ⟨mv 14 105 0, false, []⟩, ⟨⟨some 15, none, 106, .nilck (.t 14)⟩, false, []⟩, ⟨⟨some 16, none, 107, .fieldA 0 (.t 15)⟩, false, []⟩, ⟨⟨some 17, none, 108, .fieldA 1 (.t 16)⟩, false, []⟩, ⟨ld 18 109 17, false, []⟩, ⟨cl' 19 110 143 [.t 13, .t 18], true, []⟩, ⟨mv 8 111 19, false, []⟩, ⟨xt 20 112 8 0, false, []⟩, ⟨xt 21 113 8 1, false, []⟩, ⟨xt 22 114 8 2, false, []⟩, ⟨mv 5 115 20, false, []⟩, ⟨mv 6 116 21, false, []⟩, ⟨mv 7 117 22, false, []⟩]
def c111_9 : AC := .cond (.t 35) (.seq (.reg o111_3) (.seq (.reg o111_4) .ret)) .skip
def c111_15 : AC := .seq (.reg o111_5) (.seq (.reg o111_6) .ret)
def c111_16 : AC := .seq (.seq (.reg o111_2) c111_9) c111_15
def c111_18 : AC := .seq (.reg o111_0) (.seq c111_1 c111_16)
theorem fn111 : fnA Try.prog 111 = some (45, [.t 4], c111_18) := by kernel_rfl
theorem ok_thrum_frame_reader_number (a0 : T_frame_reader) (a1 : Int) : ∀ v, M_thrum_frame_reader_number a0 a1 = some v → EvG Try.prog 111 [.ptr (.up (.s 0)) 0, nU a1] [(.up (.s 0), [lY a0.F_text.F_b, nI a0.F_text.F_at, bB a0.F_bad])] (en_thrum_frame_reader_number v) (bx_thrum_frame_reader_number v) := by
  intro v hv
  refine EvG_go fn111 (Nat.le_of_ble_eq_true rfl) ?_
  suffices h : Ok (M_thrum_frame_reader_number a0 a1) fun v => go Try.prog 45 (Fnl [.t 4] (en_thrum_frame_reader_number v) (bx_thrum_frame_reader_number v)) [.c c111_18] .norm (initSt [.ptr (.up (.s 0)) 0, nU a1] [(.up (.s 0), [lY a0.F_text.F_b, nI a0.F_text.F_at, bB a0.F_bad])]) from h v hv
  unfold M_thrum_frame_reader_number
  refine Av 5 [.c c111_1, .c c111_16] ⟨[(0, .ptr (.up (.s 0)) 0), (1, nU a1)], [(.up (.s 0), [lY a0.F_text.F_b, nI a0.F_text.F_at, bB a0.F_bad])]⟩ ?_
  refine Ae 11 [.o true (o111_1.drop 10), .c c111_16] ⟨[(18, nI a0.F_text.F_at), (17, .ptr (.up (.s 0)) 1), (16, .ptr (.up (.s 0)) 0), (15, .ptr (.up (.s 0)) 0), (14, .ptr (.up (.s 0)) 0), (13, lY a0.F_text.F_b), (12, .ptr (.up (.s 0)) 0), (11, .ptr (.up (.s 0)) 0), (10, .ptr (.up (.s 0)) 0), (9, .ptr (.up (.s 0)) 0), (0, .ptr (.up (.s 0)) 0), (1, nU a1)], [(.up (.s 0), [lY a0.F_text.F_b, nI a0.F_text.F_at, bB a0.F_bad])]⟩ ?_
  refine L_call (ok_leb_Get a0.F_text.F_b a0.F_text.F_at) trivial rfl (fun _ => rfl) (fun _ => ⟨trivial, trivial, trivial, trivial⟩) (fun r1 => ?_)
  refine Av 16 [.o false (o111_2.drop 5), .c c111_9, .c c111_15] ⟨[(27, bB a0.F_bad), (7, nI r1.2.2), (6, nI r1.2.1), (5, nU r1.1), (0, .ptr (.up (.s 0)) 0), (1, nU a1)], [(.up (.s 0), [lY a0.F_text.F_b, nI a0.F_text.F_at, bB a0.F_bad])]⟩ ?_
  refine L_take 3 o111_2t5_8 (o111_2.drop 8) ?_
  refine L_join [.o false o111_2t5_8] [.o false (o111_2.drop 8), .c c111_9, .c c111_15] (fun x : Bool => ⟨[(30, bB x), (6, nI r1.2.1), (5, nU r1.1), (0, .ptr (.up (.s 0)) 0), (1, nU a1)], [(.up (.s 0), [lY a0.F_text.F_b, nI a0.F_text.F_at, bB a0.F_bad])]⟩) ?_ (fun j2 => ?_)
  · refine L_split 27 decT (fun _ => ?_) (fun _ => ?_)
    · refine Av 4 [] ⟨[(30, bB true), (6, nI r1.2.1), (5, nU r1.1), (0, .ptr (.up (.s 0)) 0), (1, nU a1)], [(.up (.s 0), [lY a0.F_text.F_b, nI a0.F_text.F_at, bB a0.F_bad])]⟩ ?_
      exact L_end
    · refine Av 4 [] ⟨[(30, bB (r1.2.2 != 0)), (6, nI r1.2.1), (5, nU r1.1), (0, .ptr (.up (.s 0)) 0), (1, nU a1)], [(.up (.s 0), [lY a0.F_text.F_b, nI a0.F_text.F_at, bB a0.F_bad])]⟩ ?_
      exact L_end
  · refine Av 1 [.o false (o111_2.drop 9), .c c111_9, .c c111_15] ⟨[(31, bB j2), (6, nI r1.2.1), (5, nU r1.1), (0, .ptr (.up (.s 0)) 0), (1, nU a1)], [(.up (.s 0), [lY a0.F_text.F_b, nI a0.F_text.F_at, bB a0.F_bad])]⟩ ?_
    refine L_take 4 o111_2t9_13 (o111_2.drop 13) ?_
    refine L_join [.o false o111_2t9_13] [.o false (o111_2.drop 13), .c c111_9, .c c111_15] (fun x : Bool => ⟨[(35, bB x), (6, nI r1.2.1), (5, nU r1.1), (0, .ptr (.up (.s 0)) 0)], [(.up (.s 0), [lY a0.F_text.F_b, nI a0.F_text.F_at, bB a0.F_bad])]⟩) ?_ (fun j3 => ?_)
    · refine L_split 31 decT (fun _ => ?_) (fun _ => ?_)
      · refine Av 5 [] ⟨[(35, bB true), (6, nI r1.2.1), (5, nU r1.1), (0, .ptr (.up (.s 0)) 0)], [(.up (.s 0), [lY a0.F_text.F_b, nI a0.F_text.F_at, bB a0.F_bad])]⟩ ?_
        exact L_end
      · refine Av 5 [] ⟨[(35, bB (decide (r1.1 > a1))), (6, nI r1.2.1), (5, nU r1.1), (0, .ptr (.up (.s 0)) 0)], [(.up (.s 0), [lY a0.F_text.F_b, nI a0.F_text.F_at, bB a0.F_bad])]⟩ ?_
        exact L_end
    · refine Av 1 [.c c111_9, .c c111_15] ⟨[(35, bB j3), (6, nI r1.2.1), (5, nU r1.1), (0, .ptr (.up (.s 0)) 0)], [(.up (.s 0), [lY a0.F_text.F_b, nI a0.F_text.F_at, bB a0.F_bad])]⟩ ?_
      refine L_split 35 decT (fun _ => ?_) (fun _ => ?_)
      · refine Avk 14 [] .ret ⟨[(4, nU 0)], [(.up (.s 0), [lY a0.F_text.F_b, nI a0.F_text.F_at, bB true])]⟩ ?_
        exact L_ret
      · refine Avk 17 [] .ret ⟨[(4, nU r1.1)], [(.up (.s 0), [lY a0.F_text.F_b, nI r1.2.1, bB a0.F_bad])]⟩ ?_
        exact L_ret
/-- thrum/frame.Read. -/
def en_frame_Read (v : Int × Int × Int × Int × Int × Int × Int × Int) : PV := .tup [.d (.agg [.int .i64 v.1, .int .i64 v.2.1, .int .i64 v.2.2.1, .int .i64 v.2.2.2.1, .int .i64 v.2.2.2.2.1, .lst [], .lst [], .int .i64 v.2.2.2.2.2.1, .int .i64 v.2.2.2.2.2.2.1, .lst [], .lst []]), nI v.2.2.2.2.2.2.2]
def o60_0 : List AOper := [⟨some 2, none, 0, .alloc 53 11 [.int .i64 0, .int .i64 0, .int .i64 0, .int .i64 0, .int .i64 0, .lst [], .lst [], .int .i64 0, .int .i64 0, .lst [], .lst []]⟩, mi 3 1 0]
def o60_1 : List AOper := [mv 7 100 0, cl' 8 101 108 [.t 7], mv 6 102 8, xt 9 103 6 0, xt 10 104 6 1, mv 0 105 9, mv 4 106 10]
def o60_2 : List AOper := [mv 11 200 4, bc 12 201 .neq 11 0]
def o60_3 : List AOper := [⟨some 13, none, 300, .load true 11 (.t 2)⟩, mv 14 301 4, ⟨none, none, 302, .store 11 (.t 2) (.t 13)⟩, mv 3 303 14]
def o60_4 : List AOper := [mv 15 400 0, ⟨some 16, none, 401, .build [.lst [], .int .i64 0] [(0, 1, .t 15)]⟩, ⟨some 17, none, 402, .build [.lst [], .int .i64 0, .bool false] [(0, 2, .t 16)]⟩, ⟨some 18, none, 403, .box 153 (.t 17)⟩, mv 5 404 18]
def o60_5 : List AOper := [mv 19 500 5, mv 20 501 5, cl' 21 502 110 [.t 20], bc 22 503 .eql 21 1, cl' 23 504 109 [.t 19, .t 22]]
def o60_6 : List AOper := [mv 24 600 5, cl' 25 601 110 [.t 24], ⟨some 26, none, 602, .fieldA 0 (.t 2)⟩, ⟨none, none, 603, .store 1 (.t 26) (.t 25)⟩]
def o60_7 : List AOper := [mv 27 700 5, cl' 28 701 111 [.t 27, .c (.d (.int .u64 63))], ⟨some 29, none, 702, .convI .i64 (.t 28)⟩, ⟨some 30, none, 703, .fieldA 1 (.t 2)⟩, ⟨none, none, 704, .store 1 (.t 30) (.t 29)⟩]
def o60_8 : List AOper := [mv 31 800 5, cl' 32 801 111 [.t 31, .c (.d (.int .u64 1073741824))], ⟨some 33, none, 802, .convI .i64 (.t 32)⟩, ⟨some 34, none, 803, .fieldA 2 (.t 2)⟩, ⟨none, none, 804, .store 1 (.t 34) (.t 33)⟩]
def o60_9 : List AOper := [⟨some 35, none, 900, .fieldA 0 (.t 2)⟩, ld 36 901 35, bc 37 902 .eql 36 1, mv 38 903 37, gv 39 38 true 904 5, ⟨some 40, some (38, true), 905, .nilck (.t 39)⟩, ⟨some 41, some (38, true), 906, .fieldA 2 (.t 40)⟩, ⟨some 42, some (38, true), 907, .load false 1 (.t 41)⟩, ⟨some 43, some (38, true), 908, .un .not (.t 42)⟩, pk 44 909 38 43 false]
def o60_10 : List AOper := [mv 45 1000 5, cl' 46 1001 112 [.t 45], ⟨some 47, none, 1002, .fieldA 3 (.t 2)⟩, ⟨none, none, 1003, .store 8 (.t 47) (.t 46)⟩]
def o60_11 : List AOper := [mv 48 1100 5, ⟨some 49, none, 1101, .nilck (.t 48)⟩, ⟨some 50, none, 1102, .fieldA 2 (.t 49)⟩, ld 51 1103 50, mv 52 1104 51, gv 53 52 false 1105 5, ⟨some 54, some (52, false), 1106, .nilck (.t 53)⟩, ⟨some 55, some (52, false), 1107, .fieldA 0 (.t 54)⟩, ⟨some 56, some (52, false), 1108, .fieldA 1 (.t 55)⟩, ⟨some 57, some (52, false), 1109, .load false 1 (.t 56)⟩, gv 58 52 false 1110 5, ⟨some 59, some (52, false), 1111, .nilck (.t 58)⟩, ⟨some 60, some (52, false), 1112, .fieldA 0 (.t 59)⟩, ⟨some 61, some (52, false), 1113, .fieldA 0 (.t 60)⟩, ⟨some 62, some (52, false), 1114, .load false 1 (.t 61)⟩, ⟨some 63, some (52, false), 1115, .len (.t 62)⟩, ⟨some 64, some (52, false), 1116, .bin .lss .int (.t 57) (.t 63)⟩, pz 65 1117 52 64 true, mv 66 1118 65, ⟨some 67, some (66, false), 1119, .load true 11 (.t 2)⟩, ⟨some 68, some (66, false), 1120, .call 30 [.t 67]⟩, ⟨some 69, some (66, false), 1121, .bin .neq .int (.t 68) (.c (.d (.int .i64 0)))⟩, pz 70 1122 66 69 true]
def o60_12 : List AOper := [⟨some 71, none, 1200, .build [.int .i64 0, .int .i64 0, .int .i64 0, .int .i64 0, .int .i64 0, .lst [], .lst [], .int .i64 0, .int .i64 0, .lst [], .lst []] []⟩, ⟨none, none, 1201, .store 11 (.t 2) (.t 71)⟩, mi 3 1202 6]
def o60_13 : List AOper := [⟨some 72, none, 1300, .load true 11 (.t 2)⟩, ⟨none, none, 1301, .store 11 (.t 2) (.t 72)⟩, mi 3 1302 0]
def o60_9t4_10 : List AOper := (o60_9.drop 4).take 6
def c60_7 : AC := .cond (.t 12) (.seq (.reg o60_3) .ret) .skip
def c60_17 : AC := .cond (.t 44) (.reg o60_10) .skip
def c60_19 : AC := .draw [⟨mv 48 1100 5, false, []⟩, ⟨⟨some 49, none, 1101, .nilck (.t 48)⟩, false, []⟩, ⟨⟨some 50, none, 1102, .fieldA 2 (.t 49)⟩, false, []⟩, ⟨ld 51 1103 50, false, []⟩, ⟨mv 52 1104 51, false, []⟩, ⟨gv 53 52 false 1105 5, false, []⟩, ⟨⟨some 54, some (52, false), 1106, .nilck (.t 53)⟩, false, []⟩, ⟨⟨some 55, some (52, false), 1107, .fieldA 0 (.t 54)⟩, false, []⟩, ⟨⟨some 56, some (52, false), 1108, .fieldA 1 (.t 55)⟩, false, []⟩, ⟨⟨some 57, some (52, false), 1109, .load false 1 (.t 56)⟩, false, []⟩, ⟨gv 58 52 false 1110 5, false, []⟩, ⟨⟨some 59, some (52, false), 1111, .nilck (.t 58)⟩, false, []⟩, ⟨⟨some 60, some (52, false), 1112, .fieldA 0 (.t 59)⟩, false, []⟩, ⟨⟨some 61, some (52, false), 1113, .fieldA 0 (.t 60)⟩, false, []⟩, ⟨⟨some 62, some (52, false), 1114, .load false 1 (.t 61)⟩, false, []⟩, ⟨⟨some 63, some (52, false), 1115, .len (.t 62)⟩, false, []⟩, ⟨⟨some 64, some (52, false), 1116, .bin .lss .int (.t 57) (.t 63)⟩, false, []⟩, ⟨pz 65 1117 52 64 true, false, []⟩, ⟨mv 66 1118 65, false, []⟩, ⟨⟨some 67, some (66, false), 1119, .load true 11 (.t 2)⟩, false, []⟩, ⟨⟨some 68, some (66, false), 1120, .call 30 [.t 67]⟩, true, []⟩, ⟨⟨some 69, some (66, false), 1121, .bin .neq .int (.t 68) (.c (.d (.int .i64 0)))⟩, false, []⟩, ⟨pz 70 1122 66 69 true, false, []⟩]
def c60_24 : AC := .cond (.t 70) (.seq (.reg o60_12) .ret) .skip
def c60_28 : AC := .seq (.reg o60_13) .ret
def c60_29 : AC := .seq (.seq c60_19 c60_24) c60_28
def c60_30 : AC := .seq (.seq (.reg o60_9) c60_17) c60_29
def c60_31 : AC := .seq (.reg o60_8) c60_30
def c60_32 : AC := .seq (.reg o60_7) c60_31
def c60_33 : AC := .seq (.reg o60_6) c60_32
def c60_35 : AC := .seq (.reg o60_4) (.seq (.reg o60_5) c60_33)
def c60_36 : AC := .seq (.seq (.reg o60_2) c60_7) c60_35
def c60_38 : AC := .seq (.reg o60_0) (.seq (.reg o60_1) c60_36)
theorem fn60 : fnA Try.prog 60 = some (73, [.c 2 true 11, .t 3], c60_38) := by kernel_rfl
theorem ok_frame_Read (a0 : List Int) : ∀ v, M_frame_Read a0 = some v → EvF Try.prog 60 [.lst (List.map (D.int .u8) a0)] (en_frame_Read v) := by
  intro v hv
  refine EvF_go fn60 (Nat.le_of_ble_eq_true rfl) ?_
  suffices h : Ok (M_frame_Read a0) fun v => go Try.prog 73 (Fnl [.c 2 true 11, .t 3] (en_frame_Read v) []) [.c c60_38] .norm (initSt (List.map PV.d [.lst (List.map (D.int .u8) a0)]) []) from h v hv
  unfold M_frame_Read
  refine Av 8 [.o false (o60_1.drop 1), .c c60_36] ⟨[(7, lY a0), (2, .ptr (.s 15) 0)], [(.s 15, [nI 0, nI 0, nI 0, nI 0, nI 0, .nils, .nils, nI 0, nI 0, .nils, .nils])]⟩ ?_
  refine L_call (ok_crc_Open a0) trivial rfl (fun _ => rfl) (fun _ => ⟨(flat_map_of fun _ => trivial), trivial, trivial⟩) (fun r1 => ?_)
  refine Av 12 [.c c60_7, .c c60_35] ⟨[(12, bB (r1.2 != 0)), (4, nI r1.2), (0, sY (.s 1616) r1.1), (2, .ptr (.s 15) 0)], [(.s 15, [nI 0, nI 0, nI 0, nI 0, nI 0, .nils, .nils, nI 0, nI 0, .nils, .nils])]⟩ ?_
  refine L_split 12 decNe (fun _ => ?_) (fun _ => ?_)
  · refine Avk 10 [] .ret ⟨[(3, nI r1.2), (2, .ptr (.s 15) 0)], [(.s 15, [nI 0, nI 0, nI 0, nI 0, nI 0, .nils, .nils, nI 0, nI 0, .nils, .nils])]⟩ ?_
    exact L_ret
  · refine Av 14 [.o false (o60_5.drop 2), .c c60_33] ⟨[(20, .ptr (.s 6463) 0), (19, .ptr (.s 6463) 0), (5, .ptr (.s 6463) 0), (2, .ptr (.s 15) 0)], [(.s 6463, [sY (.s 1616) r1.1, nI 0, bB false]), (.s 15, [nI 0, nI 0, nI 0, nI 0, nI 0, .nils, .nils, nI 0, nI 0, .nils, .nils])]⟩ ?_
    refine L_callG (enR := en_thrum_frame_reader_small) (bx' := bx_thrum_frame_reader_small) (ps := [.ptr (.up (.s 0)) 0]) (bx := [(.up (.s 0), [lY ((⟨(⟨r1.1, 0⟩ : T_frame_text), false⟩ : T_frame_reader).F_text.F_b), nI ((⟨(⟨r1.1, 0⟩ : T_frame_text), false⟩ : T_frame_reader).F_text.F_at), bB ((⟨(⟨r1.1, 0⟩ : T_frame_text), false⟩ : T_frame_reader).F_bad)])]) [(.up (.s 0), .s 6463)] [.s 1616] (ok_thrum_frame_reader_small (⟨(⟨r1.1, 0⟩ : T_frame_text), false⟩ : T_frame_reader)) trivial rfl rfl (fun _ => rfl) (fun _ => rfl) (fun _ => by kernel_rfl) (fun _ => by kernel_rfl) (fun r2 => ?_)
    refine Av 1 [.o false (o60_5.drop 4), .c c60_33] ⟨[(22, bB (r2.1 == 1)), (19, .ptr (.s 6463) 0), (5, .ptr (.s 6463) 0), (2, .ptr (.s 15) 0)], [(.s 6463, [lY r2.2.1, nI r2.2.2.1, bB r2.2.2.2]), (.s 15, [nI 0, nI 0, nI 0, nI 0, nI 0, .nils, .nils, nI 0, nI 0, .nils, .nils])]⟩ ?_
    refine L_callG (enR := en_thrum_frame_reader_must) (bx' := bx_thrum_frame_reader_must) (ps := [.ptr (.up (.s 0)) 0, bB (r2.1 == 1)]) (bx := [(.up (.s 0), [lY ((⟨(⟨r2.2.1, r2.2.2.1⟩ : T_frame_text), r2.2.2.2⟩ : T_frame_reader).F_text.F_b), nI ((⟨(⟨r2.2.1, r2.2.2.1⟩ : T_frame_text), r2.2.2.2⟩ : T_frame_reader).F_text.F_at), bB ((⟨(⟨r2.2.1, r2.2.2.1⟩ : T_frame_text), r2.2.2.2⟩ : T_frame_reader).F_bad)])]) [(.up (.s 0), .s 6463)] [] (ok_thrum_frame_reader_must (⟨(⟨r2.2.1, r2.2.2.1⟩ : T_frame_text), r2.2.2.2⟩ : T_frame_reader) (r2.1 == 1)) trivial rfl rfl (fun _ => rfl) (fun _ => rfl) (fun _ => by kernel_rfl) (fun _ => by kernel_rfl) (fun r3 => ?_)
    refine Av 4 [.o false (o60_6.drop 1), .c c60_32] ⟨[(24, .ptr (.s 6463) 0), (5, .ptr (.s 6463) 0), (2, .ptr (.s 15) 0)], [(.s 6463, [lY r3.1, nI r3.2.1, bB r3.2.2]), (.s 15, [nI 0, nI 0, nI 0, nI 0, nI 0, .nils, .nils, nI 0, nI 0, .nils, .nils])]⟩ ?_
    refine L_callG (enR := en_thrum_frame_reader_small) (bx' := bx_thrum_frame_reader_small) (ps := [.ptr (.up (.s 0)) 0]) (bx := [(.up (.s 0), [lY ((⟨(⟨r3.1, r3.2.1⟩ : T_frame_text), r3.2.2⟩ : T_frame_reader).F_text.F_b), nI ((⟨(⟨r3.1, r3.2.1⟩ : T_frame_text), r3.2.2⟩ : T_frame_reader).F_text.F_at), bB ((⟨(⟨r3.1, r3.2.1⟩ : T_frame_text), r3.2.2⟩ : T_frame_reader).F_bad)])]) [(.up (.s 0), .s 6463)] [] (ok_thrum_frame_reader_small (⟨(⟨r3.1, r3.2.1⟩ : T_frame_text), r3.2.2⟩ : T_frame_reader)) trivial rfl rfl (fun _ => rfl) (fun _ => rfl) (fun _ => by kernel_rfl) (fun _ => by kernel_rfl) (fun r4 => ?_)
    refine Av 6 [.o false (o60_7.drop 1), .c c60_31] ⟨[(27, .ptr (.s 6463) 0), (5, .ptr (.s 6463) 0), (2, .ptr (.s 15) 0)], [(.s 15, [nI r4.1, nI 0, nI 0, nI 0, nI 0, .nils, .nils, nI 0, nI 0, .nils, .nils]), (.s 6463, [lY r4.2.1, nI r4.2.2.1, bB r4.2.2.2])]⟩ ?_
    refine L_callG (enR := en_thrum_frame_reader_number) (bx' := bx_thrum_frame_reader_number) (ps := [.ptr (.up (.s 0)) 0, nU 63]) (bx := [(.up (.s 0), [lY ((⟨(⟨r4.2.1, r4.2.2.1⟩ : T_frame_text), r4.2.2.2⟩ : T_frame_reader).F_text.F_b), nI ((⟨(⟨r4.2.1, r4.2.2.1⟩ : T_frame_text), r4.2.2.2⟩ : T_frame_reader).F_text.F_at), bB ((⟨(⟨r4.2.1, r4.2.2.1⟩ : T_frame_text), r4.2.2.2⟩ : T_frame_reader).F_bad)])]) [(.up (.s 0), .s 6463)] [] (ok_thrum_frame_reader_number (⟨(⟨r4.2.1, r4.2.2.1⟩ : T_frame_text), r4.2.2.2⟩ : T_frame_reader) 63) trivial rfl rfl (fun _ => rfl) (fun _ => rfl) (fun _ => by kernel_rfl) (fun _ => by kernel_rfl) (fun r5 => ?_)
    refine Av 7 [.o false (o60_8.drop 1), .c c60_30] ⟨[(31, .ptr (.s 6463) 0), (5, .ptr (.s 6463) 0), (2, .ptr (.s 15) 0)], [(.s 15, [nI r4.1, nI (IntKind.i64.wrap r5.1), nI 0, nI 0, nI 0, .nils, .nils, nI 0, nI 0, .nils, .nils]), (.s 6463, [lY r5.2.1, nI r5.2.2.1, bB r5.2.2.2])]⟩ ?_
    refine L_callG (enR := en_thrum_frame_reader_number) (bx' := bx_thrum_frame_reader_number) (ps := [.ptr (.up (.s 0)) 0, nU 1073741824]) (bx := [(.up (.s 0), [lY ((⟨(⟨r5.2.1, r5.2.2.1⟩ : T_frame_text), r5.2.2.2⟩ : T_frame_reader).F_text.F_b), nI ((⟨(⟨r5.2.1, r5.2.2.1⟩ : T_frame_text), r5.2.2.2⟩ : T_frame_reader).F_text.F_at), bB ((⟨(⟨r5.2.1, r5.2.2.1⟩ : T_frame_text), r5.2.2.2⟩ : T_frame_reader).F_bad)])]) [(.up (.s 0), .s 6463)] [] (ok_thrum_frame_reader_number (⟨(⟨r5.2.1, r5.2.2.1⟩ : T_frame_text), r5.2.2.2⟩ : T_frame_reader) 1073741824) trivial rfl rfl (fun _ => rfl) (fun _ => rfl) (fun _ => by kernel_rfl) (fun _ => by kernel_rfl) (fun r6 => ?_)
    refine Av 11 [.o false (o60_9.drop 4), .c c60_17, .c c60_29] ⟨[(38, bB (r4.1 == 1)), (5, .ptr (.s 6463) 0), (2, .ptr (.s 15) 0)], [(.s 15, [nI r4.1, nI (IntKind.i64.wrap r5.1), nI (IntKind.i64.wrap r6.1), nI 0, nI 0, .nils, .nils, nI 0, nI 0, .nils, .nils]), (.s 6463, [lY r6.2.1, nI r6.2.2.1, bB r6.2.2.2])]⟩ ?_
    refine L_take 6 o60_9t4_10 (o60_9.drop 10) ?_
    refine L_join [.o false o60_9t4_10] [.o false (o60_9.drop 10), .c c60_17, .c c60_29] (fun x : Bool => ⟨[(44, bB x), (5, .ptr (.s 6463) 0), (2, .ptr (.s 15) 0)], [(.s 15, [nI r4.1, nI (IntKind.i64.wrap r5.1), nI (IntKind.i64.wrap r6.1), nI 0, nI 0, .nils, .nils, nI 0, nI 0, .nils, .nils]), (.s 6463, [lY r6.2.1, nI r6.2.2.1, bB r6.2.2.2])]⟩) ?_ (fun j7 => ?_)
    · refine L_split 38 decE (fun _ => ?_) (fun _ => ?_)
      · refine Av 7 [] ⟨[(44, bB (!r6.2.2.2)), (5, .ptr (.s 6463) 0), (2, .ptr (.s 15) 0)], [(.s 15, [nI r4.1, nI (IntKind.i64.wrap r5.1), nI (IntKind.i64.wrap r6.1), nI 0, nI 0, .nils, .nils, nI 0, nI 0, .nils, .nils]), (.s 6463, [lY r6.2.1, nI r6.2.2.1, bB r6.2.2.2])]⟩ ?_
        exact L_end
      · refine Av 7 [] ⟨[(44, bB false), (5, .ptr (.s 6463) 0), (2, .ptr (.s 15) 0)], [(.s 15, [nI r4.1, nI (IntKind.i64.wrap r5.1), nI (IntKind.i64.wrap r6.1), nI 0, nI 0, .nils, .nils, nI 0, nI 0, .nils, .nils]), (.s 6463, [lY r6.2.1, nI r6.2.2.1, bB r6.2.2.2])]⟩ ?_
        exact L_end
    · refine Av 1 [.c c60_17, .c c60_29] ⟨[(44, bB j7), (5, .ptr (.s 6463) 0), (2, .ptr (.s 15) 0)], [(.s 15, [nI r4.1, nI (IntKind.i64.wrap r5.1), nI (IntKind.i64.wrap r6.1), nI 0, nI 0, .nils, .nils, nI 0, nI 0, .nils, .nils]), (.s 6463, [lY r6.2.1, nI r6.2.2.1, bB r6.2.2.2])]⟩ ?_
      refine L_join [.c c60_17] [.c c60_29] (fun x : Unit => ⟨[(5, .ptr (.s 6463) 0), (2, .ptr (.s 15) 0)], [(.s 15, [nI r4.1, nI (IntKind.i64.wrap r5.1), nI (IntKind.i64.wrap r6.1), nI 0, nI 0, .nils, .nils, nI 0, nI 0, .nils, .nils]), (.s 6463, [lY r6.2.1, nI r6.2.2.1, bB r6.2.2.2])]⟩) ?_ (fun j8 => ?_)
      · refine L_split 44 decT (fun _ => ?_) (fun _ => ?_)
        · refine Av 3 [.o false (o60_10.drop 1)] ⟨[(45, .ptr (.s 6463) 0), (5, .ptr (.s 6463) 0), (2, .ptr (.s 15) 0)], [(.s 15, [nI r4.1, nI (IntKind.i64.wrap r5.1), nI (IntKind.i64.wrap r6.1), nI 0, nI 0, .nils, .nils, nI 0, nI 0, .nils, .nils]), (.s 6463, [lY r6.2.1, nI r6.2.2.1, bB r6.2.2.2])]⟩ ?_
          exact Ok.none
        · refine Av 2 [] ⟨[(5, .ptr (.s 6463) 0), (2, .ptr (.s 15) 0)], [(.s 15, [nI r4.1, nI (IntKind.i64.wrap r5.1), nI (IntKind.i64.wrap r6.1), nI 0, nI 0, .nils, .nils, nI 0, nI 0, .nils, .nils]), (.s 6463, [lY r6.2.1, nI r6.2.2.1, bB r6.2.2.2])]⟩ ?_
          exact L_end
      · refine Av 2 [.c c60_19, .c c60_24, .c c60_28] ⟨[(5, .ptr (.s 6463) 0), (2, .ptr (.s 15) 0)], [(.s 15, [nI r4.1, nI (IntKind.i64.wrap r5.1), nI (IntKind.i64.wrap r6.1), nI 0, nI 0, .nils, .nils, nI 0, nI 0, .nils, .nils]), (.s 6463, [lY r6.2.1, nI r6.2.2.1, bB r6.2.2.2])]⟩ ?_
        refine Ae 6 [.o true (o60_11.drop 5), .c c60_24, .c c60_28] ⟨[(52, bB r6.2.2.2), (51, bB r6.2.2.2), (50, .ptr (.s 6463) 2), (49, .ptr (.s 6463) 0), (48, .ptr (.s 6463) 0), (5, .ptr (.s 6463) 0), (2, .ptr (.s 15) 0)], [(.s 15, [nI r4.1, nI (IntKind.i64.wrap r5.1), nI (IntKind.i64.wrap r6.1), nI 0, nI 0, .nils, .nils, nI 0, nI 0, .nils, .nils]), (.s 6463, [lY r6.2.1, nI r6.2.2.1, bB r6.2.2.2])]⟩ ?_
        refine L_splitE (b := r6.2.2.2) (fun z => ⟨[(52, bB z), (51, bB r6.2.2.2), (50, .ptr (.s 6463) 2), (49, .ptr (.s 6463) 0), (48, .ptr (.s 6463) 0), (5, .ptr (.s 6463) 0), (2, .ptr (.s 15) 0)], [(.s 15, [nI r4.1, nI (IntKind.i64.wrap r5.1), nI (IntKind.i64.wrap r6.1), nI 0, nI 0, .nils, .nils, nI 0, nI 0, .nils, .nils]), (.s 6463, [lY r6.2.1, nI r6.2.2.1, bB r6.2.2.2])]⟩) decT (fun _ => ?_) (fun _ => ?_)
        · refine Avk 28 [] .ret ⟨[(3, nI 6), (2, .ptr (.s 15) 0)], [(.s 15, [nI 0, nI 0, nI 0, nI 0, nI 0, .nils, .nils, nI 0, nI 0, .nils, .nils])]⟩ ?_
          exact L_ret
        · refine Ae 10 [.o true (o60_11.drop 15), .c c60_24, .c c60_28] ⟨[(62, lY r6.2.1), (52, bB false), (61, .ptr (.s 6463) 0), (60, .ptr (.s 6463) 0), (59, .ptr (.s 6463) 0), (58, .ptr (.s 6463) 0), (57, nI r6.2.2.1), (56, .ptr (.s 6463) 1), (55, .ptr (.s 6463) 0), (54, .ptr (.s 6463) 0), (53, .ptr (.s 6463) 0), (51, bB r6.2.2.2), (50, .ptr (.s 6463) 2), (49, .ptr (.s 6463) 0), (48, .ptr (.s 6463) 0), (5, .ptr (.s 6463) 0), (2, .ptr (.s 15) 0)], [(.s 15, [nI r4.1, nI (IntKind.i64.wrap r5.1), nI (IntKind.i64.wrap r6.1), nI 0, nI 0, .nils, .nils, nI 0, nI 0, .nils, .nils]), (.s 6463, [lY r6.2.1, nI r6.2.2.1, bB r6.2.2.2])]⟩ ?_
          refine L_len (enc := D.int .u8) (l := r6.2.1) rfl rfl ?_
          refine Ae 3 [.o true (o60_11.drop 19), .c c60_24, .c c60_28] ⟨[(66, bB (decide (r6.2.2.1 < (r6.2.1.length : Int)))), (65, bB (decide (r6.2.2.1 < (r6.2.1.length : Int)))), (64, bB (decide (r6.2.2.1 < (r6.2.1.length : Int)))), (52, bB false), (63, nI (r6.2.1.length : Int)), (62, lY r6.2.1), (61, .ptr (.s 6463) 0), (60, .ptr (.s 6463) 0), (59, .ptr (.s 6463) 0), (58, .ptr (.s 6463) 0), (57, nI r6.2.2.1), (56, .ptr (.s 6463) 1), (55, .ptr (.s 6463) 0), (54, .ptr (.s 6463) 0), (53, .ptr (.s 6463) 0), (51, bB r6.2.2.2), (50, .ptr (.s 6463) 2), (49, .ptr (.s 6463) 0), (48, .ptr (.s 6463) 0), (5, .ptr (.s 6463) 0), (2, .ptr (.s 15) 0)], [(.s 15, [nI r4.1, nI (IntKind.i64.wrap r5.1), nI (IntKind.i64.wrap r6.1), nI 0, nI 0, .nils, .nils, nI 0, nI 0, .nils, .nils]), (.s 6463, [lY r6.2.1, nI r6.2.2.1, bB r6.2.2.2])]⟩ ?_
          refine L_splitE (b := decide (r6.2.2.1 < (r6.2.1.length : Int))) (fun z => ⟨[(66, bB z), (65, bB (decide (r6.2.2.1 < (r6.2.1.length : Int)))), (64, bB (decide (r6.2.2.1 < (r6.2.1.length : Int)))), (52, bB false), (63, nI (r6.2.1.length : Int)), (62, lY r6.2.1), (61, .ptr (.s 6463) 0), (60, .ptr (.s 6463) 0), (59, .ptr (.s 6463) 0), (58, .ptr (.s 6463) 0), (57, nI r6.2.2.1), (56, .ptr (.s 6463) 1), (55, .ptr (.s 6463) 0), (54, .ptr (.s 6463) 0), (53, .ptr (.s 6463) 0), (51, bB r6.2.2.2), (50, .ptr (.s 6463) 2), (49, .ptr (.s 6463) 0), (48, .ptr (.s 6463) 0), (5, .ptr (.s 6463) 0), (2, .ptr (.s 15) 0)], [(.s 15, [nI r4.1, nI (IntKind.i64.wrap r5.1), nI (IntKind.i64.wrap r6.1), nI 0, nI 0, .nils, .nils, nI 0, nI 0, .nils, .nils]), (.s 6463, [lY r6.2.1, nI r6.2.2.1, bB r6.2.2.2])]⟩) rfl (fun _ => ?_) (fun _ => ?_)
          · refine Avk 14 [] .ret ⟨[(3, nI 6), (2, .ptr (.s 15) 0)], [(.s 15, [nI 0, nI 0, nI 0, nI 0, nI 0, .nils, .nils, nI 0, nI 0, .nils, .nils])]⟩ ?_
            exact L_ret
          · refine Ae 1 [.o true (o60_11.drop 20), .c c60_24, .c c60_28] ⟨[(67, .agg [nI r4.1, nI (IntKind.i64.wrap r5.1), nI (IntKind.i64.wrap r6.1), nI 0, nI 0, .nils, .nils, nI 0, nI 0, .nils, .nils]), (66, bB false), (65, bB (decide (r6.2.2.1 < (r6.2.1.length : Int)))), (64, bB (decide (r6.2.2.1 < (r6.2.1.length : Int)))), (52, bB false), (63, nI (r6.2.1.length : Int)), (62, lY r6.2.1), (61, .ptr (.s 6463) 0), (60, .ptr (.s 6463) 0), (59, .ptr (.s 6463) 0), (58, .ptr (.s 6463) 0), (57, nI r6.2.2.1), (56, .ptr (.s 6463) 1), (55, .ptr (.s 6463) 0), (54, .ptr (.s 6463) 0), (53, .ptr (.s 6463) 0), (51, bB r6.2.2.2), (50, .ptr (.s 6463) 2), (49, .ptr (.s 6463) 0), (48, .ptr (.s 6463) 0), (5, .ptr (.s 6463) 0), (2, .ptr (.s 15) 0)], [(.s 15, [nI r4.1, nI (IntKind.i64.wrap r5.1), nI (IntKind.i64.wrap r6.1), nI 0, nI 0, .nils, .nils, nI 0, nI 0, .nils, .nils]), (.s 6463, [lY r6.2.1, nI r6.2.2.1, bB r6.2.2.2])]⟩ ?_
            refine L_call (ok_frame_Check (⟨r4.1, IntKind.i64.wrap r5.1, IntKind.i64.wrap r6.1, (⟨0, 0, [], [], 0, 0, [], []⟩ : T_api_Sent)⟩ : T_api_Frame)) rfl rfl (fun _ => rfl) (fun _ => trivial) (fun r12 => ?_)
            refine Av 3 [.c c60_24, .c c60_28] ⟨[(70, bB (r12 != 0)), (2, .ptr (.s 15) 0)], [(.s 15, [nI r4.1, nI (IntKind.i64.wrap r5.1), nI (IntKind.i64.wrap r6.1), nI 0, nI 0, .nils, .nils, nI 0, nI 0, .nils, .nils])]⟩ ?_
            refine L_split 70 decNe (fun _ => ?_) (fun _ => ?_)
            · refine Avk 9 [] .ret ⟨[(3, nI 6), (2, .ptr (.s 15) 0)], [(.s 15, [nI 0, nI 0, nI 0, nI 0, nI 0, .nils, .nils, nI 0, nI 0, .nils, .nils])]⟩ ?_
              exact L_ret
            · refine Avk 9 [] .ret ⟨[(3, nI 0), (2, .ptr (.s 15) 0)], [(.s 15, [nI r4.1, nI (IntKind.i64.wrap r5.1), nI (IntKind.i64.wrap r6.1), nI 0, nI 0, .nils, .nils, nI 0, nI 0, .nils, .nils])]⟩ ?_
              exact L_ret
/-- thrum/thrumref03.code. -/
def en_thrumref03_code (v : (List Int)) : PV := sY (.s 0) v
def o113_0 : List AOper := [⟨some 2, none, 0, .mov (.c .nils)⟩]
def o113_1 : List AOper := [mv 3 100 0, ⟨some 4, none, 101, .bin .lss .int (.t 3) (.c (.d (.int .u64 128)))⟩]
def o113_2 : List AOper := [mv 5 200 0, ⟨some 6, none, 201, .convI .u8 (.t 5)⟩, ⟨some 7, none, 202, .bslice 5 1 [.t 6]⟩, mv 2 203 7]
def o113_3 : List AOper := [mv 8 300 0, ⟨some 9, none, 301, .bin .rem .int (.t 8) (.c (.d (.int .u64 128)))⟩, ⟨some 10, none, 302, .convI .u8 (.t 9)⟩, ⟨some 11, none, 303, .bin .add .int (.t 10) (.c (.d (.int .u8 128)))⟩, ⟨some 12, none, 304, .bslice 5 1 [.t 11]⟩, mv 13 305 0, ⟨some 14, none, 306, .bin .quo .int (.t 13) (.c (.d (.int .u64 128)))⟩, cl' 15 307 113 [.t 14], ⟨some 16, none, 308, .app 5 1 1 (.t 12) (.t 15)⟩, mv 2 309 16]
def c113_6 : AC := .cond (.t 4) (.seq (.reg o113_2) .ret) .skip
def c113_10 : AC := .seq (.reg o113_3) .ret
def c113_12 : AC := .seq (.reg o113_0) (.seq (.seq (.reg o113_1) c113_6) c113_10)
theorem fn113 : fnA Try.prog 113 = some (17, [.t 2], c113_12) := by kernel_rfl
theorem ok_thrumref03_code (a0 : Int) : ∀ v, M_thrumref03_code a0 = some v → EvF Try.prog 113 [.int .u64 a0] (en_thrumref03_code v) := by
  refine M_thrumref03_code.partial_correctness (fun a0 v => EvF Try.prog 113 [.int .u64 a0] (en_thrumref03_code v)) ?_ a0
  clear a0
  intro f' IH a0 v hv
  refine EvF_go fn113 (Nat.le_of_ble_eq_true rfl) ?_
  suffices h : Ok _ fun v => go Try.prog 17 (Fnl [.t 2] (en_thrumref03_code v) []) [.c c113_12] .norm (initSt (List.map PV.d [.int .u64 a0]) []) from h v hv
  clear hv v
  refine Av 10 [.c c113_6, .c c113_10] ⟨[(4, bB (decide (a0 < 128))), (0, nU a0)], []⟩ ?_
  refine L_split 4 rfl (fun _ => ?_) (fun _ => ?_)
  · refine Avk 10 [] .ret ⟨[(2, sY (.s 3247) [IntKind.u8.wrap a0])], []⟩ ?_
    exact L_ret
  · refine Av 11 [.o false (o113_3.drop 7), .c .ret] ⟨[(14, nU (IntKind.u64.wrap (Int.tdiv a0 128))), (12, sY (.s 4879) [IntKind.u8.wrap ((IntKind.u8.wrap (Int.tmod a0 128)) + 128)])], []⟩ ?_
    refine L_call (fun v hv => IH (IntKind.u64.wrap (Int.tdiv a0 128)) v hv) trivial rfl (fun _ => rfl) (fun _ => (flat_map_of fun _ => trivial)) (fun r1 => ?_)
    refine Av 0 [.o false (o113_3.drop 8), .c .ret] ⟨[(15, sY (.s 4912) r1), (12, sY (.s 4879) [IntKind.u8.wrap ((IntKind.u8.wrap (Int.tmod a0 128)) + 128)])], []⟩ ?_
    refine L_app (enc := D.int .u8) (l := [IntKind.u8.wrap ((IntKind.u8.wrap (Int.tmod a0 128)) + 128)]) (l2 := r1) trivial rfl rfl (fun _ => rfl) (fun _ => ?_)
    refine Avk 3 [] .ret ⟨[(2, sY (.s 4943) ([IntKind.u8.wrap ((IntKind.u8.wrap (Int.tmod a0 128)) + 128)] ++ r1))], []⟩ ?_
    exact L_ret
/-- thrum/thrumref03.Put. -/
def en_thrumref03_Put (v : (List Int)) : PV := sY (.s 0) v
def o61_0 : List AOper := [⟨some 4, none, 0, .mov (.c .nils)⟩]
def o61_1 : List AOper := [mv 8 100 0, ⟨some 9, none, 101, .app 5 1 1 (.c .nils) (.t 8)⟩, mv 5 102 9]
def o61_2 : List AOper := [mv 10 200 1, ln 11 201 10, mi 12 202 0]
def o61_3 : List AOper := [bi 13 300 .lss 12 11]
def o61_4 : List AOper := [⟨some 14, none, 400, .idxA 1 (.t 10) (.t 12)⟩, ld 15 401 14, mv 7 402 15]
def o61_5 : List AOper := [mv 16 500 5, mv 17 501 7, cl' 18 502 113 [.t 17], ⟨some 19, none, 503, .app 5 1 1 (.t 16) (.t 18)⟩, mv 5 504 19]
def o61_6 : List AOper := [bc 20 600 .add 12 1, mv 12 601 20]
def o61_7 : List AOper := [mv 21 700 5, mv 4 701 21]
def c61_6 : AC := .cond (.t 13) .skip (.exit 0)
def c61_8 : AC := .reg o61_5
def c61_11 : AC := .reg o61_6
def c61_12 : AC := .seq (.block 1 (.seq (.reg o61_4) c61_8)) c61_11
def c61_14 : AC := .seq (.reg o61_3) (.seq c61_6 c61_12)
def c61_16 : AC := .block 0 (.loop c61_14)
def c61_20 : AC := .seq (.reg o61_7) .ret
def c61_21 : AC := .seq (.seq (.reg o61_2) c61_16) c61_20
def c61_23 : AC := .seq (.reg o61_0) (.seq (.reg o61_1) c61_21)
theorem fn61 : fnA Try.prog 61 = some (22, [.t 4], c61_23) := by kernel_rfl
def q_ok_thrumref03_Put_l0_ok (a1 : List Int) (x0 : Int) (x1 : List Int) (v : (List Int)) : Prop := (fun v => go Try.prog 22 (PostN (.exit 0) (fun x : (List Int) => ⟨[(5, sY (.h 1) x)], []⟩) v) [.l c61_14] .norm ⟨[(12, nI x0), (11, nI (a1.length : Int)), (10, lU a1), (5, sY (.h 0) x1)], []⟩) v
theorem ok_thrumref03_Put_l0_ok (a1 : List Int) (x0 : Int) (x1 : List Int) : Ok (M_thrumref03_Put_l0 a1 x0 x1) (q_ok_thrumref03_Put_l0_ok a1 x0 x1) := by
  refine M_thrumref03_Put_l0.partial_correctness a1 (q_ok_thrumref03_Put_l0_ok a1) ?_ x0 x1
  clear x0 x1
  intro f' IH x0 x1
  refine okI ?_
  unfold q_ok_thrumref03_Put_l0_ok at *
  refine Av 1 [.c c61_14, .l c61_14] ⟨[(12, nI x0), (11, nI (a1.length : Int)), (10, lU a1), (5, sY (.h 0) x1)], []⟩ ?_
  refine Av 5 [.c c61_6, .c c61_12, .l c61_14] ⟨[(13, bB (decide (x0 < (a1.length : Int)))), (12, nI x0), (11, nI (a1.length : Int)), (10, lU a1), (5, sY (.h 0) x1)], []⟩ ?_
  refine L_split 13 rfl (fun _ => ?_) (fun _ => ?_)
  · refine Av 6 [.o false o61_4, .c c61_8, .b 1, .c c61_11, .l c61_14] ⟨[(12, nI x0), (11, nI (a1.length : Int)), (10, lU a1), (5, sY (.h 0) x1)], []⟩ ?_
    refine L_idxD (enc := D.int .u64) (l := a1) (iv := x0) trivial rfl rfl (fun _ => rfl) (fun hc400 => ?_)
    refine Av 6 [.o false (o61_5.drop 2), .b 1, .c c61_11, .l c61_14] ⟨[(17, nU (at' a1 x0)), (16, sY (.h 0) x1), (12, nI x0), (11, nI (a1.length : Int)), (10, lU a1)], []⟩ ?_
    refine L_call (ok_thrumref03_code (at' a1 x0)) trivial rfl (fun _ => rfl) (fun _ => (flat_map_of fun _ => trivial)) (fun r1 => ?_)
    refine Av 0 [.o false (o61_5.drop 3), .b 1, .c c61_11, .l c61_14] ⟨[(18, sY (.s 8032) r1), (16, sY (.h 0) x1), (12, nI x0), (11, nI (a1.length : Int)), (10, lU a1)], []⟩ ?_
    refine L_app (enc := D.int .u8) (l := x1) (l2 := r1) trivial rfl rfl (fun _ => rfl) (fun _ => ?_)
    refine Av 7 [.l c61_14] ⟨[(12, nI (IntKind.i64.wrap (x0 + 1))), (5, sY (.s 8063) (x1 ++ r1)), (11, nI (a1.length : Int)), (10, lU a1)], []⟩ ?_
    exact L_again (IH (IntKind.i64.wrap (x0 + 1)) (x1 ++ r1))
  · refine Avk 4 [] (.exit 0) ⟨[(5, sY (.h 0) x1)], []⟩ ?_
    exact L_end
theorem ok_thrumref03_Put (a0 : List Int) (a1 : List Int) : ∀ v, M_thrumref03_Put a0 a1 = some v → EvF Try.prog 61 [.lst (List.map (D.int .u8) a0), .lst (List.map (D.int .u64) a1)] (en_thrumref03_Put v) := by
  intro v hv
  refine EvF_go fn61 (Nat.le_of_ble_eq_true rfl) ?_
  suffices h : Ok (M_thrumref03_Put a0 a1) fun v => go Try.prog 22 (Fnl [.t 4] (en_thrumref03_Put v) []) [.c c61_23] .norm (initSt (List.map PV.d [.lst (List.map (D.int .u8) a0), .lst (List.map (D.int .u64) a1)]) []) from h v hv
  unfold M_thrumref03_Put
  refine Av 7 [.o false (o61_1.drop 1), .c c61_21] ⟨[(8, lY a0), (1, lU a1)], []⟩ ?_
  refine L_appN (enc := D.int .u8) (l2 := a0) trivial rfl rfl (fun _ => rfl) (fun _ => ?_)
  refine Av 6 [.o false (o61_2.drop 1), .c c61_16, .c c61_20] ⟨[(10, lU a1), (5, sY (.s 1631) a0)], []⟩ ?_
  refine L_len (enc := D.int .u64) (l := a1) trivial rfl ?_
  refine Av 4 [.l c61_14, .b 0, .c c61_20] ⟨[(12, nI 0), (11, nI (a1.length : Int)), (10, lU a1), (5, sY (.s 1631) a0)], []⟩ ?_
  refine L_piece (fs := [.l c61_14]) (ks := [.b 0, .c c61_20]) (ok_thrumref03_Put_l0_ok a1 0 a0) (fun j2 => ?_)
  refine Avk 7 [] .ret ⟨[(4, sY (.h 1) j2)], []⟩ ?_
  exact L_ret
/-- thrum/thrumlaw07.FrameAcks. -/
def en_thrumlaw07_FrameAcks (v : Bool) : PV := bB v
def o13_0 : List AOper := [mb 4 0 false]
def o13_1 : List AOper := [cl' 11 100 28 [], mv 5 101 11]
def o13_2 : List AOper := [mv 12 200 5, ⟨some 13, none, 201, .un .not (.t 12)⟩]
def o13_3 : List AOper := [mb 4 300 false]
def o13_4 : List AOper := [mv 14 400 0, mv 15 401 1, cl' 16 402 59 [.t 14, .t 15], ⟨some 6, none, 403, .alloc 53 11 [.int .i64 0, .int .i64 0, .int .i64 0, .int .i64 0, .int .i64 0, .lst [], .lst [], .int .i64 0, .int .i64 0, .lst [], .lst []]⟩, ⟨none, none, 404, .store 11 (.t 6) (.t 16)⟩]
def o13_5 : List AOper := [⟨some 18, none, 500, .load true 11 (.t 6)⟩, cl' 19 501 42 [.t 18], mv 17 502 19, xt 20 503 17 0, xt 21 504 17 1, mv 7 505 20, mv 8 506 21]
def o13_6 : List AOper := [mv 22 600 0, bc 23 601 .lss 22 0, mv 24 602 23, gv 25 24 false 603 0, ⟨some 26, some (24, false), 604, .bin .geq .int (.t 25) (.c (.d (.int .i64 64)))⟩, pz 27 605 24 26 true, mv 28 606 27, gv 29 28 false 607 1, ⟨some 30, some (28, false), 608, .bin .lss .int (.t 29) (.c (.d (.int .i64 0)))⟩, pz 31 609 28 30 true, mv 32 610 31, gv 33 32 false 611 1, ⟨some 34, some (32, false), 612, .bin .gtr .int (.t 33) (.c (.d (.int .i64 1073741824)))⟩, pz 35 613 32 34 true]
def o13_7 : List AOper := [mv 36 700 5, mv 37 701 36, gv 38 37 true 702 8, ⟨some 39, some (37, true), 703, .bin .eql .int (.t 38) (.c (.d (.int .i64 1)))⟩, pk 40 704 37 39 false, mv 41 705 40, ⟨some 42, some (41, true), 706, .load true 11 (.t 6)⟩, ⟨some 43, some (41, true), 707, .call 30 [.t 42]⟩, ⟨some 44, some (41, true), 708, .bin .eql .int (.t 43) (.c (.d (.int .i64 1)))⟩, pk 45 709 41 44 false, mv 4 710 45]
def o13_8 : List AOper := [mv 47 800 7, cl' 48 801 60 [.t 47], mv 46 802 48, xt 49 803 46 0, xt 50 804 46 1, ⟨some 9, none, 805, .alloc 53 11 [.int .i64 0, .int .i64 0, .int .i64 0, .int .i64 0, .int .i64 0, .lst [], .lst [], .int .i64 0, .int .i64 0, .lst [], .lst []]⟩, ⟨none, none, 806, .store 11 (.t 9) (.t 49)⟩, mv 10 807 50]
def o13_9 : List AOper := [mv 51 900 5, mv 52 901 51, gv 53 52 true 902 8, ⟨some 54, some (52, true), 903, .bin .eql .int (.t 53) (.c (.d (.int .i64 0)))⟩, pk 55 904 52 54 false, mv 56 905 55, gv 57 56 true 906 7, ⟨some 58, some (56, true), 907, .len (.t 57)⟩, gv 59 56 true 908 0, ⟨some 60, some (56, true), 909, .convI .u64 (.t 59)⟩, gv 61 56 true 910 1, ⟨some 62, some (56, true), 911, .convI .u64 (.t 61)⟩, ⟨some 63, some (56, true), 912, .bslice 82 1 [.t 60, .t 62]⟩, ⟨some 64, some (56, true), 913, .call 61 [.c .nils, .t 63]⟩, ⟨some 65, some (56, true), 914, .len (.t 64)⟩, ⟨some 66, some (56, true), 915, .bin .add .int (.c (.d (.int .i64 2))) (.t 65)⟩, ⟨some 67, some (56, true), 916, .bin .add .int (.t 66) (.c (.d (.int .i64 4)))⟩, ⟨some 68, some (56, true), 917, .bin .eql .int (.t 58) (.t 67)⟩, pk 69 918 56 68 false, mv 70 919 69, gv 71 70 true 920 10, ⟨some 72, some (70, true), 921, .bin .eql .int (.t 71) (.c (.d (.int .i64 0)))⟩, pk 73 922 70 72 false, mv 74 923 73, ⟨some 75, some (74, true), 924, .fieldA 0 (.t 9)⟩, ⟨some 76, some (74, true), 925, .load false 1 (.t 75)⟩, ⟨some 77, some (74, true), 926, .bin .eql .int (.t 76) (.c (.d (.int .i64 2)))⟩, pk 78 927 74 77 false, mv 79 928 78, ⟨some 80, some (79, true), 929, .fieldA 1 (.t 9)⟩, ⟨some 81, some (79, true), 930, .load false 1 (.t 80)⟩, gv 82 79 true 931 0, ⟨some 83, some (79, true), 932, .bin .eql .int (.t 81) (.t 82)⟩, pk 84 933 79 83 false, mv 85 934 84, ⟨some 86, some (85, true), 935, .fieldA 2 (.t 9)⟩, ⟨some 87, some (85, true), 936, .load false 1 (.t 86)⟩, gv 88 85 true 937 1, ⟨some 89, some (85, true), 938, .bin .eql .int (.t 87) (.t 88)⟩, pk 90 939 85 89 false, mv 91 940 90, ⟨some 92, some (91, true), 941, .fieldA 3 (.t 9)⟩, ⟨some 93, some (91, true), 942, .fieldA 1 (.t 92)⟩, ⟨some 94, some (91, true), 943, .load false 1 (.t 93)⟩, ⟨some 95, some (91, true), 944, .bin .eql .int (.t 94) (.c (.d (.int .i64 0)))⟩, pk 96 945 91 95 false, mv 4 946 96]
def o13_6t3_6 : List AOper := (o13_6.drop 3).take 3
def o13_6t7_10 : List AOper := (o13_6.drop 7).take 3
def o13_6t11_14 : List AOper := (o13_6.drop 11).take 3
def o13_7t2_5 : List AOper := (o13_7.drop 2).take 3
def o13_7t6_10 : List AOper := (o13_7.drop 6).take 4
def o13_9t2_5 : List AOper := (o13_9.drop 2).take 3
def o13_9t6_19 : List AOper := (o13_9.drop 6).take 13
def o13_9t20_23 : List AOper := (o13_9.drop 20).take 3
def o13_9t24_28 : List AOper := (o13_9.drop 24).take 4
def o13_9t29_34 : List AOper := (o13_9.drop 29).take 5
def o13_9t35_40 : List AOper := (o13_9.drop 35).take 5
def o13_9t41_46 : List AOper := (o13_9.drop 41).take 5
def c13_7 : AC := .cond (.t 13) (.seq (.reg o13_3) .ret) .skip
def c13_16 : AC := .cond (.t 35) (.seq (.reg o13_7) .ret) .skip
def c13_21 : AC := .seq (.reg o13_9) .ret
def c13_22 : AC := .seq (.reg o13_8) c13_21
def c13_23 : AC := .seq (.seq (.reg o13_6) c13_16) c13_22
def c13_24 : AC := .seq (.reg o13_5) c13_23
def c13_25 : AC := .seq (.reg o13_4) c13_24
def c13_26 : AC := .seq (.seq (.reg o13_2) c13_7) c13_25
def c13_28 : AC := .seq (.reg o13_0) (.seq (.reg o13_1) c13_26)
theorem fn13 : fnA Try.prog 13 = some (97, [.t 4], c13_28) := by kernel_rfl
theorem ok_thrumlaw07_FrameAcks (a0 : Int) (a1 : Int) : ∀ v, M_thrumlaw07_FrameAcks a0 a1 = some v → EvF Try.prog 13 [.int .i64 a0, .int .i64 a1] (en_thrumlaw07_FrameAcks v) := by
  intro v hv
  refine EvF_go fn13 (Nat.le_of_ble_eq_true rfl) ?_
  suffices h : Ok (M_thrumlaw07_FrameAcks a0 a1) fun v => go Try.prog 97 (Fnl [.t 4] (en_thrumlaw07_FrameAcks v) []) [.c c13_28] .norm (initSt (List.map PV.d [.int .i64 a0, .int .i64 a1]) []) from h v hv
  unfold M_thrumlaw07_FrameAcks
  refine Av 6 [.o false o13_1, .c c13_26] ⟨[(0, nI a0), (1, nI a1)], []⟩ ?_
  refine L_call (ok_thrumlaw07_live) trivial rfl (fun _ => rfl) (fun _ => trivial) (fun r1 => ?_)
  refine Av 8 [.c c13_7, .c c13_25] ⟨[(13, bB (!r1)), (5, bB r1), (0, nI a0), (1, nI a1)], []⟩ ?_
  refine L_split 13 decF (fun _ => ?_) (fun _ => ?_)
  · refine Avk 7 [] .ret ⟨[(4, bB false)], []⟩ ?_
    exact L_ret
  · refine Av 6 [.o false (o13_4.drop 2), .c c13_24] ⟨[(15, nI a1), (14, nI a0), (5, bB r1), (0, nI a0), (1, nI a1)], []⟩ ?_
    refine L_call (ok_frame_Ack a0 a1) trivial rfl (fun _ => rfl) (fun _ => ⟨trivial, trivial, trivial, trivial, trivial, rfl, rfl, trivial, trivial, rfl, rfl, trivial⟩) (fun r2 => ?_)
    refine Av 6 [.o false (o13_5.drop 1), .c c13_23] ⟨[(18, .agg [nI r2.1, nI r2.2.1, nI r2.2.2.1, nI r2.2.2.2.1, nI r2.2.2.2.2.1, .d (.lst []), .d (.lst []), nI r2.2.2.2.2.2.1, nI r2.2.2.2.2.2.2, .d (.lst []), .d (.lst [])]), (6, .ptr (.s 6463) 0), (5, bB r1), (0, nI a0), (1, nI a1)], [(.s 6463, [nI r2.1, nI r2.2.1, nI r2.2.2.1, nI r2.2.2.2.1, nI r2.2.2.2.2.1, .d (.lst []), .d (.lst []), nI r2.2.2.2.2.2.1, nI r2.2.2.2.2.2.2, .d (.lst []), .d (.lst [])])]⟩ ?_
    refine L_call (ok_frame_Write (⟨r2.1, r2.2.1, r2.2.2.1, (⟨r2.2.2.2.1, r2.2.2.2.2.1, [], [], r2.2.2.2.2.2.1, r2.2.2.2.2.2.2, [], []⟩ : T_api_Sent)⟩ : T_api_Frame)) trivial rfl (fun _ => rfl) (fun _ => ⟨(flat_map_of fun _ => trivial), trivial, trivial⟩) (fun r3 => ?_)
    refine Av 12 [.o false (o13_6.drop 3), .c c13_16, .c c13_22] ⟨[(24, bB (decide (a0 < 0))), (8, nI r3.2), (7, sY (.s 8016) r3.1), (6, .ptr (.s 6463) 0), (5, bB r1), (0, nI a0), (1, nI a1)], [(.s 6463, [nI r2.1, nI r2.2.1, nI r2.2.2.1, nI r2.2.2.2.1, nI r2.2.2.2.2.1, .d (.lst []), .d (.lst []), nI r2.2.2.2.2.2.1, nI r2.2.2.2.2.2.2, .d (.lst []), .d (.lst [])])]⟩ ?_
    refine L_take 3 o13_6t3_6 (o13_6.drop 6) ?_
    refine L_join [.o false o13_6t3_6] [.o false (o13_6.drop 6), .c c13_16, .c c13_22] (fun x : Bool => ⟨[(27, bB x), (8, nI r3.2), (7, sY (.s 8016) r3.1), (6, .ptr (.s 6463) 0), (5, bB r1), (0, nI a0), (1, nI a1)], [(.s 6463, [nI r2.1, nI r2.2.1, nI r2.2.2.1, nI r2.2.2.2.1, nI r2.2.2.2.2.1, .d (.lst []), .d (.lst []), nI r2.2.2.2.2.2.1, nI r2.2.2.2.2.2.2, .d (.lst []), .d (.lst [])])]⟩) ?_ (fun j4 => ?_)
    · refine L_split 24 rfl (fun _ => ?_) (fun _ => ?_)
      · refine Av 4 [] ⟨[(27, bB true), (8, nI r3.2), (7, sY (.s 8016) r3.1), (6, .ptr (.s 6463) 0), (5, bB r1), (0, nI a0), (1, nI a1)], [(.s 6463, [nI r2.1, nI r2.2.1, nI r2.2.2.1, nI r2.2.2.2.1, nI r2.2.2.2.2.1, .d (.lst []), .d (.lst []), nI r2.2.2.2.2.2.1, nI r2.2.2.2.2.2.2, .d (.lst []), .d (.lst [])])]⟩ ?_
        exact L_end
      · refine Av 4 [] ⟨[(27, bB (decide (a0 ≥ 64))), (8, nI r3.2), (7, sY (.s 8016) r3.1), (6, .ptr (.s 6463) 0), (5, bB r1), (0, nI a0), (1, nI a1)], [(.s 6463, [nI r2.1, nI r2.2.1, nI r2.2.2.1, nI r2.2.2.2.1, nI r2.2.2.2.2.1, .d (.lst []), .d (.lst []), nI r2.2.2.2.2.2.1, nI r2.2.2.2.2.2.2, .d (.lst []), .d (.lst [])])]⟩ ?_
        exact L_end
    · refine Av 1 [.o false (o13_6.drop 7), .c c13_16, .c c13_22] ⟨[(28, bB j4), (8, nI r3.2), (7, sY (.s 8016) r3.1), (6, .ptr (.s 6463) 0), (5, bB r1), (0, nI a0), (1, nI a1)], [(.s 6463, [nI r2.1, nI r2.2.1, nI r2.2.2.1, nI r2.2.2.2.1, nI r2.2.2.2.2.1, .d (.lst []), .d (.lst []), nI r2.2.2.2.2.2.1, nI r2.2.2.2.2.2.2, .d (.lst []), .d (.lst [])])]⟩ ?_
      refine L_take 3 o13_6t7_10 (o13_6.drop 10) ?_
      refine L_join [.o false o13_6t7_10] [.o false (o13_6.drop 10), .c c13_16, .c c13_22] (fun x : Bool => ⟨[(31, bB x), (8, nI r3.2), (7, sY (.s 8016) r3.1), (6, .ptr (.s 6463) 0), (5, bB r1), (0, nI a0), (1, nI a1)], [(.s 6463, [nI r2.1, nI r2.2.1, nI r2.2.2.1, nI r2.2.2.2.1, nI r2.2.2.2.2.1, .d (.lst []), .d (.lst []), nI r2.2.2.2.2.2.1, nI r2.2.2.2.2.2.2, .d (.lst []), .d (.lst [])])]⟩) ?_ (fun j5 => ?_)
      · refine L_split 28 decT (fun _ => ?_) (fun _ => ?_)
        · refine Av 4 [] ⟨[(31, bB true), (8, nI r3.2), (7, sY (.s 8016) r3.1), (6, .ptr (.s 6463) 0), (5, bB r1), (0, nI a0), (1, nI a1)], [(.s 6463, [nI r2.1, nI r2.2.1, nI r2.2.2.1, nI r2.2.2.2.1, nI r2.2.2.2.2.1, .d (.lst []), .d (.lst []), nI r2.2.2.2.2.2.1, nI r2.2.2.2.2.2.2, .d (.lst []), .d (.lst [])])]⟩ ?_
          exact L_end
        · refine Av 4 [] ⟨[(31, bB (decide (a1 < 0))), (8, nI r3.2), (7, sY (.s 8016) r3.1), (6, .ptr (.s 6463) 0), (5, bB r1), (0, nI a0), (1, nI a1)], [(.s 6463, [nI r2.1, nI r2.2.1, nI r2.2.2.1, nI r2.2.2.2.1, nI r2.2.2.2.2.1, .d (.lst []), .d (.lst []), nI r2.2.2.2.2.2.1, nI r2.2.2.2.2.2.2, .d (.lst []), .d (.lst [])])]⟩ ?_
          exact L_end
      · refine Av 1 [.o false (o13_6.drop 11), .c c13_16, .c c13_22] ⟨[(32, bB j5), (8, nI r3.2), (7, sY (.s 8016) r3.1), (6, .ptr (.s 6463) 0), (5, bB r1), (0, nI a0), (1, nI a1)], [(.s 6463, [nI r2.1, nI r2.2.1, nI r2.2.2.1, nI r2.2.2.2.1, nI r2.2.2.2.2.1, .d (.lst []), .d (.lst []), nI r2.2.2.2.2.2.1, nI r2.2.2.2.2.2.2, .d (.lst []), .d (.lst [])])]⟩ ?_
        refine L_take 3 o13_6t11_14 (o13_6.drop 14) ?_
        refine L_join [.o false o13_6t11_14] [.o false (o13_6.drop 14), .c c13_16, .c c13_22] (fun x : Bool => ⟨[(35, bB x), (8, nI r3.2), (7, sY (.s 8016) r3.1), (6, .ptr (.s 6463) 0), (5, bB r1), (0, nI a0), (1, nI a1)], [(.s 6463, [nI r2.1, nI r2.2.1, nI r2.2.2.1, nI r2.2.2.2.1, nI r2.2.2.2.2.1, .d (.lst []), .d (.lst []), nI r2.2.2.2.2.2.1, nI r2.2.2.2.2.2.2, .d (.lst []), .d (.lst [])])]⟩) ?_ (fun j6 => ?_)
        · refine L_split 32 decT (fun _ => ?_) (fun _ => ?_)
          · refine Av 4 [] ⟨[(35, bB true), (8, nI r3.2), (7, sY (.s 8016) r3.1), (6, .ptr (.s 6463) 0), (5, bB r1), (0, nI a0), (1, nI a1)], [(.s 6463, [nI r2.1, nI r2.2.1, nI r2.2.2.1, nI r2.2.2.2.1, nI r2.2.2.2.2.1, .d (.lst []), .d (.lst []), nI r2.2.2.2.2.2.1, nI r2.2.2.2.2.2.2, .d (.lst []), .d (.lst [])])]⟩ ?_
            exact L_end
          · refine Av 4 [] ⟨[(35, bB (decide (a1 > 1073741824))), (8, nI r3.2), (7, sY (.s 8016) r3.1), (6, .ptr (.s 6463) 0), (5, bB r1), (0, nI a0), (1, nI a1)], [(.s 6463, [nI r2.1, nI r2.2.1, nI r2.2.2.1, nI r2.2.2.2.1, nI r2.2.2.2.2.1, .d (.lst []), .d (.lst []), nI r2.2.2.2.2.2.1, nI r2.2.2.2.2.2.2, .d (.lst []), .d (.lst [])])]⟩ ?_
            exact L_end
        · refine Av 1 [.c c13_16, .c c13_22] ⟨[(35, bB j6), (8, nI r3.2), (7, sY (.s 8016) r3.1), (6, .ptr (.s 6463) 0), (5, bB r1), (0, nI a0), (1, nI a1)], [(.s 6463, [nI r2.1, nI r2.2.1, nI r2.2.2.1, nI r2.2.2.2.1, nI r2.2.2.2.2.1, .d (.lst []), .d (.lst []), nI r2.2.2.2.2.2.1, nI r2.2.2.2.2.2.2, .d (.lst []), .d (.lst [])])]⟩ ?_
          refine L_split 35 decT (fun _ => ?_) (fun _ => ?_)
          · refine Av 5 [.o false (o13_7.drop 2), .c .ret, .c c13_22] ⟨[(37, bB r1), (8, nI r3.2), (6, .ptr (.s 6463) 0)], [(.s 6463, [nI r2.1, nI r2.2.1, nI r2.2.2.1, nI r2.2.2.2.1, nI r2.2.2.2.2.1, .d (.lst []), .d (.lst []), nI r2.2.2.2.2.2.1, nI r2.2.2.2.2.2.2, .d (.lst []), .d (.lst [])])]⟩ ?_
            refine L_take 3 o13_7t2_5 (o13_7.drop 5) ?_
            refine L_join [.o false o13_7t2_5] [.o false (o13_7.drop 5), .c .ret, .c c13_22] (fun x : Bool => ⟨[(40, bB x), (6, .ptr (.s 6463) 0)], [(.s 6463, [nI r2.1, nI r2.2.1, nI r2.2.2.1, nI r2.2.2.2.1, nI r2.2.2.2.2.1, .d (.lst []), .d (.lst []), nI r2.2.2.2.2.2.1, nI r2.2.2.2.2.2.2, .d (.lst []), .d (.lst [])])]⟩) ?_ (fun j7 => ?_)
            · refine L_split 37 decT (fun _ => ?_) (fun _ => ?_)
              · refine Av 4 [] ⟨[(40, bB (r3.2 == 1)), (6, .ptr (.s 6463) 0)], [(.s 6463, [nI r2.1, nI r2.2.1, nI r2.2.2.1, nI r2.2.2.2.1, nI r2.2.2.2.2.1, .d (.lst []), .d (.lst []), nI r2.2.2.2.2.2.1, nI r2.2.2.2.2.2.2, .d (.lst []), .d (.lst [])])]⟩ ?_
                exact L_end
              · refine Av 4 [] ⟨[(40, bB false), (6, .ptr (.s 6463) 0)], [(.s 6463, [nI r2.1, nI r2.2.1, nI r2.2.2.1, nI r2.2.2.2.1, nI r2.2.2.2.2.1, .d (.lst []), .d (.lst []), nI r2.2.2.2.2.2.1, nI r2.2.2.2.2.2.2, .d (.lst []), .d (.lst [])])]⟩ ?_
                exact L_end
            · refine Av 1 [.o false (o13_7.drop 6), .c .ret, .c c13_22] ⟨[(41, bB j7), (6, .ptr (.s 6463) 0)], [(.s 6463, [nI r2.1, nI r2.2.1, nI r2.2.2.1, nI r2.2.2.2.1, nI r2.2.2.2.2.1, .d (.lst []), .d (.lst []), nI r2.2.2.2.2.2.1, nI r2.2.2.2.2.2.2, .d (.lst []), .d (.lst [])])]⟩ ?_
              refine L_take 4 o13_7t6_10 (o13_7.drop 10) ?_
              refine L_join [.o false o13_7t6_10] [.o false (o13_7.drop 10), .c .ret, .c c13_22] (fun x : Bool => ⟨[(45, bB x)], []⟩) ?_ (fun j9 => ?_)
              · refine L_split 41 decT (fun _ => ?_) (fun _ => ?_)
                · refine Av 1 [.o false (o13_7t6_10.drop 1)] ⟨[(42, .agg [nI r2.1, nI r2.2.1, nI r2.2.2.1, nI r2.2.2.2.1, nI r2.2.2.2.2.1, .d (.lst []), .d (.lst []), nI r2.2.2.2.2.2.1, nI r2.2.2.2.2.2.2, .d (.lst []), .d (.lst [])]), (41, bB true)], []⟩ ?_
                  refine L_call (ok_frame_Check (⟨r2.1, r2.2.1, r2.2.2.1, (⟨r2.2.2.2.1, r2.2.2.2.2.1, [], [], r2.2.2.2.2.2.1, r2.2.2.2.2.2.2, [], []⟩ : T_api_Sent)⟩ : T_api_Frame)) rfl rfl (fun _ => rfl) (fun _ => trivial) (fun r8 => ?_)
                  refine Av 3 [] ⟨[(45, bB (r8 == 1))], []⟩ ?_
                  exact L_end
                · refine Av 5 [] ⟨[(45, bB false)], []⟩ ?_
                  exact L_end
              · refine Avk 4 [] .ret ⟨[(4, bB j9)], []⟩ ?_
                exact L_ret
          · refine Av 5 [.o false (o13_8.drop 1), .c c13_21] ⟨[(47, sY (.s 8016) r3.1), (8, nI r3.2), (7, sY (.s 8016) r3.1), (5, bB r1), (0, nI a0), (1, nI a1)], []⟩ ?_
            refine L_call (ok_frame_Read r3.1) trivial rfl (fun _ => rfl) (fun _ => ⟨⟨trivial, trivial, trivial, trivial, trivial, rfl, rfl, trivial, trivial, rfl, rfl, trivial⟩, trivial, trivial⟩) (fun r10 => ?_)
            refine Av 11 [.o false (o13_9.drop 2), .c .ret] ⟨[(52, bB r1), (10, nI r10.2.2.2.2.2.2.2), (9, .ptr (.s 12895) 0), (8, nI r3.2), (7, sY (.s 8016) r3.1), (0, nI a0), (1, nI a1)], [(.s 12895, [nI r10.1, nI r10.2.1, nI r10.2.2.1, nI r10.2.2.2.1, nI r10.2.2.2.2.1, .d (.lst []), .d (.lst []), nI r10.2.2.2.2.2.1, nI r10.2.2.2.2.2.2.1, .d (.lst []), .d (.lst [])])]⟩ ?_
            refine L_take 3 o13_9t2_5 (o13_9.drop 5) ?_
            refine L_join [.o false o13_9t2_5] [.o false (o13_9.drop 5), .c .ret] (fun x : Bool => ⟨[(55, bB x), (10, nI r10.2.2.2.2.2.2.2), (9, .ptr (.s 12895) 0), (7, sY (.s 8016) r3.1), (0, nI a0), (1, nI a1)], [(.s 12895, [nI r10.1, nI r10.2.1, nI r10.2.2.1, nI r10.2.2.2.1, nI r10.2.2.2.2.1, .d (.lst []), .d (.lst []), nI r10.2.2.2.2.2.1, nI r10.2.2.2.2.2.2.1, .d (.lst []), .d (.lst [])])]⟩) ?_ (fun j11 => ?_)
            · refine L_split 52 decT (fun _ => ?_) (fun _ => ?_)
              · refine Av 4 [] ⟨[(55, bB (r3.2 == 0)), (10, nI r10.2.2.2.2.2.2.2), (9, .ptr (.s 12895) 0), (7, sY (.s 8016) r3.1), (0, nI a0), (1, nI a1)], [(.s 12895, [nI r10.1, nI r10.2.1, nI r10.2.2.1, nI r10.2.2.2.1, nI r10.2.2.2.2.1, .d (.lst []), .d (.lst []), nI r10.2.2.2.2.2.1, nI r10.2.2.2.2.2.2.1, .d (.lst []), .d (.lst [])])]⟩ ?_
                exact L_end
              · refine Av 4 [] ⟨[(55, bB false), (10, nI r10.2.2.2.2.2.2.2), (9, .ptr (.s 12895) 0), (7, sY (.s 8016) r3.1), (0, nI a0), (1, nI a1)], [(.s 12895, [nI r10.1, nI r10.2.1, nI r10.2.2.1, nI r10.2.2.2.1, nI r10.2.2.2.2.1, .d (.lst []), .d (.lst []), nI r10.2.2.2.2.2.1, nI r10.2.2.2.2.2.2.1, .d (.lst []), .d (.lst [])])]⟩ ?_
                exact L_end
            · refine Av 1 [.o false (o13_9.drop 6), .c .ret] ⟨[(56, bB j11), (10, nI r10.2.2.2.2.2.2.2), (9, .ptr (.s 12895) 0), (7, sY (.s 8016) r3.1), (0, nI a0), (1, nI a1)], [(.s 12895, [nI r10.1, nI r10.2.1, nI r10.2.2.1, nI r10.2.2.2.1, nI r10.2.2.2.2.1, .d (.lst []), .d (.lst []), nI r10.2.2.2.2.2.1, nI r10.2.2.2.2.2.2.1, .d (.lst []), .d (.lst [])])]⟩ ?_
              refine L_take 13 o13_9t6_19 (o13_9.drop 19) ?_
              refine L_join [.o false o13_9t6_19] [.o false (o13_9.drop 19), .c .ret] (fun x : Bool => ⟨[(69, bB x), (10, nI r10.2.2.2.2.2.2.2), (9, .ptr (.s 12895) 0), (0, nI a0), (1, nI a1)], [(.s 12895, [nI r10.1, nI r10.2.1, nI r10.2.2.1, nI r10.2.2.2.1, nI r10.2.2.2.2.1, .d (.lst []), .d (.lst []), nI r10.2.2.2.2.2.1, nI r10.2.2.2.2.2.2.1, .d (.lst []), .d (.lst [])])]⟩) ?_ (fun j13 => ?_)
              · refine L_split 56 decT (fun _ => ?_) (fun _ => ?_)
                · refine Av 1 [.o false (o13_9t6_19.drop 1)] ⟨[(57, sY (.s 8016) r3.1), (56, bB true), (10, nI r10.2.2.2.2.2.2.2), (9, .ptr (.s 12895) 0), (0, nI a0), (1, nI a1)], [(.s 12895, [nI r10.1, nI r10.2.1, nI r10.2.2.1, nI r10.2.2.2.1, nI r10.2.2.2.2.1, .d (.lst []), .d (.lst []), nI r10.2.2.2.2.2.1, nI r10.2.2.2.2.2.2.1, .d (.lst []), .d (.lst [])])]⟩ ?_
                  refine L_len (enc := D.int .u8) (l := r3.1) rfl rfl ?_
                  refine Av 5 [.o false (o13_9t6_19.drop 7)] ⟨[(63, sU (.s 14607) [IntKind.u64.wrap a0, IntKind.u64.wrap a1]), (56, bB true), (58, nI (r3.1.length : Int)), (10, nI r10.2.2.2.2.2.2.2), (9, .ptr (.s 12895) 0), (0, nI a0), (1, nI a1)], [(.s 12895, [nI r10.1, nI r10.2.1, nI r10.2.2.1, nI r10.2.2.2.1, nI r10.2.2.2.2.1, .d (.lst []), .d (.lst []), nI r10.2.2.2.2.2.1, nI r10.2.2.2.2.2.2.1, .d (.lst []), .d (.lst [])])]⟩ ?_
                  refine L_call (ok_thrumref03_Put [] [IntKind.u64.wrap a0, IntKind.u64.wrap a1]) rfl rfl (fun _ => rfl) (fun _ => (flat_map_of fun _ => trivial)) (fun r12 => ?_)
                  refine Av 0 [.o false (o13_9t6_19.drop 8)] ⟨[(64, sY (.s 14608) r12), (56, bB true), (58, nI (r3.1.length : Int)), (10, nI r10.2.2.2.2.2.2.2), (9, .ptr (.s 12895) 0), (0, nI a0), (1, nI a1)], [(.s 12895, [nI r10.1, nI r10.2.1, nI r10.2.2.1, nI r10.2.2.2.1, nI r10.2.2.2.2.1, .d (.lst []), .d (.lst []), nI r10.2.2.2.2.2.1, nI r10.2.2.2.2.2.2.1, .d (.lst []), .d (.lst [])])]⟩ ?_
                  refine L_len (enc := D.int .u8) (l := r12) rfl rfl ?_
                  refine Av 5 [] ⟨[(69, bB ((r3.1.length : Int) == (IntKind.i64.wrap ((IntKind.i64.wrap (2 + (r12.length : Int))) + 4)))), (10, nI r10.2.2.2.2.2.2.2), (9, .ptr (.s 12895) 0), (0, nI a0), (1, nI a1)], [(.s 12895, [nI r10.1, nI r10.2.1, nI r10.2.2.1, nI r10.2.2.2.1, nI r10.2.2.2.2.1, .d (.lst []), .d (.lst []), nI r10.2.2.2.2.2.1, nI r10.2.2.2.2.2.2.1, .d (.lst []), .d (.lst [])])]⟩ ?_
                  exact L_end
                · refine Av 14 [] ⟨[(69, bB false), (10, nI r10.2.2.2.2.2.2.2), (9, .ptr (.s 12895) 0), (0, nI a0), (1, nI a1)], [(.s 12895, [nI r10.1, nI r10.2.1, nI r10.2.2.1, nI r10.2.2.2.1, nI r10.2.2.2.2.1, .d (.lst []), .d (.lst []), nI r10.2.2.2.2.2.1, nI r10.2.2.2.2.2.2.1, .d (.lst []), .d (.lst [])])]⟩ ?_
                  exact L_end
              · refine Av 1 [.o false (o13_9.drop 20), .c .ret] ⟨[(70, bB j13), (10, nI r10.2.2.2.2.2.2.2), (9, .ptr (.s 12895) 0), (0, nI a0), (1, nI a1)], [(.s 12895, [nI r10.1, nI r10.2.1, nI r10.2.2.1, nI r10.2.2.2.1, nI r10.2.2.2.2.1, .d (.lst []), .d (.lst []), nI r10.2.2.2.2.2.1, nI r10.2.2.2.2.2.2.1, .d (.lst []), .d (.lst [])])]⟩ ?_
                refine L_take 3 o13_9t20_23 (o13_9.drop 23) ?_
                refine L_join [.o false o13_9t20_23] [.o false (o13_9.drop 23), .c .ret] (fun x : Bool => ⟨[(73, bB x), (9, .ptr (.s 12895) 0), (0, nI a0), (1, nI a1)], [(.s 12895, [nI r10.1, nI r10.2.1, nI r10.2.2.1, nI r10.2.2.2.1, nI r10.2.2.2.2.1, .d (.lst []), .d (.lst []), nI r10.2.2.2.2.2.1, nI r10.2.2.2.2.2.2.1, .d (.lst []), .d (.lst [])])]⟩) ?_ (fun j14 => ?_)
                · refine L_split 70 decT (fun _ => ?_) (fun _ => ?_)
                  · refine Av 4 [] ⟨[(73, bB (r10.2.2.2.2.2.2.2 == 0)), (9, .ptr (.s 12895) 0), (0, nI a0), (1, nI a1)], [(.s 12895, [nI r10.1, nI r10.2.1, nI r10.2.2.1, nI r10.2.2.2.1, nI r10.2.2.2.2.1, .d (.lst []), .d (.lst []), nI r10.2.2.2.2.2.1, nI r10.2.2.2.2.2.2.1, .d (.lst []), .d (.lst [])])]⟩ ?_
                    exact L_end
                  · refine Av 4 [] ⟨[(73, bB false), (9, .ptr (.s 12895) 0), (0, nI a0), (1, nI a1)], [(.s 12895, [nI r10.1, nI r10.2.1, nI r10.2.2.1, nI r10.2.2.2.1, nI r10.2.2.2.2.1, .d (.lst []), .d (.lst []), nI r10.2.2.2.2.2.1, nI r10.2.2.2.2.2.2.1, .d (.lst []), .d (.lst [])])]⟩ ?_
                    exact L_end
                · refine Av 1 [.o false (o13_9.drop 24), .c .ret] ⟨[(74, bB j14), (9, .ptr (.s 12895) 0), (0, nI a0), (1, nI a1)], [(.s 12895, [nI r10.1, nI r10.2.1, nI r10.2.2.1, nI r10.2.2.2.1, nI r10.2.2.2.2.1, .d (.lst []), .d (.lst []), nI r10.2.2.2.2.2.1, nI r10.2.2.2.2.2.2.1, .d (.lst []), .d (.lst [])])]⟩ ?_
                  refine L_take 4 o13_9t24_28 (o13_9.drop 28) ?_
                  refine L_join [.o false o13_9t24_28] [.o false (o13_9.drop 28), .c .ret] (fun x : Bool => ⟨[(78, bB x), (9, .ptr (.s 12895) 0), (0, nI a0), (1, nI a1)], [(.s 12895, [nI r10.1, nI r10.2.1, nI r10.2.2.1, nI r10.2.2.2.1, nI r10.2.2.2.2.1, .d (.lst []), .d (.lst []), nI r10.2.2.2.2.2.1, nI r10.2.2.2.2.2.2.1, .d (.lst []), .d (.lst [])])]⟩) ?_ (fun j15 => ?_)
                  · refine L_split 74 decT (fun _ => ?_) (fun _ => ?_)
                    · refine Av 5 [] ⟨[(78, bB (r10.1 == 2)), (9, .ptr (.s 12895) 0), (0, nI a0), (1, nI a1)], [(.s 12895, [nI r10.1, nI r10.2.1, nI r10.2.2.1, nI r10.2.2.2.1, nI r10.2.2.2.2.1, .d (.lst []), .d (.lst []), nI r10.2.2.2.2.2.1, nI r10.2.2.2.2.2.2.1, .d (.lst []), .d (.lst [])])]⟩ ?_
                      exact L_end
                    · refine Av 5 [] ⟨[(78, bB false), (9, .ptr (.s 12895) 0), (0, nI a0), (1, nI a1)], [(.s 12895, [nI r10.1, nI r10.2.1, nI r10.2.2.1, nI r10.2.2.2.1, nI r10.2.2.2.2.1, .d (.lst []), .d (.lst []), nI r10.2.2.2.2.2.1, nI r10.2.2.2.2.2.2.1, .d (.lst []), .d (.lst [])])]⟩ ?_
                      exact L_end
                  · refine Av 1 [.o false (o13_9.drop 29), .c .ret] ⟨[(79, bB j15), (9, .ptr (.s 12895) 0), (0, nI a0), (1, nI a1)], [(.s 12895, [nI r10.1, nI r10.2.1, nI r10.2.2.1, nI r10.2.2.2.1, nI r10.2.2.2.2.1, .d (.lst []), .d (.lst []), nI r10.2.2.2.2.2.1, nI r10.2.2.2.2.2.2.1, .d (.lst []), .d (.lst [])])]⟩ ?_
                    refine L_take 5 o13_9t29_34 (o13_9.drop 34) ?_
                    refine L_join [.o false o13_9t29_34] [.o false (o13_9.drop 34), .c .ret] (fun x : Bool => ⟨[(84, bB x), (9, .ptr (.s 12895) 0), (1, nI a1)], [(.s 12895, [nI r10.1, nI r10.2.1, nI r10.2.2.1, nI r10.2.2.2.1, nI r10.2.2.2.2.1, .d (.lst []), .d (.lst []), nI r10.2.2.2.2.2.1, nI r10.2.2.2.2.2.2.1, .d (.lst []), .d (.lst [])])]⟩) ?_ (fun j16 => ?_)
                    · refine L_split 79 decT (fun _ => ?_) (fun _ => ?_)
                      · refine Av 6 [] ⟨[(84, bB (r10.2.1 == a0)), (9, .ptr (.s 12895) 0), (1, nI a1)], [(.s 12895, [nI r10.1, nI r10.2.1, nI r10.2.2.1, nI r10.2.2.2.1, nI r10.2.2.2.2.1, .d (.lst []), .d (.lst []), nI r10.2.2.2.2.2.1, nI r10.2.2.2.2.2.2.1, .d (.lst []), .d (.lst [])])]⟩ ?_
                        exact L_end
                      · refine Av 6 [] ⟨[(84, bB false), (9, .ptr (.s 12895) 0), (1, nI a1)], [(.s 12895, [nI r10.1, nI r10.2.1, nI r10.2.2.1, nI r10.2.2.2.1, nI r10.2.2.2.2.1, .d (.lst []), .d (.lst []), nI r10.2.2.2.2.2.1, nI r10.2.2.2.2.2.2.1, .d (.lst []), .d (.lst [])])]⟩ ?_
                        exact L_end
                    · refine Av 1 [.o false (o13_9.drop 35), .c .ret] ⟨[(85, bB j16), (9, .ptr (.s 12895) 0), (1, nI a1)], [(.s 12895, [nI r10.1, nI r10.2.1, nI r10.2.2.1, nI r10.2.2.2.1, nI r10.2.2.2.2.1, .d (.lst []), .d (.lst []), nI r10.2.2.2.2.2.1, nI r10.2.2.2.2.2.2.1, .d (.lst []), .d (.lst [])])]⟩ ?_
                      refine L_take 5 o13_9t35_40 (o13_9.drop 40) ?_
                      refine L_join [.o false o13_9t35_40] [.o false (o13_9.drop 40), .c .ret] (fun x : Bool => ⟨[(90, bB x), (9, .ptr (.s 12895) 0)], [(.s 12895, [nI r10.1, nI r10.2.1, nI r10.2.2.1, nI r10.2.2.2.1, nI r10.2.2.2.2.1, .d (.lst []), .d (.lst []), nI r10.2.2.2.2.2.1, nI r10.2.2.2.2.2.2.1, .d (.lst []), .d (.lst [])])]⟩) ?_ (fun j17 => ?_)
                      · refine L_split 85 decT (fun _ => ?_) (fun _ => ?_)
                        · refine Av 6 [] ⟨[(90, bB (r10.2.2.1 == a1)), (9, .ptr (.s 12895) 0)], [(.s 12895, [nI r10.1, nI r10.2.1, nI r10.2.2.1, nI r10.2.2.2.1, nI r10.2.2.2.2.1, .d (.lst []), .d (.lst []), nI r10.2.2.2.2.2.1, nI r10.2.2.2.2.2.2.1, .d (.lst []), .d (.lst [])])]⟩ ?_
                          exact L_end
                        · refine Av 6 [] ⟨[(90, bB false), (9, .ptr (.s 12895) 0)], [(.s 12895, [nI r10.1, nI r10.2.1, nI r10.2.2.1, nI r10.2.2.2.1, nI r10.2.2.2.2.1, .d (.lst []), .d (.lst []), nI r10.2.2.2.2.2.1, nI r10.2.2.2.2.2.2.1, .d (.lst []), .d (.lst [])])]⟩ ?_
                          exact L_end
                      · refine Av 1 [.o false (o13_9.drop 41), .c .ret] ⟨[(91, bB j17), (9, .ptr (.s 12895) 0)], [(.s 12895, [nI r10.1, nI r10.2.1, nI r10.2.2.1, nI r10.2.2.2.1, nI r10.2.2.2.2.1, .d (.lst []), .d (.lst []), nI r10.2.2.2.2.2.1, nI r10.2.2.2.2.2.2.1, .d (.lst []), .d (.lst [])])]⟩ ?_
                        refine L_take 5 o13_9t41_46 (o13_9.drop 46) ?_
                        refine L_join [.o false o13_9t41_46] [.o false (o13_9.drop 46), .c .ret] (fun x : Bool => ⟨[(96, bB x)], []⟩) ?_ (fun j18 => ?_)
                        · refine L_split 91 decT (fun _ => ?_) (fun _ => ?_)
                          · refine Av 6 [] ⟨[(96, bB (r10.2.2.2.2.1 == 0))], []⟩ ?_
                            exact L_end
                          · refine Av 6 [] ⟨[(96, bB false)], []⟩ ?_
                            exact L_end
                        · refine Avk 3 [] .ret ⟨[(4, bB j18)], []⟩ ?_
                          exact L_ret
end Go.Proofs.Ythhcgcaefjmekaa.Abs
