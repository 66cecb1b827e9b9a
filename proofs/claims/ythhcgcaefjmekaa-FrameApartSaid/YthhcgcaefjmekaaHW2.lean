/- Walks of functions, printed by a program. Conditions: none. -/
import Derived.Test.YthhcgcaefjmekaaProg
import Derived.Test.YthhcgcaefjmekaaHW
namespace Go.Proofs.Ythhcgcaefjmekaa.Abs
open Go Go.RowKit
set_option linter.unusedVariables false
set_option maxRecDepth 100000
open Z
/-- (*thrum/frame.pen).level. -/
def en_thrum_frame_pen_level (v : (List Int) × Int) : PV := .tup []
def bx_thrum_frame_pen_level (v : (List Int) × Int) : List (Tg × List PV) := [(.up (.s 0), [sY (.s 0) v.1, nI v.2])]
def o138_0 : List AOper := [⟨some 3, none, 0, .box 51 (.t 1)⟩]
def o138_1 : List AOper := [mv 4 100 0, mv 5 101 0, ⟨some 6, none, 102, .nilck (.t 5)⟩, ⟨some 7, none, 103, .fieldA 0 (.t 6)⟩, ld 8 104 7, ⟨some 9, none, 105, .fieldA 4 (.t 3)⟩, ld 10 106 9, ⟨some 11, none, 107, .convI .u64 (.t 10)⟩, ⟨some 14, none, 110, .fieldA 5 (.t 3)⟩, ld 15 111 14, ⟨some 16, none, 112, .convI .u8 (.t 15)⟩, ⟨some 12, none, 108, .bslice 82 1 [.t 11]⟩, cl' 13 109 78 [.t 8, .t 12], ⟨some 17, none, 113, .bslice 5 1 [.t 16]⟩, ⟨some 18, none, 114, .app 5 1 1 (.t 13) (.t 17)⟩, ⟨some 19, none, 115, .nilck (.t 4)⟩, ⟨some 20, none, 116, .fieldA 0 (.t 19)⟩, ⟨none, none, 117, .store 1 (.t 20) (.t 18)⟩]
def o138_2 : List AOper := [mv 4 100 0, mv 5 101 0, ⟨some 6, none, 102, .nilck (.t 5)⟩, ⟨some 7, none, 103, .fieldA 0 (.t 6)⟩, ld 8 104 7, ⟨some 9, none, 105, .fieldA 4 (.t 3)⟩, ld 10 106 9, ⟨some 11, none, 107, .convI .u64 (.t 10)⟩, ⟨some 14, none, 110, .fieldA 5 (.t 3)⟩, ld 15 111 14, ⟨some 16, none, 112, .convI .u8 (.t 15)⟩, ⟨some 12, none, 108, .bslice 82 1 [.t 11]⟩, ⟨some 17, none, 113, .bslice 5 1 [.t 16]⟩, cl' 13 109 78 [.t 8, .t 12], ⟨some 18, none, 114, .app 5 1 1 (.t 13) (.t 17)⟩, ⟨some 19, none, 115, .nilck (.t 4)⟩, ⟨some 20, none, 116, .fieldA 0 (.t 19)⟩, ⟨none, none, 117, .store 1 (.t 20) (.t 18)⟩]
def o138_3 : List AOper := [mv 4 100 0, mv 5 101 0, ⟨some 6, none, 102, .nilck (.t 5)⟩, ⟨some 7, none, 103, .fieldA 0 (.t 6)⟩, ld 8 104 7, ⟨some 9, none, 105, .fieldA 4 (.t 3)⟩, ld 10 106 9, ⟨some 11, none, 107, .convI .u64 (.t 10)⟩, ⟨some 14, none, 110, .fieldA 5 (.t 3)⟩, ld 15 111 14, ⟨some 16, none, 112, .convI .u8 (.t 15)⟩, ⟨some 17, none, 113, .bslice 5 1 [.t 16]⟩, ⟨some 12, none, 108, .bslice 82 1 [.t 11]⟩, cl' 13 109 78 [.t 8, .t 12], ⟨some 18, none, 114, .app 5 1 1 (.t 13) (.t 17)⟩, ⟨some 19, none, 115, .nilck (.t 4)⟩, ⟨some 20, none, 116, .fieldA 0 (.t 19)⟩, ⟨none, none, 117, .store 1 (.t 20) (.t 18)⟩]
def o138_4 : List AOper := [mv 21 200 0, ⟨some 22, none, 201, .fieldA 5 (.t 3)⟩, ld 23 202 22, ⟨some 24, none, 203, .fieldA 6 (.t 3)⟩, ld 25 204 24, cl' 26 205 175 [.t 23, .t 25], xt 27 206 26 0, xt 28 207 26 1, cl' 29 208 173 [.t 21, .t 27, .t 28]]
def o138_5 : List AOper := [mv 30 300 0, ⟨some 31, none, 301, .fieldA 7 (.t 3)⟩, ld 32 302 31, cl' 33 303 176 [.t 32], xt 34 304 33 0, xt 35 305 33 1, cl' 36 306 173 [.t 30, .t 34, .t 35]]
def o138_1g0 : List AOper := [mv 4 100 0, mv 5 101 0, ⟨some 6, none, 102, .nilck (.t 5)⟩, ⟨some 7, none, 103, .fieldA 0 (.t 6)⟩, ld 8 104 7, ⟨some 9, none, 105, .fieldA 4 (.t 3)⟩, ld 10 106 9, ⟨some 11, none, 107, .convI .u64 (.t 10)⟩, ⟨some 14, none, 110, .fieldA 5 (.t 3)⟩, ld 15 111 14, ⟨some 16, none, 112, .convI .u8 (.t 15)⟩, ⟨some 12, none, 108, .bslice 82 1 [.t 11]⟩]
def h138_1g0 : List AOper := [mv 4 100 0, mv 5 101 0, ⟨some 6, none, 102, .nilck (.t 5)⟩, ⟨some 7, none, 103, .fieldA 0 (.t 6)⟩, ld 8 104 7, ⟨some 14, none, 110, .fieldA 5 (.t 3)⟩, ld 15 111 14, ⟨some 16, none, 112, .convI .u8 (.t 15)⟩]
def o138_1g1 : List AOper := [cl' 13 109 78 [.t 8, .t 12]]
def h138_1g1 : List AOper := [mv 4 100 0, ⟨some 14, none, 110, .fieldA 5 (.t 3)⟩, ld 15 111 14, ⟨some 16, none, 112, .convI .u8 (.t 15)⟩]
def o138_1g2 : List AOper := [⟨some 17, none, 113, .bslice 5 1 [.t 16]⟩]
def h138_1g2 : List AOper := [mv 4 100 0]
def o138_1g3 : List AOper := [⟨some 18, none, 114, .app 5 1 1 (.t 13) (.t 17)⟩]
def h138_1g3 : List AOper := [mv 4 100 0]
def o138_1g4 : List AOper := [⟨some 19, none, 115, .nilck (.t 4)⟩, ⟨some 20, none, 116, .fieldA 0 (.t 19)⟩, ⟨none, none, 117, .store 1 (.t 20) (.t 18)⟩]
def o138_2g0 : List AOper := [mv 4 100 0, mv 5 101 0, ⟨some 6, none, 102, .nilck (.t 5)⟩, ⟨some 7, none, 103, .fieldA 0 (.t 6)⟩, ld 8 104 7, ⟨some 9, none, 105, .fieldA 4 (.t 3)⟩, ld 10 106 9, ⟨some 11, none, 107, .convI .u64 (.t 10)⟩, ⟨some 14, none, 110, .fieldA 5 (.t 3)⟩, ld 15 111 14, ⟨some 16, none, 112, .convI .u8 (.t 15)⟩, ⟨some 12, none, 108, .bslice 82 1 [.t 11]⟩]
def h138_2g0 : List AOper := [mv 4 100 0, mv 5 101 0, ⟨some 6, none, 102, .nilck (.t 5)⟩, ⟨some 7, none, 103, .fieldA 0 (.t 6)⟩, ld 8 104 7, ⟨some 14, none, 110, .fieldA 5 (.t 3)⟩, ld 15 111 14, ⟨some 16, none, 112, .convI .u8 (.t 15)⟩]
def o138_2g1 : List AOper := [⟨some 17, none, 113, .bslice 5 1 [.t 16]⟩]
def h138_2g1 : List AOper := [mv 4 100 0, mv 5 101 0, ⟨some 6, none, 102, .nilck (.t 5)⟩, ⟨some 7, none, 103, .fieldA 0 (.t 6)⟩, ld 8 104 7]
def o138_2g2 : List AOper := [cl' 13 109 78 [.t 8, .t 12]]
def h138_2g2 : List AOper := [mv 4 100 0]
def o138_2g3 : List AOper := [⟨some 18, none, 114, .app 5 1 1 (.t 13) (.t 17)⟩]
def h138_2g3 : List AOper := [mv 4 100 0]
def o138_2g4 : List AOper := [⟨some 19, none, 115, .nilck (.t 4)⟩, ⟨some 20, none, 116, .fieldA 0 (.t 19)⟩, ⟨none, none, 117, .store 1 (.t 20) (.t 18)⟩]
def o138_3g0 : List AOper := [mv 4 100 0, mv 5 101 0, ⟨some 6, none, 102, .nilck (.t 5)⟩, ⟨some 7, none, 103, .fieldA 0 (.t 6)⟩, ld 8 104 7, ⟨some 9, none, 105, .fieldA 4 (.t 3)⟩, ld 10 106 9, ⟨some 11, none, 107, .convI .u64 (.t 10)⟩, ⟨some 14, none, 110, .fieldA 5 (.t 3)⟩, ld 15 111 14, ⟨some 16, none, 112, .convI .u8 (.t 15)⟩, ⟨some 17, none, 113, .bslice 5 1 [.t 16]⟩]
def h138_3g0 : List AOper := [mv 4 100 0, mv 5 101 0, ⟨some 6, none, 102, .nilck (.t 5)⟩, ⟨some 7, none, 103, .fieldA 0 (.t 6)⟩, ld 8 104 7, ⟨some 9, none, 105, .fieldA 4 (.t 3)⟩, ld 10 106 9, ⟨some 11, none, 107, .convI .u64 (.t 10)⟩]
def o138_3g1 : List AOper := [⟨some 12, none, 108, .bslice 82 1 [.t 11]⟩]
def h138_3g1 : List AOper := [mv 4 100 0, mv 5 101 0, ⟨some 6, none, 102, .nilck (.t 5)⟩, ⟨some 7, none, 103, .fieldA 0 (.t 6)⟩, ld 8 104 7]
def o138_3g2 : List AOper := [cl' 13 109 78 [.t 8, .t 12]]
def h138_3g2 : List AOper := [mv 4 100 0]
def o138_3g3 : List AOper := [⟨some 18, none, 114, .app 5 1 1 (.t 13) (.t 17)⟩]
def h138_3g3 : List AOper := [mv 4 100 0]
def o138_3g4 : List AOper := [⟨some 19, none, 115, .nilck (.t 4)⟩, ⟨some 20, none, 116, .fieldA 0 (.t 19)⟩, ⟨none, none, 117, .store 1 (.t 20) (.t 18)⟩]
def c138_1 : AC := .draws [[⟨mv 4 100 0, false, []⟩, ⟨mv 5 101 0, false, []⟩, ⟨⟨some 6, none, 102, .nilck (.t 5)⟩, false, []⟩, ⟨⟨some 7, none, 103, .fieldA 0 (.t 6)⟩, false, []⟩, ⟨ld 8 104 7, false, []⟩, ⟨⟨some 9, none, 105, .fieldA 4 (.t 3)⟩, false, []⟩, ⟨ld 10 106 9, false, []⟩, ⟨⟨some 11, none, 107, .convI .u64 (.t 10)⟩, false, []⟩, ⟨⟨some 14, none, 110, .fieldA 5 (.t 3)⟩, false, []⟩, ⟨ld 15 111 14, false, []⟩, ⟨⟨some 16, none, 112, .convI .u8 (.t 15)⟩, false, []⟩, ⟨⟨some 12, none, 108, .bslice 82 1 [.t 11]⟩, true, [mv 4 100 0, mv 5 101 0, ⟨some 6, none, 102, .nilck (.t 5)⟩, ⟨some 7, none, 103, .fieldA 0 (.t 6)⟩, ld 8 104 7, ⟨some 14, none, 110, .fieldA 5 (.t 3)⟩, ld 15 111 14, ⟨some 16, none, 112, .convI .u8 (.t 15)⟩]⟩, ⟨cl' 13 109 78 [.t 8, .t 12], true, [mv 4 100 0, ⟨some 14, none, 110, .fieldA 5 (.t 3)⟩, ld 15 111 14, ⟨some 16, none, 112, .convI .u8 (.t 15)⟩]⟩, ⟨⟨some 17, none, 113, .bslice 5 1 [.t 16]⟩, true, [mv 4 100 0]⟩, ⟨⟨some 18, none, 114, .app 5 1 1 (.t 13) (.t 17)⟩, true, [mv 4 100 0]⟩, ⟨⟨some 19, none, 115, .nilck (.t 4)⟩, false, []⟩, ⟨⟨some 20, none, 116, .fieldA 0 (.t 19)⟩, false, []⟩, ⟨⟨none, none, 117, .store 1 (.t 20) (.t 18)⟩, true, []⟩], [⟨mv 4 100 0, false, []⟩, ⟨mv 5 101 0, false, []⟩, ⟨⟨some 6, none, 102, .nilck (.t 5)⟩, false, []⟩, ⟨⟨some 7, none, 103, .fieldA 0 (.t 6)⟩, false, []⟩, ⟨ld 8 104 7, false, []⟩, ⟨⟨some 9, none, 105, .fieldA 4 (.t 3)⟩, false, []⟩, ⟨ld 10 106 9, false, []⟩, ⟨⟨some 11, none, 107, .convI .u64 (.t 10)⟩, false, []⟩, ⟨⟨some 14, none, 110, .fieldA 5 (.t 3)⟩, false, []⟩, ⟨ld 15 111 14, false, []⟩, ⟨⟨some 16, none, 112, .convI .u8 (.t 15)⟩, false, []⟩, ⟨⟨some 12, none, 108, .bslice 82 1 [.t 11]⟩, true, [mv 4 100 0, mv 5 101 0, ⟨some 6, none, 102, .nilck (.t 5)⟩, ⟨some 7, none, 103, .fieldA 0 (.t 6)⟩, ld 8 104 7, ⟨some 14, none, 110, .fieldA 5 (.t 3)⟩, ld 15 111 14, ⟨some 16, none, 112, .convI .u8 (.t 15)⟩]⟩, ⟨⟨some 17, none, 113, .bslice 5 1 [.t 16]⟩, true, [mv 4 100 0, mv 5 101 0, ⟨some 6, none, 102, .nilck (.t 5)⟩, ⟨some 7, none, 103, .fieldA 0 (.t 6)⟩, ld 8 104 7]⟩, ⟨cl' 13 109 78 [.t 8, .t 12], true, [mv 4 100 0]⟩, ⟨⟨some 18, none, 114, .app 5 1 1 (.t 13) (.t 17)⟩, true, [mv 4 100 0]⟩, ⟨⟨some 19, none, 115, .nilck (.t 4)⟩, false, []⟩, ⟨⟨some 20, none, 116, .fieldA 0 (.t 19)⟩, false, []⟩, ⟨⟨none, none, 117, .store 1 (.t 20) (.t 18)⟩, true, []⟩], [⟨mv 4 100 0, false, []⟩, ⟨mv 5 101 0, false, []⟩, ⟨⟨some 6, none, 102, .nilck (.t 5)⟩, false, []⟩, ⟨⟨some 7, none, 103, .fieldA 0 (.t 6)⟩, false, []⟩, ⟨ld 8 104 7, false, []⟩, ⟨⟨some 9, none, 105, .fieldA 4 (.t 3)⟩, false, []⟩, ⟨ld 10 106 9, false, []⟩, ⟨⟨some 11, none, 107, .convI .u64 (.t 10)⟩, false, []⟩, ⟨⟨some 14, none, 110, .fieldA 5 (.t 3)⟩, false, []⟩, ⟨ld 15 111 14, false, []⟩, ⟨⟨some 16, none, 112, .convI .u8 (.t 15)⟩, false, []⟩, ⟨⟨some 17, none, 113, .bslice 5 1 [.t 16]⟩, true, [mv 4 100 0, mv 5 101 0, ⟨some 6, none, 102, .nilck (.t 5)⟩, ⟨some 7, none, 103, .fieldA 0 (.t 6)⟩, ld 8 104 7, ⟨some 9, none, 105, .fieldA 4 (.t 3)⟩, ld 10 106 9, ⟨some 11, none, 107, .convI .u64 (.t 10)⟩]⟩, ⟨⟨some 12, none, 108, .bslice 82 1 [.t 11]⟩, true, [mv 4 100 0, mv 5 101 0, ⟨some 6, none, 102, .nilck (.t 5)⟩, ⟨some 7, none, 103, .fieldA 0 (.t 6)⟩, ld 8 104 7]⟩, ⟨cl' 13 109 78 [.t 8, .t 12], true, [mv 4 100 0]⟩, ⟨⟨some 18, none, 114, .app 5 1 1 (.t 13) (.t 17)⟩, true, [mv 4 100 0]⟩, ⟨⟨some 19, none, 115, .nilck (.t 4)⟩, false, []⟩, ⟨⟨some 20, none, 116, .fieldA 0 (.t 19)⟩, false, []⟩, ⟨⟨none, none, 117, .store 1 (.t 20) (.t 18)⟩, true, []⟩]]
def c138_3 : AC := .reg o138_5
def c138_4 : AC := .seq (.reg o138_4) c138_3
def c138_6 : AC := .seq (.reg o138_0) (.seq c138_1 c138_4)
theorem fn138 : fnA Try.prog 138 = some (37, [], c138_6) := by kernel_rfl
theorem ok_thrum_frame_pen_level (a0 : T_frame_pen) (a1 : T_api_Sent) : ∀ v, M_thrum_frame_pen_level a0 a1 = some v → EvG Try.prog 138 [.ptr (.up (.s 0)) 0, .d (.agg [.int .i64 a1.F_Scheme, .int .i64 a1.F_Dim, .lst (List.map (D.int .i64) a1.F_L), .lst (List.map (D.int .i64) a1.F_V), .int .i64 a1.F_Scale, .int .i64 a1.F_Wide, .lst (List.map (D.int .u64) a1.F_Lev), .lst (List.map D.bool a1.F_Neg)])] [(.up (.s 0), [lY a0.F_b, nI a0.F_e])] (en_thrum_frame_pen_level v) (bx_thrum_frame_pen_level v) := by
  intro v hv
  refine EvG_go fn138 (Nat.le_of_ble_eq_true rfl) ?_
  suffices h : Ok (M_thrum_frame_pen_level a0 a1) fun v => go Try.prog 37 (Fnl [] (en_thrum_frame_pen_level v) (bx_thrum_frame_pen_level v)) [.c c138_6] .norm (initSt [.ptr (.up (.s 0)) 0, .d (.agg [.int .i64 a1.F_Scheme, .int .i64 a1.F_Dim, .lst (List.map (D.int .i64) a1.F_L), .lst (List.map (D.int .i64) a1.F_V), .int .i64 a1.F_Scale, .int .i64 a1.F_Wide, .lst (List.map (D.int .u64) a1.F_Lev), .lst (List.map D.bool a1.F_Neg)])] [(.up (.s 0), [lY a0.F_b, nI a0.F_e])]) from h v hv
  unfold M_thrum_frame_pen_level
  refine Av 5 [.c c138_1, .c c138_4] ⟨[(3, .ptr (.s 15) 0), (0, .ptr (.up (.s 0)) 0)], [(.s 15, [nI a1.F_Scheme, nI a1.F_Dim, lI a1.F_L, lI a1.F_V, nI a1.F_Scale, nI a1.F_Wide, lU a1.F_Lev, lB a1.F_Neg]), (.up (.s 0), [lY a0.F_b, nI a0.F_e])]⟩ ?_
  refine L_join [.c c138_1] [.c c138_4] (fun x : (List Int) => ⟨[(3, .ptr (.s 15) 0), (0, .ptr (.up (.s 0)) 0)], [(.up (.s 0), [sY (.h 0) x, nI a0.F_e]), (.s 15, [nI a1.F_Scheme, nI a1.F_Dim, lI a1.F_L, lI a1.F_V, nI a1.F_Scale, nI a1.F_Wide, lU a1.F_Lev, lB a1.F_Neg])]⟩) ?_ (fun j2 => ?_)
  · refine L_draws3 [.o true o138_1g0, .h h138_1g0, .o true o138_1g1, .h h138_1g1, .o true o138_1g2, .h h138_1g2, .o true o138_1g3, .h h138_1g3, .o true o138_1g4, .h []] [.o true o138_2g0, .h h138_2g0, .o true o138_2g1, .h h138_2g1, .o true o138_2g2, .h h138_2g2, .o true o138_2g3, .h h138_2g3, .o true o138_2g4, .h []] [.o true o138_3g0, .h h138_3g0, .o true o138_3g1, .h h138_3g1, .o true o138_3g2, .h h138_3g2, .o true o138_3g3, .h h138_3g3, .o true o138_3g4, .h []] ?_ ?_ ?_
    · refine Ae 13 [.h h138_1g0, .o true o138_1g1, .h h138_1g1, .o true o138_1g2, .h h138_1g2, .o true o138_1g3, .h h138_1g3, .o true o138_1g4, .h []] ⟨[(12, sU (.s 1743) [IntKind.u64.wrap a1.F_Scale]), (16, nY (IntKind.u8.wrap a1.F_Wide)), (15, nI a1.F_Wide), (14, .ptr (.s 15) 5), (11, nU (IntKind.u64.wrap a1.F_Scale)), (10, nI a1.F_Scale), (9, .ptr (.s 15) 4), (8, lY a0.F_b), (7, .ptr (.up (.s 0)) 0), (6, .ptr (.up (.s 0)) 0), (5, .ptr (.up (.s 0)) 0), (4, .ptr (.up (.s 0)) 0), (3, .ptr (.s 15) 0), (0, .ptr (.up (.s 0)) 0)], [(.s 15, [nI a1.F_Scheme, nI a1.F_Dim, lI a1.F_L, lI a1.F_V, nI a1.F_Scale, nI a1.F_Wide, lU a1.F_Lev, lB a1.F_Neg]), (.up (.s 0), [lY a0.F_b, nI a0.F_e])]⟩ ?_
      refine L_hold ⟨hC (.ptr (.up (.s 0)) 0) trivial, hC (.ptr (.up (.s 0)) 0) trivial, hC (.ptr (.up (.s 0)) 0) trivial, hC (.ptr (.up (.s 0)) 0) trivial, hC (lY a0.F_b) trivial, hC (.ptr (.s 15) 5) trivial, hC (nI a1.F_Wide) trivial, hC (nY (IntKind.u8.wrap a1.F_Wide)) trivial, trivial⟩ ?_
      refine Ae 0 [.o true o138_1g1, .h h138_1g1, .o true o138_1g2, .h h138_1g2, .o true o138_1g3, .h h138_1g3, .o true o138_1g4, .h []] ⟨[(12, sU (.s 1743) [IntKind.u64.wrap a1.F_Scale]), (16, nY (IntKind.u8.wrap a1.F_Wide)), (15, nI a1.F_Wide), (14, .ptr (.s 15) 5), (11, nU (IntKind.u64.wrap a1.F_Scale)), (10, nI a1.F_Scale), (9, .ptr (.s 15) 4), (8, lY a0.F_b), (7, .ptr (.up (.s 0)) 0), (6, .ptr (.up (.s 0)) 0), (5, .ptr (.up (.s 0)) 0), (4, .ptr (.up (.s 0)) 0), (3, .ptr (.s 15) 0), (0, .ptr (.up (.s 0)) 0)], [(.s 15, [nI a1.F_Scheme, nI a1.F_Dim, lI a1.F_L, lI a1.F_V, nI a1.F_Scale, nI a1.F_Wide, lU a1.F_Lev, lB a1.F_Neg]), (.up (.s 0), [lY a0.F_b, nI a0.F_e])]⟩ ?_
      refine L_call (ok_leb_Put a0.F_b [IntKind.u64.wrap a1.F_Scale]) trivial rfl (fun _ => rfl) (fun _ => (flat_map_of fun _ => trivial)) (fun r1 => ?_)
      refine Ae 1 [.h h138_1g1, .o true o138_1g2, .h h138_1g2, .o true o138_1g3, .h h138_1g3, .o true o138_1g4, .h []] ⟨[(13, sY (.s 1744) r1), (12, sU (.s 1743) [IntKind.u64.wrap a1.F_Scale]), (16, nY (IntKind.u8.wrap a1.F_Wide)), (15, nI a1.F_Wide), (14, .ptr (.s 15) 5), (11, nU (IntKind.u64.wrap a1.F_Scale)), (10, nI a1.F_Scale), (9, .ptr (.s 15) 4), (8, lY a0.F_b), (7, .ptr (.up (.s 0)) 0), (6, .ptr (.up (.s 0)) 0), (5, .ptr (.up (.s 0)) 0), (4, .ptr (.up (.s 0)) 0), (3, .ptr (.s 15) 0), (0, .ptr (.up (.s 0)) 0)], [(.s 15, [nI a1.F_Scheme, nI a1.F_Dim, lI a1.F_L, lI a1.F_V, nI a1.F_Scale, nI a1.F_Wide, lU a1.F_Lev, lB a1.F_Neg]), (.up (.s 0), [lY a0.F_b, nI a0.F_e])]⟩ ?_
      refine L_hold ⟨hC (.ptr (.up (.s 0)) 0) trivial, hC (.ptr (.s 15) 5) trivial, hC (nI a1.F_Wide) trivial, hC (nY (IntKind.u8.wrap a1.F_Wide)) trivial, trivial⟩ ?_
      refine Ae 2 [.h h138_1g2, .o true o138_1g3, .h h138_1g3, .o true o138_1g4, .h []] ⟨[(17, sY (.s 1823) [IntKind.u8.wrap a1.F_Wide]), (13, sY (.s 1744) r1), (12, sU (.s 1743) [IntKind.u64.wrap a1.F_Scale]), (16, nY (IntKind.u8.wrap a1.F_Wide)), (15, nI a1.F_Wide), (14, .ptr (.s 15) 5), (11, nU (IntKind.u64.wrap a1.F_Scale)), (10, nI a1.F_Scale), (9, .ptr (.s 15) 4), (8, lY a0.F_b), (7, .ptr (.up (.s 0)) 0), (6, .ptr (.up (.s 0)) 0), (5, .ptr (.up (.s 0)) 0), (4, .ptr (.up (.s 0)) 0), (3, .ptr (.s 15) 0), (0, .ptr (.up (.s 0)) 0)], [(.s 15, [nI a1.F_Scheme, nI a1.F_Dim, lI a1.F_L, lI a1.F_V, nI a1.F_Scale, nI a1.F_Wide, lU a1.F_Lev, lB a1.F_Neg]), (.up (.s 0), [lY a0.F_b, nI a0.F_e])]⟩ ?_
      refine L_hold ⟨hC (.ptr (.up (.s 0)) 0) trivial, trivial⟩ ?_
      refine Ae 0 [.o true o138_1g3, .h h138_1g3, .o true o138_1g4, .h []] ⟨[(17, sY (.s 1823) [IntKind.u8.wrap a1.F_Wide]), (13, sY (.s 1744) r1), (12, sU (.s 1743) [IntKind.u64.wrap a1.F_Scale]), (16, nY (IntKind.u8.wrap a1.F_Wide)), (15, nI a1.F_Wide), (14, .ptr (.s 15) 5), (11, nU (IntKind.u64.wrap a1.F_Scale)), (10, nI a1.F_Scale), (9, .ptr (.s 15) 4), (8, lY a0.F_b), (7, .ptr (.up (.s 0)) 0), (6, .ptr (.up (.s 0)) 0), (5, .ptr (.up (.s 0)) 0), (4, .ptr (.up (.s 0)) 0), (3, .ptr (.s 15) 0), (0, .ptr (.up (.s 0)) 0)], [(.s 15, [nI a1.F_Scheme, nI a1.F_Dim, lI a1.F_L, lI a1.F_V, nI a1.F_Scale, nI a1.F_Wide, lU a1.F_Lev, lB a1.F_Neg]), (.up (.s 0), [lY a0.F_b, nI a0.F_e])]⟩ ?_
      refine L_app (enc := D.int .u8) (l := r1) (l2 := [IntKind.u8.wrap a1.F_Wide]) trivial rfl rfl (fun _ => rfl) (fun _ => ?_)
      refine Ae 1 [.h h138_1g3, .o true o138_1g4, .h []] ⟨[(18, sY (.s 1839) (r1 ++ [IntKind.u8.wrap a1.F_Wide])), (17, sY (.s 1823) [IntKind.u8.wrap a1.F_Wide]), (13, .unk), (12, sU (.s 1743) [IntKind.u64.wrap a1.F_Scale]), (16, nY (IntKind.u8.wrap a1.F_Wide)), (15, nI a1.F_Wide), (14, .ptr (.s 15) 5), (11, nU (IntKind.u64.wrap a1.F_Scale)), (10, nI a1.F_Scale), (9, .ptr (.s 15) 4), (8, lY a0.F_b), (7, .ptr (.up (.s 0)) 0), (6, .ptr (.up (.s 0)) 0), (5, .ptr (.up (.s 0)) 0), (4, .ptr (.up (.s 0)) 0), (3, .ptr (.s 15) 0), (0, .ptr (.up (.s 0)) 0)], [(.s 15, [nI a1.F_Scheme, nI a1.F_Dim, lI a1.F_L, lI a1.F_V, nI a1.F_Scale, nI a1.F_Wide, lU a1.F_Lev, lB a1.F_Neg]), (.up (.s 0), [lY a0.F_b, nI a0.F_e])]⟩ ?_
      refine L_hold ⟨hC (.ptr (.up (.s 0)) 0) trivial, trivial⟩ ?_
      refine Av 5 [] ⟨[(3, .ptr (.s 15) 0), (0, .ptr (.up (.s 0)) 0)], [(.up (.s 0), [sY (.s 1839) (r1 ++ [IntKind.u8.wrap a1.F_Wide]), nI a0.F_e]), (.s 15, [nI a1.F_Scheme, nI a1.F_Dim, lI a1.F_L, lI a1.F_V, nI a1.F_Scale, nI a1.F_Wide, lU a1.F_Lev, lB a1.F_Neg])]⟩ ?_
      exact L_end
    · refine Ae 13 [.h h138_2g0, .o true o138_2g1, .h h138_2g1, .o true o138_2g2, .h h138_2g2, .o true o138_2g3, .h h138_2g3, .o true o138_2g4, .h []] ⟨[(12, sU (.s 1743) [IntKind.u64.wrap a1.F_Scale]), (16, nY (IntKind.u8.wrap a1.F_Wide)), (15, nI a1.F_Wide), (14, .ptr (.s 15) 5), (11, nU (IntKind.u64.wrap a1.F_Scale)), (10, nI a1.F_Scale), (9, .ptr (.s 15) 4), (8, lY a0.F_b), (7, .ptr (.up (.s 0)) 0), (6, .ptr (.up (.s 0)) 0), (5, .ptr (.up (.s 0)) 0), (4, .ptr (.up (.s 0)) 0), (3, .ptr (.s 15) 0), (0, .ptr (.up (.s 0)) 0)], [(.s 15, [nI a1.F_Scheme, nI a1.F_Dim, lI a1.F_L, lI a1.F_V, nI a1.F_Scale, nI a1.F_Wide, lU a1.F_Lev, lB a1.F_Neg]), (.up (.s 0), [lY a0.F_b, nI a0.F_e])]⟩ ?_
      refine L_hold ⟨hC (.ptr (.up (.s 0)) 0) trivial, hC (.ptr (.up (.s 0)) 0) trivial, hC (.ptr (.up (.s 0)) 0) trivial, hC (.ptr (.up (.s 0)) 0) trivial, hC (lY a0.F_b) trivial, hC (.ptr (.s 15) 5) trivial, hC (nI a1.F_Wide) trivial, hC (nY (IntKind.u8.wrap a1.F_Wide)) trivial, trivial⟩ ?_
      refine Ae 2 [.h h138_2g1, .o true o138_2g2, .h h138_2g2, .o true o138_2g3, .h h138_2g3, .o true o138_2g4, .h []] ⟨[(17, sY (.s 1823) [IntKind.u8.wrap a1.F_Wide]), (12, sU (.s 1743) [IntKind.u64.wrap a1.F_Scale]), (16, nY (IntKind.u8.wrap a1.F_Wide)), (15, nI a1.F_Wide), (14, .ptr (.s 15) 5), (11, nU (IntKind.u64.wrap a1.F_Scale)), (10, nI a1.F_Scale), (9, .ptr (.s 15) 4), (8, lY a0.F_b), (7, .ptr (.up (.s 0)) 0), (6, .ptr (.up (.s 0)) 0), (5, .ptr (.up (.s 0)) 0), (4, .ptr (.up (.s 0)) 0), (3, .ptr (.s 15) 0), (0, .ptr (.up (.s 0)) 0)], [(.s 15, [nI a1.F_Scheme, nI a1.F_Dim, lI a1.F_L, lI a1.F_V, nI a1.F_Scale, nI a1.F_Wide, lU a1.F_Lev, lB a1.F_Neg]), (.up (.s 0), [lY a0.F_b, nI a0.F_e])]⟩ ?_
      refine L_hold ⟨hC (.ptr (.up (.s 0)) 0) trivial, hC (.ptr (.up (.s 0)) 0) trivial, hC (.ptr (.up (.s 0)) 0) trivial, hC (.ptr (.up (.s 0)) 0) trivial, hC (lY a0.F_b) trivial, trivial⟩ ?_
      refine Ae 0 [.o true o138_2g2, .h h138_2g2, .o true o138_2g3, .h h138_2g3, .o true o138_2g4, .h []] ⟨[(17, sY (.s 1823) [IntKind.u8.wrap a1.F_Wide]), (12, sU (.s 1743) [IntKind.u64.wrap a1.F_Scale]), (16, nY (IntKind.u8.wrap a1.F_Wide)), (15, nI a1.F_Wide), (14, .ptr (.s 15) 5), (11, nU (IntKind.u64.wrap a1.F_Scale)), (10, nI a1.F_Scale), (9, .ptr (.s 15) 4), (8, lY a0.F_b), (7, .ptr (.up (.s 0)) 0), (6, .ptr (.up (.s 0)) 0), (5, .ptr (.up (.s 0)) 0), (4, .ptr (.up (.s 0)) 0), (3, .ptr (.s 15) 0), (0, .ptr (.up (.s 0)) 0)], [(.s 15, [nI a1.F_Scheme, nI a1.F_Dim, lI a1.F_L, lI a1.F_V, nI a1.F_Scale, nI a1.F_Wide, lU a1.F_Lev, lB a1.F_Neg]), (.up (.s 0), [lY a0.F_b, nI a0.F_e])]⟩ ?_
      refine L_call (ok_leb_Put a0.F_b [IntKind.u64.wrap a1.F_Scale]) trivial rfl (fun _ => rfl) (fun _ => (flat_map_of fun _ => trivial)) (fun r1 => ?_)
      refine Ae 1 [.h h138_2g2, .o true o138_2g3, .h h138_2g3, .o true o138_2g4, .h []] ⟨[(13, sY (.s 1744) r1), (17, sY (.s 1823) [IntKind.u8.wrap a1.F_Wide]), (12, sU (.s 1743) [IntKind.u64.wrap a1.F_Scale]), (16, nY (IntKind.u8.wrap a1.F_Wide)), (15, nI a1.F_Wide), (14, .ptr (.s 15) 5), (11, nU (IntKind.u64.wrap a1.F_Scale)), (10, nI a1.F_Scale), (9, .ptr (.s 15) 4), (8, lY a0.F_b), (7, .ptr (.up (.s 0)) 0), (6, .ptr (.up (.s 0)) 0), (5, .ptr (.up (.s 0)) 0), (4, .ptr (.up (.s 0)) 0), (3, .ptr (.s 15) 0), (0, .ptr (.up (.s 0)) 0)], [(.s 15, [nI a1.F_Scheme, nI a1.F_Dim, lI a1.F_L, lI a1.F_V, nI a1.F_Scale, nI a1.F_Wide, lU a1.F_Lev, lB a1.F_Neg]), (.up (.s 0), [lY a0.F_b, nI a0.F_e])]⟩ ?_
      refine L_hold ⟨hC (.ptr (.up (.s 0)) 0) trivial, trivial⟩ ?_
      refine Ae 0 [.o true o138_2g3, .h h138_2g3, .o true o138_2g4, .h []] ⟨[(13, sY (.s 1744) r1), (17, sY (.s 1823) [IntKind.u8.wrap a1.F_Wide]), (12, sU (.s 1743) [IntKind.u64.wrap a1.F_Scale]), (16, nY (IntKind.u8.wrap a1.F_Wide)), (15, nI a1.F_Wide), (14, .ptr (.s 15) 5), (11, nU (IntKind.u64.wrap a1.F_Scale)), (10, nI a1.F_Scale), (9, .ptr (.s 15) 4), (8, lY a0.F_b), (7, .ptr (.up (.s 0)) 0), (6, .ptr (.up (.s 0)) 0), (5, .ptr (.up (.s 0)) 0), (4, .ptr (.up (.s 0)) 0), (3, .ptr (.s 15) 0), (0, .ptr (.up (.s 0)) 0)], [(.s 15, [nI a1.F_Scheme, nI a1.F_Dim, lI a1.F_L, lI a1.F_V, nI a1.F_Scale, nI a1.F_Wide, lU a1.F_Lev, lB a1.F_Neg]), (.up (.s 0), [lY a0.F_b, nI a0.F_e])]⟩ ?_
      refine L_app (enc := D.int .u8) (l := r1) (l2 := [IntKind.u8.wrap a1.F_Wide]) trivial rfl rfl (fun _ => rfl) (fun _ => ?_)
      refine Ae 1 [.h h138_2g3, .o true o138_2g4, .h []] ⟨[(18, sY (.s 1839) (r1 ++ [IntKind.u8.wrap a1.F_Wide])), (13, .unk), (17, sY (.s 1823) [IntKind.u8.wrap a1.F_Wide]), (12, sU (.s 1743) [IntKind.u64.wrap a1.F_Scale]), (16, nY (IntKind.u8.wrap a1.F_Wide)), (15, nI a1.F_Wide), (14, .ptr (.s 15) 5), (11, nU (IntKind.u64.wrap a1.F_Scale)), (10, nI a1.F_Scale), (9, .ptr (.s 15) 4), (8, lY a0.F_b), (7, .ptr (.up (.s 0)) 0), (6, .ptr (.up (.s 0)) 0), (5, .ptr (.up (.s 0)) 0), (4, .ptr (.up (.s 0)) 0), (3, .ptr (.s 15) 0), (0, .ptr (.up (.s 0)) 0)], [(.s 15, [nI a1.F_Scheme, nI a1.F_Dim, lI a1.F_L, lI a1.F_V, nI a1.F_Scale, nI a1.F_Wide, lU a1.F_Lev, lB a1.F_Neg]), (.up (.s 0), [lY a0.F_b, nI a0.F_e])]⟩ ?_
      refine L_hold ⟨hC (.ptr (.up (.s 0)) 0) trivial, trivial⟩ ?_
      refine Av 5 [] ⟨[(3, .ptr (.s 15) 0), (0, .ptr (.up (.s 0)) 0)], [(.up (.s 0), [sY (.s 1839) (r1 ++ [IntKind.u8.wrap a1.F_Wide]), nI a0.F_e]), (.s 15, [nI a1.F_Scheme, nI a1.F_Dim, lI a1.F_L, lI a1.F_V, nI a1.F_Scale, nI a1.F_Wide, lU a1.F_Lev, lB a1.F_Neg])]⟩ ?_
      exact L_end
    · refine Ae 13 [.h h138_3g0, .o true o138_3g1, .h h138_3g1, .o true o138_3g2, .h h138_3g2, .o true o138_3g3, .h h138_3g3, .o true o138_3g4, .h []] ⟨[(17, sY (.s 1823) [IntKind.u8.wrap a1.F_Wide]), (16, nY (IntKind.u8.wrap a1.F_Wide)), (15, nI a1.F_Wide), (14, .ptr (.s 15) 5), (11, nU (IntKind.u64.wrap a1.F_Scale)), (10, nI a1.F_Scale), (9, .ptr (.s 15) 4), (8, lY a0.F_b), (7, .ptr (.up (.s 0)) 0), (6, .ptr (.up (.s 0)) 0), (5, .ptr (.up (.s 0)) 0), (4, .ptr (.up (.s 0)) 0), (3, .ptr (.s 15) 0), (0, .ptr (.up (.s 0)) 0)], [(.s 15, [nI a1.F_Scheme, nI a1.F_Dim, lI a1.F_L, lI a1.F_V, nI a1.F_Scale, nI a1.F_Wide, lU a1.F_Lev, lB a1.F_Neg]), (.up (.s 0), [lY a0.F_b, nI a0.F_e])]⟩ ?_
      refine L_hold ⟨hC (.ptr (.up (.s 0)) 0) trivial, hC (.ptr (.up (.s 0)) 0) trivial, hC (.ptr (.up (.s 0)) 0) trivial, hC (.ptr (.up (.s 0)) 0) trivial, hC (lY a0.F_b) trivial, hC (.ptr (.s 15) 4) trivial, hC (nI a1.F_Scale) trivial, hC (nU (IntKind.u64.wrap a1.F_Scale)) trivial, trivial⟩ ?_
      refine Ae 2 [.h h138_3g1, .o true o138_3g2, .h h138_3g2, .o true o138_3g3, .h h138_3g3, .o true o138_3g4, .h []] ⟨[(12, sU (.s 1743) [IntKind.u64.wrap a1.F_Scale]), (17, sY (.s 1823) [IntKind.u8.wrap a1.F_Wide]), (16, nY (IntKind.u8.wrap a1.F_Wide)), (15, nI a1.F_Wide), (14, .ptr (.s 15) 5), (11, nU (IntKind.u64.wrap a1.F_Scale)), (10, nI a1.F_Scale), (9, .ptr (.s 15) 4), (8, lY a0.F_b), (7, .ptr (.up (.s 0)) 0), (6, .ptr (.up (.s 0)) 0), (5, .ptr (.up (.s 0)) 0), (4, .ptr (.up (.s 0)) 0), (3, .ptr (.s 15) 0), (0, .ptr (.up (.s 0)) 0)], [(.s 15, [nI a1.F_Scheme, nI a1.F_Dim, lI a1.F_L, lI a1.F_V, nI a1.F_Scale, nI a1.F_Wide, lU a1.F_Lev, lB a1.F_Neg]), (.up (.s 0), [lY a0.F_b, nI a0.F_e])]⟩ ?_
      refine L_hold ⟨hC (.ptr (.up (.s 0)) 0) trivial, hC (.ptr (.up (.s 0)) 0) trivial, hC (.ptr (.up (.s 0)) 0) trivial, hC (.ptr (.up (.s 0)) 0) trivial, hC (lY a0.F_b) trivial, trivial⟩ ?_
      refine Ae 0 [.o true o138_3g2, .h h138_3g2, .o true o138_3g3, .h h138_3g3, .o true o138_3g4, .h []] ⟨[(12, sU (.s 1743) [IntKind.u64.wrap a1.F_Scale]), (17, sY (.s 1823) [IntKind.u8.wrap a1.F_Wide]), (16, nY (IntKind.u8.wrap a1.F_Wide)), (15, nI a1.F_Wide), (14, .ptr (.s 15) 5), (11, nU (IntKind.u64.wrap a1.F_Scale)), (10, nI a1.F_Scale), (9, .ptr (.s 15) 4), (8, lY a0.F_b), (7, .ptr (.up (.s 0)) 0), (6, .ptr (.up (.s 0)) 0), (5, .ptr (.up (.s 0)) 0), (4, .ptr (.up (.s 0)) 0), (3, .ptr (.s 15) 0), (0, .ptr (.up (.s 0)) 0)], [(.s 15, [nI a1.F_Scheme, nI a1.F_Dim, lI a1.F_L, lI a1.F_V, nI a1.F_Scale, nI a1.F_Wide, lU a1.F_Lev, lB a1.F_Neg]), (.up (.s 0), [lY a0.F_b, nI a0.F_e])]⟩ ?_
      refine L_call (ok_leb_Put a0.F_b [IntKind.u64.wrap a1.F_Scale]) trivial rfl (fun _ => rfl) (fun _ => (flat_map_of fun _ => trivial)) (fun r1 => ?_)
      refine Ae 1 [.h h138_3g2, .o true o138_3g3, .h h138_3g3, .o true o138_3g4, .h []] ⟨[(13, sY (.s 1744) r1), (12, sU (.s 1743) [IntKind.u64.wrap a1.F_Scale]), (17, sY (.s 1823) [IntKind.u8.wrap a1.F_Wide]), (16, nY (IntKind.u8.wrap a1.F_Wide)), (15, nI a1.F_Wide), (14, .ptr (.s 15) 5), (11, nU (IntKind.u64.wrap a1.F_Scale)), (10, nI a1.F_Scale), (9, .ptr (.s 15) 4), (8, lY a0.F_b), (7, .ptr (.up (.s 0)) 0), (6, .ptr (.up (.s 0)) 0), (5, .ptr (.up (.s 0)) 0), (4, .ptr (.up (.s 0)) 0), (3, .ptr (.s 15) 0), (0, .ptr (.up (.s 0)) 0)], [(.s 15, [nI a1.F_Scheme, nI a1.F_Dim, lI a1.F_L, lI a1.F_V, nI a1.F_Scale, nI a1.F_Wide, lU a1.F_Lev, lB a1.F_Neg]), (.up (.s 0), [lY a0.F_b, nI a0.F_e])]⟩ ?_
      refine L_hold ⟨hC (.ptr (.up (.s 0)) 0) trivial, trivial⟩ ?_
      refine Ae 0 [.o true o138_3g3, .h h138_3g3, .o true o138_3g4, .h []] ⟨[(13, sY (.s 1744) r1), (12, sU (.s 1743) [IntKind.u64.wrap a1.F_Scale]), (17, sY (.s 1823) [IntKind.u8.wrap a1.F_Wide]), (16, nY (IntKind.u8.wrap a1.F_Wide)), (15, nI a1.F_Wide), (14, .ptr (.s 15) 5), (11, nU (IntKind.u64.wrap a1.F_Scale)), (10, nI a1.F_Scale), (9, .ptr (.s 15) 4), (8, lY a0.F_b), (7, .ptr (.up (.s 0)) 0), (6, .ptr (.up (.s 0)) 0), (5, .ptr (.up (.s 0)) 0), (4, .ptr (.up (.s 0)) 0), (3, .ptr (.s 15) 0), (0, .ptr (.up (.s 0)) 0)], [(.s 15, [nI a1.F_Scheme, nI a1.F_Dim, lI a1.F_L, lI a1.F_V, nI a1.F_Scale, nI a1.F_Wide, lU a1.F_Lev, lB a1.F_Neg]), (.up (.s 0), [lY a0.F_b, nI a0.F_e])]⟩ ?_
      refine L_app (enc := D.int .u8) (l := r1) (l2 := [IntKind.u8.wrap a1.F_Wide]) trivial rfl rfl (fun _ => rfl) (fun _ => ?_)
      refine Ae 1 [.h h138_3g3, .o true o138_3g4, .h []] ⟨[(18, sY (.s 1839) (r1 ++ [IntKind.u8.wrap a1.F_Wide])), (13, .unk), (12, sU (.s 1743) [IntKind.u64.wrap a1.F_Scale]), (17, sY (.s 1823) [IntKind.u8.wrap a1.F_Wide]), (16, nY (IntKind.u8.wrap a1.F_Wide)), (15, nI a1.F_Wide), (14, .ptr (.s 15) 5), (11, nU (IntKind.u64.wrap a1.F_Scale)), (10, nI a1.F_Scale), (9, .ptr (.s 15) 4), (8, lY a0.F_b), (7, .ptr (.up (.s 0)) 0), (6, .ptr (.up (.s 0)) 0), (5, .ptr (.up (.s 0)) 0), (4, .ptr (.up (.s 0)) 0), (3, .ptr (.s 15) 0), (0, .ptr (.up (.s 0)) 0)], [(.s 15, [nI a1.F_Scheme, nI a1.F_Dim, lI a1.F_L, lI a1.F_V, nI a1.F_Scale, nI a1.F_Wide, lU a1.F_Lev, lB a1.F_Neg]), (.up (.s 0), [lY a0.F_b, nI a0.F_e])]⟩ ?_
      refine L_hold ⟨hC (.ptr (.up (.s 0)) 0) trivial, trivial⟩ ?_
      refine Av 5 [] ⟨[(3, .ptr (.s 15) 0), (0, .ptr (.up (.s 0)) 0)], [(.up (.s 0), [sY (.s 1839) (r1 ++ [IntKind.u8.wrap a1.F_Wide]), nI a0.F_e]), (.s 15, [nI a1.F_Scheme, nI a1.F_Dim, lI a1.F_L, lI a1.F_V, nI a1.F_Scale, nI a1.F_Wide, lU a1.F_Lev, lB a1.F_Neg])]⟩ ?_
      exact L_end
  · refine Av 7 [.o false (o138_4.drop 5), .c c138_3] ⟨[(25, lU a1.F_Lev), (23, nI a1.F_Wide), (21, .ptr (.up (.s 0)) 0), (3, .ptr (.s 15) 0), (0, .ptr (.up (.s 0)) 0)], [(.up (.s 0), [sY (.h 0) j2, nI a0.F_e]), (.s 15, [nI a1.F_Scheme, nI a1.F_Dim, lI a1.F_L, lI a1.F_V, nI a1.F_Scale, nI a1.F_Wide, lU a1.F_Lev, lB a1.F_Neg])]⟩ ?_
    refine L_call (ok_plane_Weave a1.F_Wide a1.F_Lev) trivial rfl (fun _ => rfl) (fun _ => ⟨(flat_map_of fun _ => trivial), trivial, trivial⟩) (fun r3 => ?_)
    refine Av 2 [.o false (o138_4.drop 8), .c c138_3] ⟨[(28, nI r3.2), (27, sY (.s 3280) r3.1), (21, .ptr (.up (.s 0)) 0), (3, .ptr (.s 15) 0), (0, .ptr (.up (.s 0)) 0)], [(.up (.s 0), [sY (.h 0) j2, nI a0.F_e]), (.s 15, [nI a1.F_Scheme, nI a1.F_Dim, lI a1.F_L, lI a1.F_V, nI a1.F_Scale, nI a1.F_Wide, lU a1.F_Lev, lB a1.F_Neg])]⟩ ?_
    refine L_callB (enR := en_thrum_frame_pen_bytes) (bx' := bx_thrum_frame_pen_bytes) (ps := [.ptr (.up (.s 0)) 0, lY r3.1, nI r3.2]) (bx := [(.up (.s 0), [sY (.h 0) ((⟨j2, a0.F_e⟩ : T_frame_pen).F_b), nI ((⟨j2, a0.F_e⟩ : T_frame_pen).F_e)])]) [(.up (.s 0), .up (.s 0)), (.h 0, .h 0)] (ok_thrum_frame_pen_bytes (⟨j2, a0.F_e⟩ : T_frame_pen) r3.1 r3.2) trivial rfl rfl (fun _ => rfl) (fun _ => rfl) (fun _ => by kernel_rfl) (fun _ => by kernel_rfl) (fun _ => trivial) (fun _ => ⟨⟨(flat_map_of fun _ => trivial), trivial, trivial⟩, trivial⟩) (fun r4 => ?_)
    refine Av 5 [.o false (o138_5.drop 3)] ⟨[(32, lB a1.F_Neg), (30, .ptr (.up (.s 0)) 0)], [(.up (.s 0), [sY (.s 3328) r4.1, nI r4.2])]⟩ ?_
    refine L_call (ok_plane_Signs a1.F_Neg) trivial rfl (fun _ => rfl) (fun _ => ⟨(flat_map_of fun _ => trivial), trivial, trivial⟩) (fun r5 => ?_)
    refine Av 2 [.o false (o138_5.drop 6)] ⟨[(35, nI r5.2), (34, sY (.s 4848) r5.1), (30, .ptr (.up (.s 0)) 0)], [(.up (.s 0), [sY (.s 3328) r4.1, nI r4.2])]⟩ ?_
    refine L_callB (enR := en_thrum_frame_pen_bytes) (bx' := bx_thrum_frame_pen_bytes) (ps := [.ptr (.up (.s 0)) 0, lY r5.1, nI r5.2]) (bx := [(.up (.s 0), [sY (.h 0) ((⟨r4.1, r4.2⟩ : T_frame_pen).F_b), nI ((⟨r4.1, r4.2⟩ : T_frame_pen).F_e)])]) [(.up (.s 0), .up (.s 0)), (.h 0, .s 3328)] (ok_thrum_frame_pen_bytes (⟨r4.1, r4.2⟩ : T_frame_pen) r5.1 r5.2) trivial rfl rfl (fun _ => rfl) (fun _ => rfl) (fun _ => by kernel_rfl) (fun _ => by kernel_rfl) (fun _ => trivial) (fun _ => ⟨⟨(flat_map_of fun _ => trivial), trivial, trivial⟩, trivial⟩) (fun r6 => ?_)
    refine Av 1 [] ⟨[], [(.up (.s 0), [sY (.s 4896) r6.1, nI r6.2])]⟩ ?_
    exact L_ret
/-- (*thrum/frame.pen).sign. -/
def en_thrum_frame_pen_sign (v : (List Int) × Int) : PV := .tup []
def bx_thrum_frame_pen_sign (v : (List Int) × Int) : List (Tg × List PV) := [(.up (.s 0), [sY (.s 0) v.1, nI v.2])]
def o139_0 : List AOper := [⟨some 3, none, 0, .box 51 (.t 1)⟩]
def o139_1 : List AOper := [mv 4 100 0, mv 5 101 0, ⟨some 6, none, 102, .nilck (.t 5)⟩, ⟨some 7, none, 103, .fieldA 0 (.t 6)⟩, ld 8 104 7, ⟨some 9, none, 105, .fieldA 4 (.t 3)⟩, ld 10 106 9, ⟨some 11, none, 107, .convI .u64 (.t 10)⟩, ⟨some 12, none, 108, .bslice 82 1 [.t 11]⟩, cl' 13 109 78 [.t 8, .t 12], ⟨some 14, none, 110, .nilck (.t 4)⟩, ⟨some 15, none, 111, .fieldA 0 (.t 14)⟩, ⟨none, none, 112, .store 1 (.t 15) (.t 13)⟩]
def o139_2 : List AOper := [mv 16 200 0, ⟨some 17, none, 201, .fieldA 7 (.t 3)⟩, ld 18 202 17, cl' 19 203 176 [.t 18], xt 20 204 19 0, xt 21 205 19 1, cl' 22 206 173 [.t 16, .t 20, .t 21]]
def o139_1g0 : List AOper := [mv 4 100 0, mv 5 101 0, ⟨some 6, none, 102, .nilck (.t 5)⟩, ⟨some 7, none, 103, .fieldA 0 (.t 6)⟩, ld 8 104 7, ⟨some 9, none, 105, .fieldA 4 (.t 3)⟩, ld 10 106 9, ⟨some 11, none, 107, .convI .u64 (.t 10)⟩, ⟨some 12, none, 108, .bslice 82 1 [.t 11]⟩]
def h139_1g0 : List AOper := [mv 4 100 0, mv 5 101 0, ⟨some 6, none, 102, .nilck (.t 5)⟩, ⟨some 7, none, 103, .fieldA 0 (.t 6)⟩, ld 8 104 7]
def o139_1g1 : List AOper := [cl' 13 109 78 [.t 8, .t 12]]
def h139_1g1 : List AOper := [mv 4 100 0]
def o139_1g2 : List AOper := [⟨some 14, none, 110, .nilck (.t 4)⟩, ⟨some 15, none, 111, .fieldA 0 (.t 14)⟩, ⟨none, none, 112, .store 1 (.t 15) (.t 13)⟩]
def c139_1 : AC := .draw [⟨mv 4 100 0, false, []⟩, ⟨mv 5 101 0, false, []⟩, ⟨⟨some 6, none, 102, .nilck (.t 5)⟩, false, []⟩, ⟨⟨some 7, none, 103, .fieldA 0 (.t 6)⟩, false, []⟩, ⟨ld 8 104 7, false, []⟩, ⟨⟨some 9, none, 105, .fieldA 4 (.t 3)⟩, false, []⟩, ⟨ld 10 106 9, false, []⟩, ⟨⟨some 11, none, 107, .convI .u64 (.t 10)⟩, false, []⟩, ⟨⟨some 12, none, 108, .bslice 82 1 [.t 11]⟩, true, [mv 4 100 0, mv 5 101 0, ⟨some 6, none, 102, .nilck (.t 5)⟩, ⟨some 7, none, 103, .fieldA 0 (.t 6)⟩, ld 8 104 7]⟩, ⟨cl' 13 109 78 [.t 8, .t 12], true, [mv 4 100 0]⟩, ⟨⟨some 14, none, 110, .nilck (.t 4)⟩, false, []⟩, ⟨⟨some 15, none, 111, .fieldA 0 (.t 14)⟩, false, []⟩, ⟨⟨none, none, 112, .store 1 (.t 15) (.t 13)⟩, true, []⟩]
def c139_2 : AC := .reg o139_2
def c139_4 : AC := .seq (.reg o139_0) (.seq c139_1 c139_2)
theorem fn139 : fnA Try.prog 139 = some (23, [], c139_4) := by kernel_rfl
theorem ok_thrum_frame_pen_sign (a0 : T_frame_pen) (a1 : T_api_Sent) : ∀ v, M_thrum_frame_pen_sign a0 a1 = some v → EvG Try.prog 139 [.ptr (.up (.s 0)) 0, .d (.agg [.int .i64 a1.F_Scheme, .int .i64 a1.F_Dim, .lst (List.map (D.int .i64) a1.F_L), .lst (List.map (D.int .i64) a1.F_V), .int .i64 a1.F_Scale, .int .i64 a1.F_Wide, .lst (List.map (D.int .u64) a1.F_Lev), .lst (List.map D.bool a1.F_Neg)])] [(.up (.s 0), [lY a0.F_b, nI a0.F_e])] (en_thrum_frame_pen_sign v) (bx_thrum_frame_pen_sign v) := by
  intro v hv
  refine EvG_go fn139 (Nat.le_of_ble_eq_true rfl) ?_
  suffices h : Ok (M_thrum_frame_pen_sign a0 a1) fun v => go Try.prog 23 (Fnl [] (en_thrum_frame_pen_sign v) (bx_thrum_frame_pen_sign v)) [.c c139_4] .norm (initSt [.ptr (.up (.s 0)) 0, .d (.agg [.int .i64 a1.F_Scheme, .int .i64 a1.F_Dim, .lst (List.map (D.int .i64) a1.F_L), .lst (List.map (D.int .i64) a1.F_V), .int .i64 a1.F_Scale, .int .i64 a1.F_Wide, .lst (List.map (D.int .u64) a1.F_Lev), .lst (List.map D.bool a1.F_Neg)])] [(.up (.s 0), [lY a0.F_b, nI a0.F_e])]) from h v hv
  unfold M_thrum_frame_pen_sign
  refine Av 5 [.c c139_1, .c c139_2] ⟨[(3, .ptr (.s 15) 0), (0, .ptr (.up (.s 0)) 0)], [(.s 15, [nI a1.F_Scheme, nI a1.F_Dim, lI a1.F_L, lI a1.F_V, nI a1.F_Scale, nI a1.F_Wide, lU a1.F_Lev, lB a1.F_Neg]), (.up (.s 0), [lY a0.F_b, nI a0.F_e])]⟩ ?_
  refine Ae 11 [.h h139_1g0, .o true o139_1g1, .h h139_1g1, .o true o139_1g2, .h [], .c c139_2] ⟨[(12, sU (.s 1743) [IntKind.u64.wrap a1.F_Scale]), (11, nU (IntKind.u64.wrap a1.F_Scale)), (10, nI a1.F_Scale), (9, .ptr (.s 15) 4), (8, lY a0.F_b), (7, .ptr (.up (.s 0)) 0), (6, .ptr (.up (.s 0)) 0), (5, .ptr (.up (.s 0)) 0), (4, .ptr (.up (.s 0)) 0), (3, .ptr (.s 15) 0), (0, .ptr (.up (.s 0)) 0)], [(.s 15, [nI a1.F_Scheme, nI a1.F_Dim, lI a1.F_L, lI a1.F_V, nI a1.F_Scale, nI a1.F_Wide, lU a1.F_Lev, lB a1.F_Neg]), (.up (.s 0), [lY a0.F_b, nI a0.F_e])]⟩ ?_
  refine L_hold ⟨hC (.ptr (.up (.s 0)) 0) trivial, hC (.ptr (.up (.s 0)) 0) trivial, hC (.ptr (.up (.s 0)) 0) trivial, hC (.ptr (.up (.s 0)) 0) trivial, hC (lY a0.F_b) trivial, trivial⟩ ?_
  refine Ae 0 [.o true o139_1g1, .h h139_1g1, .o true o139_1g2, .h [], .c c139_2] ⟨[(12, sU (.s 1743) [IntKind.u64.wrap a1.F_Scale]), (11, nU (IntKind.u64.wrap a1.F_Scale)), (10, nI a1.F_Scale), (9, .ptr (.s 15) 4), (8, lY a0.F_b), (7, .ptr (.up (.s 0)) 0), (6, .ptr (.up (.s 0)) 0), (5, .ptr (.up (.s 0)) 0), (4, .ptr (.up (.s 0)) 0), (3, .ptr (.s 15) 0), (0, .ptr (.up (.s 0)) 0)], [(.s 15, [nI a1.F_Scheme, nI a1.F_Dim, lI a1.F_L, lI a1.F_V, nI a1.F_Scale, nI a1.F_Wide, lU a1.F_Lev, lB a1.F_Neg]), (.up (.s 0), [lY a0.F_b, nI a0.F_e])]⟩ ?_
  refine L_call (ok_leb_Put a0.F_b [IntKind.u64.wrap a1.F_Scale]) trivial rfl (fun _ => rfl) (fun _ => (flat_map_of fun _ => trivial)) (fun r1 => ?_)
  refine Ae 1 [.h h139_1g1, .o true o139_1g2, .h [], .c c139_2] ⟨[(13, sY (.s 1744) r1), (12, sU (.s 1743) [IntKind.u64.wrap a1.F_Scale]), (11, nU (IntKind.u64.wrap a1.F_Scale)), (10, nI a1.F_Scale), (9, .ptr (.s 15) 4), (8, lY a0.F_b), (7, .ptr (.up (.s 0)) 0), (6, .ptr (.up (.s 0)) 0), (5, .ptr (.up (.s 0)) 0), (4, .ptr (.up (.s 0)) 0), (3, .ptr (.s 15) 0), (0, .ptr (.up (.s 0)) 0)], [(.s 15, [nI a1.F_Scheme, nI a1.F_Dim, lI a1.F_L, lI a1.F_V, nI a1.F_Scale, nI a1.F_Wide, lU a1.F_Lev, lB a1.F_Neg]), (.up (.s 0), [lY a0.F_b, nI a0.F_e])]⟩ ?_
  refine L_hold ⟨hC (.ptr (.up (.s 0)) 0) trivial, trivial⟩ ?_
  refine Av 9 [.o false (o139_2.drop 3)] ⟨[(18, lB a1.F_Neg), (16, .ptr (.up (.s 0)) 0)], [(.up (.s 0), [sY (.s 1744) r1, nI a0.F_e])]⟩ ?_
  refine L_call (ok_plane_Signs a1.F_Neg) trivial rfl (fun _ => rfl) (fun _ => ⟨(flat_map_of fun _ => trivial), trivial, trivial⟩) (fun r2 => ?_)
  refine Av 2 [.o false (o139_2.drop 6)] ⟨[(21, nI r2.2), (20, sY (.s 3248) r2.1), (16, .ptr (.up (.s 0)) 0)], [(.up (.s 0), [sY (.s 1744) r1, nI a0.F_e])]⟩ ?_
  refine L_callB (enR := en_thrum_frame_pen_bytes) (bx' := bx_thrum_frame_pen_bytes) (ps := [.ptr (.up (.s 0)) 0, lY r2.1, nI r2.2]) (bx := [(.up (.s 0), [sY (.h 0) ((⟨r1, a0.F_e⟩ : T_frame_pen).F_b), nI ((⟨r1, a0.F_e⟩ : T_frame_pen).F_e)])]) [(.up (.s 0), .up (.s 0)), (.h 0, .s 1744)] (ok_thrum_frame_pen_bytes (⟨r1, a0.F_e⟩ : T_frame_pen) r2.1 r2.2) trivial rfl rfl (fun _ => rfl) (fun _ => rfl) (fun _ => by kernel_rfl) (fun _ => by kernel_rfl) (fun _ => trivial) (fun _ => ⟨⟨(flat_map_of fun _ => trivial), trivial, trivial⟩, trivial⟩) (fun r3 => ?_)
  refine Av 1 [] ⟨[], [(.up (.s 0), [sY (.s 3296) r3.1, nI r3.2])]⟩ ?_
  exact L_ret
/-- thrum/frame.Body. -/
def en_frame_Body (v : (List Int) × Int) : PV := .tup [sY (.s 0) v.1, nI v.2]
def o88_0 : List AOper := [⟨some 1, none, 0, .box 51 (.t 0)⟩, ⟨some 2, none, 1, .mov (.c .nils)⟩, mi 3 2 0]
def o88_1 : List AOper := [⟨some 6, none, 100, .load true 8 (.t 1)⟩, cl' 7 101 31 [.t 6], ⟨some 8, none, 102, .un .not (.t 7)⟩]
def o88_2 : List AOper := [⟨some 2, none, 200, .mov (.c .nils)⟩, mi 3 201 1]
def o88_3 : List AOper := [⟨some 9, none, 300, .fieldA 0 (.t 1)⟩, ld 10 301 9, ⟨some 11, none, 302, .convI .u8 (.t 10)⟩, ⟨some 12, none, 303, .bslice 5 1 [.t 11]⟩, ⟨some 13, none, 304, .fieldA 1 (.t 1)⟩, ld 14 305 13, ⟨some 15, none, 306, .convI .u64 (.t 14)⟩, ⟨some 16, none, 307, .bslice 82 1 [.t 15]⟩, cl' 17 308 78 [.t 12, .t 16], ⟨some 18, none, 309, .build [.lst [], .int .i64 0] [(0, 1, .t 17)]⟩, ⟨some 19, none, 310, .box 175 (.t 18)⟩, mv 4 311 19]
def o88_4 : List AOper := [⟨some 20, none, 400, .mkmap⟩, mv 21 401 4, ⟨some 22, none, 402, .mkfn (.func 136) [.t 21] []⟩, ⟨none, none, 403, .insrt .i64 (.t 20) (.c (.d (.int .i64 0))) (.t 22)⟩, mv 23 404 4, ⟨some 24, none, 405, .mkfn (.func 137) [.t 23] []⟩, ⟨none, none, 406, .insrt .i64 (.t 20) (.c (.d (.int .i64 1))) (.t 24)⟩, mv 25 407 4, ⟨some 26, none, 408, .mkfn (.func 138) [.t 25] []⟩, ⟨none, none, 409, .insrt .i64 (.t 20) (.c (.d (.int .i64 2))) (.t 26)⟩, mv 27 410 4, ⟨some 28, none, 411, .mkfn (.func 139) [.t 27] []⟩, ⟨none, none, 412, .insrt .i64 (.t 20) (.c (.d (.int .i64 3))) (.t 28)⟩, mv 29 413 20, mv 5 414 29]
def o88_5 : List AOper := [mv 30 500 5, ⟨some 31, none, 501, .fieldA 0 (.t 1)⟩, ld 32 502 31, ⟨some 33, none, 503, .look .i64 .nilfn false (.t 30) (.t 32)⟩, ⟨some 34, none, 504, .load true 8 (.t 1)⟩, ⟨some 35, none, 505, .callv (.t 33) [.t 34]⟩]
def o88_6 : List AOper := [mv 36 600 4, ⟨some 37, none, 601, .nilck (.t 36)⟩, ⟨some 38, none, 602, .fieldA 1 (.t 37)⟩, ld 39 603 38, bc 40 604 .neq 39 0]
def o88_7 : List AOper := [mv 41 700 4, ⟨some 42, none, 701, .nilck (.t 41)⟩, ⟨some 43, none, 702, .fieldA 1 (.t 42)⟩, ld 44 703 43, ⟨some 2, none, 704, .mov (.c .nils)⟩, mv 3 705 44]
def o88_8 : List AOper := [mv 45 800 4, ⟨some 46, none, 801, .nilck (.t 45)⟩, ⟨some 47, none, 802, .fieldA 0 (.t 46)⟩, ld 48 803 47, mv 2 804 48, mi 3 805 0]
def o88_5t3_6 : List AOper := (o88_5.drop 3).take 3
def c88_6 : AC := .cond (.t 8) (.seq (.reg o88_2) .ret) .skip
def c88_12 : AC := .draw [⟨mv 41 700 4, false, []⟩, ⟨⟨some 42, none, 701, .nilck (.t 41)⟩, false, []⟩, ⟨⟨some 43, none, 702, .fieldA 1 (.t 42)⟩, false, []⟩, ⟨ld 44 703 43, false, []⟩, ⟨⟨some 2, none, 704, .mov (.c .nils)⟩, false, []⟩, ⟨mv 3 705 44, false, []⟩]
def c88_16 : AC := .cond (.t 40) (.seq c88_12 .ret) .skip
def c88_20 : AC := .seq (.reg o88_8) .ret
def c88_21 : AC := .seq (.seq (.reg o88_6) c88_16) c88_20
def c88_23 : AC := .seq (.reg o88_4) (.seq (.reg o88_5) c88_21)
def c88_24 : AC := .seq (.reg o88_3) c88_23
def c88_26 : AC := .seq (.reg o88_0) (.seq (.seq (.reg o88_1) c88_6) c88_24)
theorem fn88 : fnA Try.prog 88 = some (49, [.t 2, .t 3], c88_26) := by kernel_rfl
theorem ok_frame_Body (a0 : T_api_Sent) : ∀ v, M_frame_Body a0 = some v → EvF Try.prog 88 [.agg [.int .i64 a0.F_Scheme, .int .i64 a0.F_Dim, .lst (List.map (D.int .i64) a0.F_L), .lst (List.map (D.int .i64) a0.F_V), .int .i64 a0.F_Scale, .int .i64 a0.F_Wide, .lst (List.map (D.int .u64) a0.F_Lev), .lst (List.map D.bool a0.F_Neg)]] (en_frame_Body v) := by
  intro v hv
  refine EvF_go fn88 (Nat.le_of_ble_eq_true rfl) ?_
  suffices h : Ok (M_frame_Body a0) fun v => go Try.prog 49 (Fnl [.t 2, .t 3] (en_frame_Body v) []) [.c c88_26] .norm (initSt (List.map PV.d [.agg [.int .i64 a0.F_Scheme, .int .i64 a0.F_Dim, .lst (List.map (D.int .i64) a0.F_L), .lst (List.map (D.int .i64) a0.F_V), .int .i64 a0.F_Scale, .int .i64 a0.F_Wide, .lst (List.map (D.int .u64) a0.F_Lev), .lst (List.map D.bool a0.F_Neg)]]) []) from h v hv
  unfold M_frame_Body
  refine Av 10 [.o false (o88_1.drop 1), .c c88_6, .c c88_24] ⟨[(6, .agg [nI a0.F_Scheme, nI a0.F_Dim, lI a0.F_L, lI a0.F_V, nI a0.F_Scale, nI a0.F_Wide, lU a0.F_Lev, lB a0.F_Neg]), (1, .ptr (.s 15) 0)], [(.s 15, [nI a0.F_Scheme, nI a0.F_Dim, lI a0.F_L, lI a0.F_V, nI a0.F_Scale, nI a0.F_Wide, lU a0.F_Lev, lB a0.F_Neg])]⟩ ?_
  refine L_call (ok_frame_May a0) trivial rfl (fun _ => rfl) (fun _ => trivial) (fun r1 => ?_)
  refine Av 2 [.c c88_6, .c c88_24] ⟨[(8, bB (!r1)), (1, .ptr (.s 15) 0)], [(.s 15, [nI a0.F_Scheme, nI a0.F_Dim, lI a0.F_L, lI a0.F_V, nI a0.F_Scale, nI a0.F_Wide, lU a0.F_Lev, lB a0.F_Neg])]⟩ ?_
  refine L_split 8 decF (fun _ => ?_) (fun _ => ?_)
  · refine Avk 8 [] .ret ⟨[(3, nI 1), (2, .nils)], []⟩ ?_
    exact L_ret
  · refine Av 12 [.o false (o88_3.drop 8), .c c88_23] ⟨[(16, sU (.s 4927) [IntKind.u64.wrap a0.F_Dim]), (12, sY (.s 4863) [IntKind.u8.wrap a0.F_Scheme]), (1, .ptr (.s 15) 0)], [(.s 15, [nI a0.F_Scheme, nI a0.F_Dim, lI a0.F_L, lI a0.F_V, nI a0.F_Scale, nI a0.F_Wide, lU a0.F_Lev, lB a0.F_Neg])]⟩ ?_
    refine L_call (ok_leb_Put [IntKind.u8.wrap a0.F_Scheme] [IntKind.u64.wrap a0.F_Dim]) trivial rfl (fun _ => rfl) (fun _ => (flat_map_of fun _ => trivial)) (fun r2 => ?_)
    refine Av 27 [.o false (o88_5.drop 3), .c c88_21] ⟨[(32, nI a0.F_Scheme), (30, .ptr (.s 6414) 0), (4, .ptr (.s 4975) 0), (1, .ptr (.s 15) 0)], [(.s 6414, [nI 0, .clo (.func 136) [.ptr (.s 4975) 0] [], nI 1, .clo (.func 137) [.ptr (.s 4975) 0] [], nI 2, .clo (.func 138) [.ptr (.s 4975) 0] [], nI 3, .clo (.func 139) [.ptr (.s 4975) 0] []]), (.s 4975, [sY (.s 4928) r2, nI 0]), (.s 15, [nI a0.F_Scheme, nI a0.F_Dim, lI a0.F_L, lI a0.F_V, nI a0.F_Scale, nI a0.F_Wide, lU a0.F_Lev, lB a0.F_Neg])]⟩ ?_
    refine L_take 3 o88_5t3_6 (o88_5.drop 6) ?_
    refine L_join [.o false o88_5t3_6] [.o false (o88_5.drop 6), .c c88_21] (fun x : (List Int) × Int => ⟨[(4, .ptr (.s 4975) 0)], [(.s 4975, [sY (.h 0) x.1, nI x.2])]⟩) ?_ (fun j7 => ?_)
    · refine L_look trivial rfl rfl rfl rfl ?_
      refine L_lk (fun _ => ?_) (fun _ => ?_)
      · refine Av 1 [.o false (o88_5t3_6.drop 2)] ⟨[(34, .agg [nI a0.F_Scheme, nI a0.F_Dim, lI a0.F_L, lI a0.F_V, nI a0.F_Scale, nI a0.F_Wide, lU a0.F_Lev, lB a0.F_Neg]), (33, .clo (.func 136) [.ptr (.s 4975) 0] []), (4, .ptr (.s 4975) 0)], [(.s 4975, [sY (.s 4928) r2, nI 0])]⟩ ?_
        refine L_callGV (enR := en_thrum_frame_pen_dense) (bx' := bx_thrum_frame_pen_dense) (ps := [.ptr (.up (.s 0)) 0, .d (.agg [.int .i64 a0.F_Scheme, .int .i64 a0.F_Dim, .lst (List.map (D.int .i64) a0.F_L), .lst (List.map (D.int .i64) a0.F_V), .int .i64 a0.F_Scale, .int .i64 a0.F_Wide, .lst (List.map (D.int .u64) a0.F_Lev), .lst (List.map D.bool a0.F_Neg)])]) (bx := [(.up (.s 0), [lY ((⟨r2, 0⟩ : T_frame_pen).F_b), nI ((⟨r2, 0⟩ : T_frame_pen).F_e)])]) [(.up (.s 0), .s 4975)] [.s 4928] (ok_thrum_frame_pen_dense (⟨r2, 0⟩ : T_frame_pen) a0) trivial rfl rfl rfl (fun _ => rfl) (fun _ => rfl) (fun _ => by kernel_rfl) (fun _ => by kernel_rfl) (fun r3 => ?_)
        refine Av 1 [] ⟨[(4, .ptr (.s 4975) 0)], [(.s 4975, [sY (.s 8080) r3.1, nI r3.2])]⟩ ?_
        exact L_end
      · refine L_lk (fun _ => ?_) (fun _ => ?_)
        · refine Av 1 [.o false (o88_5t3_6.drop 2)] ⟨[(34, .agg [nI a0.F_Scheme, nI a0.F_Dim, lI a0.F_L, lI a0.F_V, nI a0.F_Scale, nI a0.F_Wide, lU a0.F_Lev, lB a0.F_Neg]), (33, .clo (.func 137) [.ptr (.s 4975) 0] []), (4, .ptr (.s 4975) 0)], [(.s 4975, [sY (.s 4928) r2, nI 0])]⟩ ?_
          refine L_callBV (enR := en_thrum_frame_pen_top) (bx' := bx_thrum_frame_pen_top) (ps := [.ptr (.up (.s 0)) 0, .d (.agg [.int .i64 a0.F_Scheme, .int .i64 a0.F_Dim, .lst (List.map (D.int .i64) a0.F_L), .lst (List.map (D.int .i64) a0.F_V), .int .i64 a0.F_Scale, .int .i64 a0.F_Wide, .lst (List.map (D.int .u64) a0.F_Lev), .lst (List.map D.bool a0.F_Neg)])]) (bx := [(.up (.s 0), [sY (.h 0) ((⟨r2, 0⟩ : T_frame_pen).F_b), nI ((⟨r2, 0⟩ : T_frame_pen).F_e)])]) [(.up (.s 0), .s 4975), (.h 0, .s 4928)] (ok_thrum_frame_pen_top (⟨r2, 0⟩ : T_frame_pen) a0) trivial rfl rfl rfl (fun _ => rfl) (fun _ => rfl) (fun _ => by kernel_rfl) (fun _ => by kernel_rfl) (fun _ => trivial) (fun _ => ⟨⟨(flat_map_of fun _ => trivial), trivial, trivial⟩, trivial⟩) (fun r4 => ?_)
          refine Av 1 [] ⟨[(4, .ptr (.s 4975) 0)], [(.s 4975, [sY (.s 8080) r4.1, nI r4.2])]⟩ ?_
          exact L_end
        · refine L_lk (fun _ => ?_) (fun _ => ?_)
          · refine Av 1 [.o false (o88_5t3_6.drop 2)] ⟨[(34, .agg [nI a0.F_Scheme, nI a0.F_Dim, lI a0.F_L, lI a0.F_V, nI a0.F_Scale, nI a0.F_Wide, lU a0.F_Lev, lB a0.F_Neg]), (33, .clo (.func 138) [.ptr (.s 4975) 0] []), (4, .ptr (.s 4975) 0)], [(.s 4975, [sY (.s 4928) r2, nI 0])]⟩ ?_
            refine L_callGV (enR := en_thrum_frame_pen_level) (bx' := bx_thrum_frame_pen_level) (ps := [.ptr (.up (.s 0)) 0, .d (.agg [.int .i64 a0.F_Scheme, .int .i64 a0.F_Dim, .lst (List.map (D.int .i64) a0.F_L), .lst (List.map (D.int .i64) a0.F_V), .int .i64 a0.F_Scale, .int .i64 a0.F_Wide, .lst (List.map (D.int .u64) a0.F_Lev), .lst (List.map D.bool a0.F_Neg)])]) (bx := [(.up (.s 0), [lY ((⟨r2, 0⟩ : T_frame_pen).F_b), nI ((⟨r2, 0⟩ : T_frame_pen).F_e)])]) [(.up (.s 0), .s 4975)] [.s 4928] (ok_thrum_frame_pen_level (⟨r2, 0⟩ : T_frame_pen) a0) trivial rfl rfl rfl (fun _ => rfl) (fun _ => rfl) (fun _ => by kernel_rfl) (fun _ => by kernel_rfl) (fun r5 => ?_)
            refine Av 1 [] ⟨[(4, .ptr (.s 4975) 0)], [(.s 4975, [sY (.s 8080) r5.1, nI r5.2])]⟩ ?_
            exact L_end
          · refine L_lk (fun _ => ?_) (fun _ => ?_)
            · refine Av 1 [.o false (o88_5t3_6.drop 2)] ⟨[(34, .agg [nI a0.F_Scheme, nI a0.F_Dim, lI a0.F_L, lI a0.F_V, nI a0.F_Scale, nI a0.F_Wide, lU a0.F_Lev, lB a0.F_Neg]), (33, .clo (.func 139) [.ptr (.s 4975) 0] []), (4, .ptr (.s 4975) 0)], [(.s 4975, [sY (.s 4928) r2, nI 0])]⟩ ?_
              refine L_callGV (enR := en_thrum_frame_pen_sign) (bx' := bx_thrum_frame_pen_sign) (ps := [.ptr (.up (.s 0)) 0, .d (.agg [.int .i64 a0.F_Scheme, .int .i64 a0.F_Dim, .lst (List.map (D.int .i64) a0.F_L), .lst (List.map (D.int .i64) a0.F_V), .int .i64 a0.F_Scale, .int .i64 a0.F_Wide, .lst (List.map (D.int .u64) a0.F_Lev), .lst (List.map D.bool a0.F_Neg)])]) (bx := [(.up (.s 0), [lY ((⟨r2, 0⟩ : T_frame_pen).F_b), nI ((⟨r2, 0⟩ : T_frame_pen).F_e)])]) [(.up (.s 0), .s 4975)] [.s 4928] (ok_thrum_frame_pen_sign (⟨r2, 0⟩ : T_frame_pen) a0) trivial rfl rfl rfl (fun _ => rfl) (fun _ => rfl) (fun _ => by kernel_rfl) (fun _ => by kernel_rfl) (fun r6 => ?_)
              refine Av 1 [] ⟨[(4, .ptr (.s 4975) 0)], [(.s 4975, [sY (.s 8080) r6.1, nI r6.2])]⟩ ?_
              exact L_end
            · refine L_lk0 ?_
              refine Av 1 [.o false (o88_5t3_6.drop 2)] ⟨[(34, .agg [nI a0.F_Scheme, nI a0.F_Dim, lI a0.F_L, lI a0.F_V, nI a0.F_Scale, nI a0.F_Wide, lU a0.F_Lev, lB a0.F_Neg]), (33, .d (.nilfn)), (4, .ptr (.s 4975) 0)], [(.s 4975, [sY (.s 4928) r2, nI 0])]⟩ ?_
              exact Ok.none
    · refine Av 10 [.c c88_16, .c c88_20] ⟨[(40, bB (j7.2 != 0)), (4, .ptr (.s 4975) 0)], [(.s 4975, [sY (.h 0) j7.1, nI j7.2])]⟩ ?_
      refine L_split 40 decNe (fun _ => ?_) (fun _ => ?_)
      · refine Av 2 [.c c88_12, .c .ret, .c c88_20] ⟨[(4, .ptr (.s 4975) 0)], [(.s 4975, [sY (.h 0) j7.1, nI j7.2])]⟩ ?_
        refine Avk 10 [] .ret ⟨[(3, nI j7.2), (2, .nils)], []⟩ ?_
        exact L_ret
      · refine Avk 12 [] .ret ⟨[(3, nI 0), (2, sY (.h 0) j7.1)], []⟩ ?_
        exact L_ret
/-- thrum/crc.Sum. -/
def en_crc_Sum (v : Int) : PV := nW v
def o125_0 : List AOper := [⟨some 2, none, 0, .mov (.c (.d (.int .u32 0)))⟩]
def o125_1 : List AOper := [mv 3 100 0, cl' 4 101 169 [.c (.d (.int .u32 0)), .t 3], mv 2 102 4]
def c125_4 : AC := .seq (.reg o125_0) (.seq (.reg o125_1) .ret)
theorem fn125 : fnA Try.prog 125 = some (5, [.t 2], c125_4) := by kernel_rfl
theorem ok_crc_Sum (a0 : List Int) : ∀ v, M_crc_Sum a0 = some v → EvF Try.prog 125 [.lst (List.map (D.int .u8) a0)] (en_crc_Sum v) := by
  intro v hv
  refine EvF_go fn125 (Nat.le_of_ble_eq_true rfl) ?_
  suffices h : Ok (M_crc_Sum a0) fun v => go Try.prog 5 (Fnl [.t 2] (en_crc_Sum v) []) [.c c125_4] .norm (initSt (List.map PV.d [.lst (List.map (D.int .u8) a0)]) []) from h v hv
  unfold M_crc_Sum
  refine Av 7 [.o false (o125_1.drop 1), .c .ret] ⟨[(3, lY a0)], []⟩ ?_
  refine L_call (ok_crc_More 0 a0) trivial rfl (fun _ => rfl) (fun _ => trivial) (fun r1 => ?_)
  refine Avk 3 [] .ret ⟨[(2, nW r1)], []⟩ ?_
  exact L_ret
/-- thrum/crc.Seal. -/
def en_crc_Seal (v : (List Int) × Int) : PV := .tup [sY (.s 0) v.1, nI v.2]
def o77_0 : List AOper := [⟨some 2, none, 0, .mov (.c .nils)⟩, mi 3 1 0]
def o77_1 : List AOper := [mv 7 100 0, ln 8 101 7, bc 9 102 .gtr 8 65532]
def o77_2 : List AOper := [⟨some 2, none, 200, .mov (.c .nils)⟩, mi 3 201 3]
def o77_3 : List AOper := [mv 10 300 0, cl' 11 301 76 [.t 10], mv 4 302 11]
def o77_4 : List AOper := [mv 12 400 0, cl' 13 401 125 [.t 12], mv 5 402 13, mi 6 403 0]
def o77_5 : List AOper := [mv 14 500 6, bc 15 501 .lss 14 4]
def o77_6 : List AOper := [mv 20 700 4, mv 21 701 5, ⟨some 22, none, 702, .convI .u8 (.t 21)⟩, ⟨some 23, none, 703, .bslice 5 1 [.t 22]⟩, ⟨some 24, none, 704, .app 5 1 1 (.t 20) (.t 23)⟩, mv 4 705 24]
def o77_7 : List AOper := [mv 16 600 5, ⟨some 17, none, 601, .bin .shr .int (.t 16) (.c (.d (.int .u64 8)))⟩, mv 18 602 6, bc 19 603 .add 18 1, mv 5 604 17, mv 6 605 19]
def o77_8 : List AOper := [mv 25 800 4, mv 2 801 25, mi 3 802 0]
def c77_6 : AC := .cond (.t 9) (.seq (.reg o77_2) .ret) .skip
def c77_13 : AC := .cond (.t 15) .skip (.exit 0)
def c77_17 : AC := .reg o77_7
def c77_18 : AC := .seq (.block 1 (.reg o77_6)) c77_17
def c77_19 : AC := .seq (.seq (.reg o77_5) c77_13) c77_18
def c77_21 : AC := .block 0 (.loop c77_19)
def c77_25 : AC := .seq (.reg o77_8) .ret
def c77_26 : AC := .seq (.seq (.reg o77_4) c77_21) c77_25
def c77_27 : AC := .seq (.reg o77_3) c77_26
def c77_29 : AC := .seq (.reg o77_0) (.seq (.seq (.reg o77_1) c77_6) c77_27)
theorem fn77 : fnA Try.prog 77 = some (26, [.t 2, .t 3], c77_29) := by kernel_rfl
def q_ok_crc_Seal_l0_ok (x0 : Int) (x1 : Int) (x2 : List Int) (v : (List Int)) : Prop := (fun v => go Try.prog 26 (PostN (.exit 0) (fun x : (List Int) => ⟨[(4, sY (.h 1) x)], []⟩) v) [.l c77_19] .norm ⟨[(6, nI x0), (5, nW x1), (4, sY (.h 0) x2)], []⟩) v
theorem ok_crc_Seal_l0_ok (x0 : Int) (x1 : Int) (x2 : List Int) : Ok (M_crc_Seal_l0 x0 x1 x2) (q_ok_crc_Seal_l0_ok x0 x1 x2) := by
  refine M_crc_Seal_l0.partial_correctness (q_ok_crc_Seal_l0_ok) ?_ x0 x1 x2
  clear x0 x1 x2
  intro f' IH x0 x1 x2
  refine okI ?_
  unfold q_ok_crc_Seal_l0_ok at *
  refine Av 1 [.c c77_19, .l c77_19] ⟨[(6, nI x0), (5, nW x1), (4, sY (.h 0) x2)], []⟩ ?_
  refine Av 6 [.c c77_13, .c c77_18, .l c77_19] ⟨[(15, bB (decide (x0 < 4))), (6, nI x0), (5, nW x1), (4, sY (.h 0) x2)], []⟩ ?_
  refine L_split 15 rfl (fun _ => ?_) (fun _ => ?_)
  · refine Av 9 [.o false (o77_6.drop 4), .b 1, .c c77_17, .l c77_19] ⟨[(23, sY (.s 11263) [IntKind.u8.wrap x1]), (20, sY (.h 0) x2), (6, nI x0), (5, nW x1)], []⟩ ?_
    refine L_app (enc := D.int .u8) (l := x2) (l2 := [IntKind.u8.wrap x1]) trivial rfl rfl (fun _ => rfl) (fun _ => ?_)
    refine Al 11 [.l c77_19] .norm (fun y3 : List Int => ⟨[(6, nI (IntKind.i64.wrap (x0 + 1))), (5, nW (sShr .u32 x1 8)), (4, sY (.s 11279) y3)], []⟩) (fun y3 => ?_)
    exact L_again (IH (IntKind.i64.wrap (x0 + 1)) (sShr .u32 x1 8) y3)
  · refine Avk 4 [] (.exit 0) ⟨[(4, sY (.h 0) x2)], []⟩ ?_
    exact L_end
theorem ok_crc_Seal (a0 : List Int) : ∀ v, M_crc_Seal a0 = some v → EvF Try.prog 77 [.lst (List.map (D.int .u8) a0)] (en_crc_Seal v) := by
  intro v hv
  refine EvF_go fn77 (Nat.le_of_ble_eq_true rfl) ?_
  suffices h : Ok (M_crc_Seal a0) fun v => go Try.prog 26 (Fnl [.t 2, .t 3] (en_crc_Seal v) []) [.c c77_29] .norm (initSt (List.map PV.d [.lst (List.map (D.int .u8) a0)]) []) from h v hv
  unfold M_crc_Seal
  refine Av 9 [.o false (o77_1.drop 1), .c c77_6, .c c77_27] ⟨[(7, lY a0), (0, lY a0)], []⟩ ?_
  refine L_len (enc := D.int .u8) (l := a0) trivial rfl ?_
  refine Av 2 [.c c77_6, .c c77_27] ⟨[(9, bB (decide ((a0.length : Int) > 65532))), (0, lY a0)], []⟩ ?_
  refine L_split 9 rfl (fun _ => ?_) (fun _ => ?_)
  · refine Avk 8 [] .ret ⟨[(3, nI 3), (2, .nils)], []⟩ ?_
    exact L_ret
  · refine Av 5 [.o false (o77_3.drop 1), .c c77_26] ⟨[(10, lY a0), (0, lY a0)], []⟩ ?_
    refine L_call (ok_slices_Clone_byte_byte a0) trivial rfl (fun _ => rfl) (fun _ => (flat_map_of fun _ => trivial)) (fun r1 => ?_)
    refine Av 6 [.o false (o77_4.drop 1), .c c77_21, .c c77_25] ⟨[(12, lY a0), (4, sY (.s 4816) r1)], []⟩ ?_
    refine L_call (ok_crc_Sum a0) trivial rfl (fun _ => rfl) (fun _ => trivial) (fun r2 => ?_)
    refine Av 5 [.l c77_19, .b 0, .c c77_25] ⟨[(6, nI 0), (5, nW r2), (4, sY (.s 4816) r1)], []⟩ ?_
    refine L_piece (fs := [.l c77_19]) (ks := [.b 0, .c c77_25]) (ok_crc_Seal_l0_ok 0 r2 r1) (fun j5 => ?_)
    refine Avk 8 [] .ret ⟨[(3, nI 0), (2, sY (.h 1) j5)], []⟩ ?_
    exact L_ret
/-- thrum/frame.Write. -/
def en_frame_Write (v : (List Int) × Int) : PV := .tup [sY (.s 0) v.1, nI v.2]
def o42_0 : List AOper := [⟨some 1, none, 0, .box 53 (.t 0)⟩, ⟨some 2, none, 1, .mov (.c .nils)⟩, mi 3 2 0]
def o42_1 : List AOper := [⟨some 8, none, 100, .load true 11 (.t 1)⟩, cl' 9 101 30 [.t 8], mv 4 102 9]
def o42_2 : List AOper := [mv 10 200 4, bc 11 201 .neq 10 0]
def o42_3 : List AOper := [mv 12 300 4, ⟨some 2, none, 301, .mov (.c .nils)⟩, mv 3 302 12]
def o42_4 : List AOper := [⟨some 13, none, 400, .fieldA 0 (.t 1)⟩, ld 14 401 13, ⟨some 15, none, 402, .convI .u8 (.t 14)⟩, ⟨some 16, none, 403, .bslice 5 1 [.c (.d (.int .u8 1)), .t 15]⟩, ⟨some 17, none, 404, .fieldA 1 (.t 1)⟩, ld 18 405 17, ⟨some 19, none, 406, .convI .u64 (.t 18)⟩, ⟨some 20, none, 407, .fieldA 2 (.t 1)⟩, ld 21 408 20, ⟨some 22, none, 409, .convI .u64 (.t 21)⟩, ⟨some 23, none, 410, .bslice 82 1 [.t 19, .t 22]⟩, cl' 24 411 78 [.t 16, .t 23], mv 5 412 24]
def o42_5 : List AOper := [⟨some 25, none, 500, .fieldA 0 (.t 1)⟩, ld 26 501 25, bc 27 502 .eql 26 1]
def o42_6 : List AOper := [⟨some 29, none, 600, .fieldA 3 (.t 1)⟩, ⟨some 30, none, 601, .load true 8 (.t 29)⟩, cl' 31 602 88 [.t 30], mv 28 603 31, xt 32 604 28 0, xt 33 605 28 1, mv 6 606 32, mv 7 607 33]
def o42_7 : List AOper := [mv 34 700 7, bc 35 701 .neq 34 0]
def o42_8 : List AOper := [mv 36 800 7, ⟨some 2, none, 801, .mov (.c .nils)⟩, mv 3 802 36]
def o42_9 : List AOper := [mv 37 900 5, mv 38 901 6, ⟨some 39, none, 902, .app 5 1 1 (.t 37) (.t 38)⟩, mv 5 903 39]
def o42_10 : List AOper := [mv 40 1000 5, cl' 41 1001 77 [.t 40], xt 42 1002 41 0, xt 43 1003 41 1, mv 2 1004 42, mv 3 1005 43]
def c42_7 : AC := .cond (.t 11) (.seq (.reg o42_3) .ret) .skip
def c42_8 : AC := .seq (.reg o42_2) c42_7
def c42_18 : AC := .cond (.t 35) (.seq (.reg o42_8) .ret) .skip
def c42_20 : AC := .reg o42_9
def c42_21 : AC := .seq (.seq (.reg o42_7) c42_18) c42_20
def c42_24 : AC := .cond (.t 27) (.seq (.reg o42_6) c42_21) .skip
def c42_28 : AC := .seq (.reg o42_10) .ret
def c42_29 : AC := .seq (.seq (.reg o42_5) c42_24) c42_28
def c42_30 : AC := .seq (.reg o42_4) c42_29
def c42_32 : AC := .seq (.reg o42_0) (.seq (.seq (.reg o42_1) c42_8) c42_30)
theorem fn42 : fnA Try.prog 42 = some (44, [.t 2, .t 3], c42_32) := by kernel_rfl
theorem ok_frame_Write (a0 : T_api_Frame) : ∀ v, M_frame_Write a0 = some v → EvF Try.prog 42 [.agg [.int .i64 a0.F_Kind, .int .i64 a0.F_From, .int .i64 a0.F_Step, .int .i64 a0.F_S.F_Scheme, .int .i64 a0.F_S.F_Dim, .lst (List.map (D.int .i64) a0.F_S.F_L), .lst (List.map (D.int .i64) a0.F_S.F_V), .int .i64 a0.F_S.F_Scale, .int .i64 a0.F_S.F_Wide, .lst (List.map (D.int .u64) a0.F_S.F_Lev), .lst (List.map D.bool a0.F_S.F_Neg)]] (en_frame_Write v) := by
  intro v hv
  refine EvF_go fn42 (Nat.le_of_ble_eq_true rfl) ?_
  suffices h : Ok (M_frame_Write a0) fun v => go Try.prog 44 (Fnl [.t 2, .t 3] (en_frame_Write v) []) [.c c42_32] .norm (initSt (List.map PV.d [.agg [.int .i64 a0.F_Kind, .int .i64 a0.F_From, .int .i64 a0.F_Step, .int .i64 a0.F_S.F_Scheme, .int .i64 a0.F_S.F_Dim, .lst (List.map (D.int .i64) a0.F_S.F_L), .lst (List.map (D.int .i64) a0.F_S.F_V), .int .i64 a0.F_S.F_Scale, .int .i64 a0.F_S.F_Wide, .lst (List.map (D.int .u64) a0.F_S.F_Lev), .lst (List.map D.bool a0.F_S.F_Neg)]]) []) from h v hv
  unfold M_frame_Write
  refine Av 10 [.o false (o42_1.drop 1), .c c42_8, .c c42_30] ⟨[(8, .agg [nI a0.F_Kind, nI a0.F_From, nI a0.F_Step, nI a0.F_S.F_Scheme, nI a0.F_S.F_Dim, lI a0.F_S.F_L, lI a0.F_S.F_V, nI a0.F_S.F_Scale, nI a0.F_S.F_Wide, lU a0.F_S.F_Lev, lB a0.F_S.F_Neg]), (1, .ptr (.s 15) 0)], [(.s 15, [nI a0.F_Kind, nI a0.F_From, nI a0.F_Step, nI a0.F_S.F_Scheme, nI a0.F_S.F_Dim, lI a0.F_S.F_L, lI a0.F_S.F_V, nI a0.F_S.F_Scale, nI a0.F_S.F_Wide, lU a0.F_S.F_Lev, lB a0.F_S.F_Neg])]⟩ ?_
  refine L_call (ok_frame_Check a0) trivial rfl (fun _ => rfl) (fun _ => trivial) (fun r1 => ?_)
  refine Av 7 [.c c42_7, .c c42_30] ⟨[(11, bB (r1 != 0)), (4, nI r1), (1, .ptr (.s 15) 0)], [(.s 15, [nI a0.F_Kind, nI a0.F_From, nI a0.F_Step, nI a0.F_S.F_Scheme, nI a0.F_S.F_Dim, lI a0.F_S.F_L, lI a0.F_S.F_V, nI a0.F_S.F_Scale, nI a0.F_S.F_Wide, lU a0.F_S.F_Lev, lB a0.F_S.F_Neg])]⟩ ?_
  refine L_split 11 decNe (fun _ => ?_) (fun _ => ?_)
  · refine Avk 9 [] .ret ⟨[(3, nI r1), (2, .nils)], []⟩ ?_
    exact L_ret
  · refine Av 15 [.o false (o42_4.drop 11), .c c42_29] ⟨[(23, sU (.s 6575) [IntKind.u64.wrap a0.F_From, IntKind.u64.wrap a0.F_Step]), (16, sY (.s 6463) [1, IntKind.u8.wrap a0.F_Kind]), (1, .ptr (.s 15) 0)], [(.s 15, [nI a0.F_Kind, nI a0.F_From, nI a0.F_Step, nI a0.F_S.F_Scheme, nI a0.F_S.F_Dim, lI a0.F_S.F_L, lI a0.F_S.F_V, nI a0.F_S.F_Scale, nI a0.F_S.F_Wide, lU a0.F_S.F_Lev, lB a0.F_S.F_Neg])]⟩ ?_
    refine L_call (ok_leb_Put [1, IntKind.u8.wrap a0.F_Kind] [IntKind.u64.wrap a0.F_From, IntKind.u64.wrap a0.F_Step]) trivial rfl (fun _ => rfl) (fun _ => (flat_map_of fun _ => trivial)) (fun r2 => ?_)
    refine Av 9 [.c c42_24, .c c42_28] ⟨[(27, bB (a0.F_Kind == 1)), (5, sY (.s 6576) r2), (1, .ptr (.s 15) 0)], [(.s 15, [nI a0.F_Kind, nI a0.F_From, nI a0.F_Step, nI a0.F_S.F_Scheme, nI a0.F_S.F_Dim, lI a0.F_S.F_L, lI a0.F_S.F_V, nI a0.F_S.F_Scale, nI a0.F_S.F_Wide, lU a0.F_S.F_Lev, lB a0.F_S.F_Neg])]⟩ ?_
    refine L_split 27 decE (fun _ => ?_) (fun _ => ?_)
    · refine Av 5 [.o false (o42_6.drop 2), .c c42_21, .c c42_28] ⟨[(30, .agg [nI a0.F_S.F_Scheme, nI a0.F_S.F_Dim, lI a0.F_S.F_L, lI a0.F_S.F_V, nI a0.F_S.F_Scale, nI a0.F_S.F_Wide, lU a0.F_S.F_Lev, lB a0.F_S.F_Neg]), (5, sY (.s 6576) r2)], []⟩ ?_
      refine L_call (ok_frame_Body a0.F_S) trivial rfl (fun _ => rfl) (fun _ => ⟨(flat_map_of fun _ => trivial), trivial, trivial⟩) (fun r3 => ?_)
      refine Av 12 [.c c42_18, .c c42_20, .c c42_28] ⟨[(35, bB (r3.2 != 0)), (7, nI r3.2), (6, sY (.s 9632) r3.1), (5, sY (.s 6576) r2)], []⟩ ?_
      refine L_split 35 decNe (fun _ => ?_) (fun _ => ?_)
      · refine Avk 10 [] .ret ⟨[(3, nI r3.2), (2, .nils)], []⟩ ?_
        exact L_ret
      · refine Av 5 [.o false (o42_9.drop 2), .c c42_28] ⟨[(38, sY (.s 9632) r3.1), (37, sY (.s 6576) r2)], []⟩ ?_
        refine L_app (enc := D.int .u8) (l := r2) (l2 := r3.1) trivial rfl rfl (fun _ => rfl) (fun _ => ?_)
        refine Av 5 [.o false (o42_10.drop 1), .c .ret] ⟨[(40, sY (.s 14447) (r2 ++ r3.1))], []⟩ ?_
        refine L_call (ok_crc_Seal (r2 ++ r3.1)) trivial rfl (fun _ => rfl) (fun _ => ⟨(flat_map_of fun _ => trivial), trivial, trivial⟩) (fun r4 => ?_)
        refine Avk 6 [] .ret ⟨[(3, nI r4.2), (2, sY (.s 16016) r4.1)], []⟩ ?_
        exact L_ret
    · refine Av 5 [.o false (o42_10.drop 1), .c .ret] ⟨[(40, sY (.s 6576) r2)], []⟩ ?_
      refine L_call (ok_crc_Seal r2) trivial rfl (fun _ => rfl) (fun _ => ⟨(flat_map_of fun _ => trivial), trivial, trivial⟩) (fun r5 => ?_)
      refine Avk 6 [] .ret ⟨[(3, nI r5.2), (2, sY (.s 16016) r5.1)], []⟩ ?_
      exact L_ret
/-- thrum/thrumref03.Same. -/
def en_thrumref03_Same (v : Bool) : PV := bB v
def o24_0 : List AOper := [mb 4 0 false]
def o24_1 : List AOper := [mv 5 100 0, ⟨some 6, none, 101, .convS (.t 5)⟩, mv 7 102 1, ⟨some 8, none, 103, .convS (.t 7)⟩, ⟨some 9, none, 104, .bin .eql .str (.t 6) (.t 8)⟩, mv 4 105 9]
def c24_4 : AC := .seq (.reg o24_0) (.seq (.reg o24_1) .ret)
theorem fn24 : fnA Try.prog 24 = some (10, [.t 4], c24_4) := by kernel_rfl
theorem ok_thrumref03_Same (a0 : List Int) (a1 : List Int) : ∀ v, M_thrumref03_Same a0 a1 = some v → EvF Try.prog 24 [.lst (List.map (D.int .u8) a0), .lst (List.map (D.int .u8) a1)] (en_thrumref03_Same v) := by
  intro v hv
  refine EvF_go fn24 (Nat.le_of_ble_eq_true rfl) ?_
  suffices h : Ok (M_thrumref03_Same a0 a1) fun v => go Try.prog 10 (Fnl [.t 4] (en_thrumref03_Same v) []) [.c c24_4] .norm (initSt (List.map PV.d [.lst (List.map (D.int .u8) a0), .lst (List.map (D.int .u8) a1)]) []) from h v hv
  unfold M_thrumref03_Same
  refine Av 7 [.o false (o24_1.drop 1), .c .ret] ⟨[(5, lY a0), (1, lY a1)], []⟩ ?_
  refine L_convS (l := a0) trivial (.inl rfl) ?_
  refine Av 1 [.o false (o24_1.drop 3), .c .ret] ⟨[(7, lY a1), (6, .d (.str (strB a0)))], []⟩ ?_
  refine L_convS (l := a1) trivial (.inl rfl) ?_
  refine Avk 4 [] .ret ⟨[(4, bB ((strB a0).toList == (strB a1).toList))], []⟩ ?_
  exact L_ret
/-- thrum/thrumlaw07.live. -/
def en_thrumlaw07_live (v : Bool) : PV := bB v
def o28_0 : List AOper := [mb 0 0 false]
def o28_1 : List AOper := [cl' 4 100 59 [.c (.d (.int .i64 3)), .c (.d (.int .i64 300))], cl' 5 101 42 [.t 4], mv 3 102 5, xt 6 103 3 0, xt 7 104 3 1, mv 1 105 6, mv 2 106 7]
def o28_2 : List AOper := [mv 8 200 2, bc 9 201 .eql 8 0, mv 10 202 9, gv 11 10 true 203 1, ⟨some 12, some (10, true), 204, .len (.t 11)⟩, ⟨some 13, some (10, true), 205, .bin .eql .int (.t 12) (.c (.d (.int .i64 9)))⟩, pk 14 206 10 13 false, mv 15 207 14, gv 16 15 true 208 1, ⟨some 17, some (15, true), 209, .sliceS 1 (.t 16) none (some (.c (.d (.int .i64 5)))) none⟩, ⟨some 18, some (15, true), 210, .bslice 5 1 [.c (.d (.int .u8 1)), .c (.d (.int .u8 2)), .c (.d (.int .u8 3)), .c (.d (.int .u8 172)), .c (.d (.int .u8 2))]⟩, ⟨some 19, some (15, true), 211, .call 24 [.t 17, .t 18]⟩, pk 20 212 15 19 false, mv 0 213 20]
def o28_2t3_7 : List AOper := (o28_2.drop 3).take 4
def o28_2t8_13 : List AOper := (o28_2.drop 8).take 5
def c28_4 : AC := .seq (.reg o28_2) .ret
def c28_6 : AC := .seq (.reg o28_0) (.seq (.reg o28_1) c28_4)
theorem fn28 : fnA Try.prog 28 = some (21, [.t 0], c28_6) := by kernel_rfl
theorem ok_thrumlaw07_live : ∀ v, M_thrumlaw07_live = some v → EvF Try.prog 28 [] (en_thrumlaw07_live v) := by
  intro v hv
  refine EvF_go fn28 (Nat.le_of_ble_eq_true rfl) ?_
  suffices h : Ok (M_thrumlaw07_live) fun v => go Try.prog 21 (Fnl [.t 0] (en_thrumlaw07_live v) []) [.c c28_6] .norm (initSt (List.map PV.d []) []) from h v hv
  unfold M_thrumlaw07_live
  refine Av 6 [.o false o28_1, .c c28_4] ⟨[], []⟩ ?_
  refine L_call (ok_frame_Ack 3 300) trivial rfl (fun _ => rfl) (fun _ => ⟨trivial, trivial, trivial, trivial, trivial, rfl, rfl, trivial, trivial, rfl, rfl, trivial⟩) (fun r1 => ?_)
  refine L_call (ok_frame_Write (⟨r1.1, r1.2.1, r1.2.2.1, (⟨r1.2.2.2.1, r1.2.2.2.2.1, [], [], r1.2.2.2.2.2.1, r1.2.2.2.2.2.2, [], []⟩ : T_api_Sent)⟩ : T_api_Frame)) trivial rfl (fun _ => rfl) (fun _ => ⟨(flat_map_of fun _ => trivial), trivial, trivial⟩) (fun r2 => ?_)
  refine Av 11 [.o false (o28_2.drop 3), .c .ret] ⟨[(10, bB (r2.2 == 0)), (1, sY (.s 1616) r2.1)], []⟩ ?_
  refine L_take 4 o28_2t3_7 (o28_2.drop 7) ?_
  refine L_join [.o false o28_2t3_7] [.o false (o28_2.drop 7), .c .ret] (fun x : Bool => ⟨[(14, bB x), (1, sY (.s 1616) r2.1)], []⟩) ?_ (fun j3 => ?_)
  · refine L_split 10 decE (fun _ => ?_) (fun _ => ?_)
    · refine Av 1 [.o false (o28_2t3_7.drop 1)] ⟨[(11, sY (.s 1616) r2.1), (10, bB true), (1, sY (.s 1616) r2.1)], []⟩ ?_
      refine L_len (enc := D.int .u8) (l := r2.1) rfl rfl ?_
      refine Av 3 [] ⟨[(14, bB ((r2.1.length : Int) == 9)), (1, sY (.s 1616) r2.1)], []⟩ ?_
      exact L_end
    · refine Av 5 [] ⟨[(14, bB false), (1, sY (.s 1616) r2.1)], []⟩ ?_
      exact L_end
  · refine Av 1 [.o false (o28_2.drop 8), .c .ret] ⟨[(15, bB j3), (1, sY (.s 1616) r2.1)], []⟩ ?_
    refine L_take 5 o28_2t8_13 (o28_2.drop 13) ?_
    refine L_join [.o false o28_2t8_13] [.o false (o28_2.drop 13), .c .ret] (fun x : Bool => ⟨[(20, bB x)], []⟩) ?_ (fun j5 => ?_)
    · refine L_split 15 decT (fun _ => ?_) (fun _ => ?_)
      · refine Av 1 [.o false (o28_2t8_13.drop 1)] ⟨[(16, sY (.s 1616) r2.1), (15, bB true)], []⟩ ?_
        refine L_cutO (enc := D.int .u8) (l := r2.1) (a := none) (b := (some 5)) rfl rfl rfl rfl (fun hc209 => ?_)
        refine Av 1 [.o false (o28_2t8_13.drop 3)] ⟨[(18, sY (.s 3375) [1, 2, 3, 172, 2]), (15, bB true), (17, sY (.s 1616) (cut' r2.1 none (some 5)))], []⟩ ?_
        refine L_call (ok_thrumref03_Same (cut' r2.1 none (some 5)) [1, 2, 3, 172, 2]) rfl rfl (fun _ => rfl) (fun _ => trivial) (fun r4 => ?_)
        refine Av 2 [] ⟨[(20, bB r4)], []⟩ ?_
        exact L_end
      · refine Av 6 [] ⟨[(20, bB false)], []⟩ ?_
        exact L_end
    · refine Avk 3 [] .ret ⟨[(0, bB j5)], []⟩ ?_
      exact L_ret
/-- thrum/thrumref07.Big. -/
def en_thrumref07_Big (v : Bool) : PV := bB v
def o29_0 : List AOper := [⟨some 1, none, 0, .box 51 (.t 0)⟩, mb 2 1 false]
def o29_1 : List AOper := [⟨some 3, none, 100, .fieldA 2 (.t 1)⟩, ld 4 101 3, ln 5 102 4, bc 6 103 .gtr 5 500, mv 7 104 6, ⟨some 8, some (7, false), 105, .fieldA 3 (.t 1)⟩, ⟨some 9, some (7, false), 106, .load false 1 (.t 8)⟩, ⟨some 10, some (7, false), 107, .len (.t 9)⟩, ⟨some 11, some (7, false), 108, .bin .gtr .int (.t 10) (.c (.d (.int .i64 500)))⟩, pz 12 109 7 11 true, mv 13 110 12, ⟨some 14, some (13, false), 111, .fieldA 6 (.t 1)⟩, ⟨some 15, some (13, false), 112, .load false 1 (.t 14)⟩, ⟨some 16, some (13, false), 113, .len (.t 15)⟩, ⟨some 17, some (13, false), 114, .bin .gtr .int (.t 16) (.c (.d (.int .i64 500)))⟩, pz 18 115 13 17 true, mv 19 116 18, ⟨some 20, some (19, false), 117, .fieldA 7 (.t 1)⟩, ⟨some 21, some (19, false), 118, .load false 1 (.t 20)⟩, ⟨some 22, some (19, false), 119, .len (.t 21)⟩, ⟨some 23, some (19, false), 120, .bin .gtr .int (.t 22) (.c (.d (.int .i64 500)))⟩, pz 24 121 19 23 true, mv 2 122 24]
def o29_1t5_10 : List AOper := (o29_1.drop 5).take 5
def o29_1t11_16 : List AOper := (o29_1.drop 11).take 5
def o29_1t17_22 : List AOper := (o29_1.drop 17).take 5
def c29_4 : AC := .seq (.reg o29_0) (.seq (.reg o29_1) .ret)
theorem fn29 : fnA Try.prog 29 = some (25, [.t 2], c29_4) := by kernel_rfl
theorem ok_thrumref07_Big (a0 : T_api_Sent) : ∀ v, M_thrumref07_Big a0 = some v → EvF Try.prog 29 [.agg [.int .i64 a0.F_Scheme, .int .i64 a0.F_Dim, .lst (List.map (D.int .i64) a0.F_L), .lst (List.map (D.int .i64) a0.F_V), .int .i64 a0.F_Scale, .int .i64 a0.F_Wide, .lst (List.map (D.int .u64) a0.F_Lev), .lst (List.map D.bool a0.F_Neg)]] (en_thrumref07_Big v) := by
  intro v hv
  refine EvF_go fn29 (Nat.le_of_ble_eq_true rfl) ?_
  suffices h : Ok (M_thrumref07_Big a0) fun v => go Try.prog 25 (Fnl [.t 2] (en_thrumref07_Big v) []) [.c c29_4] .norm (initSt (List.map PV.d [.agg [.int .i64 a0.F_Scheme, .int .i64 a0.F_Dim, .lst (List.map (D.int .i64) a0.F_L), .lst (List.map (D.int .i64) a0.F_V), .int .i64 a0.F_Scale, .int .i64 a0.F_Wide, .lst (List.map (D.int .u64) a0.F_Lev), .lst (List.map D.bool a0.F_Neg)]]) []) from h v hv
  unfold M_thrumref07_Big
  refine Av 9 [.o false (o29_1.drop 2), .c .ret] ⟨[(4, lI a0.F_L), (1, .ptr (.s 15) 0)], [(.s 15, [nI a0.F_Scheme, nI a0.F_Dim, lI a0.F_L, lI a0.F_V, nI a0.F_Scale, nI a0.F_Wide, lU a0.F_Lev, lB a0.F_Neg])]⟩ ?_
  refine L_len (enc := D.int .i64) (l := a0.F_L) trivial rfl ?_
  refine Av 2 [.o false (o29_1.drop 5), .c .ret] ⟨[(7, bB (decide ((a0.F_L.length : Int) > 500))), (1, .ptr (.s 15) 0)], [(.s 15, [nI a0.F_Scheme, nI a0.F_Dim, lI a0.F_L, lI a0.F_V, nI a0.F_Scale, nI a0.F_Wide, lU a0.F_Lev, lB a0.F_Neg])]⟩ ?_
  refine L_take 5 o29_1t5_10 (o29_1.drop 10) ?_
  refine L_join [.o false o29_1t5_10] [.o false (o29_1.drop 10), .c .ret] (fun x : Bool => ⟨[(12, bB x), (1, .ptr (.s 15) 0)], [(.s 15, [nI a0.F_Scheme, nI a0.F_Dim, lI a0.F_L, lI a0.F_V, nI a0.F_Scale, nI a0.F_Wide, lU a0.F_Lev, lB a0.F_Neg])]⟩) ?_ (fun j1 => ?_)
  · refine L_split 7 rfl (fun _ => ?_) (fun _ => ?_)
    · refine Av 6 [] ⟨[(12, bB true), (1, .ptr (.s 15) 0)], [(.s 15, [nI a0.F_Scheme, nI a0.F_Dim, lI a0.F_L, lI a0.F_V, nI a0.F_Scale, nI a0.F_Wide, lU a0.F_Lev, lB a0.F_Neg])]⟩ ?_
      exact L_end
    · refine Av 2 [.o false (o29_1t5_10.drop 2)] ⟨[(9, lI a0.F_V), (7, bB false), (1, .ptr (.s 15) 0)], [(.s 15, [nI a0.F_Scheme, nI a0.F_Dim, lI a0.F_L, lI a0.F_V, nI a0.F_Scale, nI a0.F_Wide, lU a0.F_Lev, lB a0.F_Neg])]⟩ ?_
      refine L_len (enc := D.int .i64) (l := a0.F_V) rfl rfl ?_
      refine Av 3 [] ⟨[(12, bB (decide ((a0.F_V.length : Int) > 500))), (1, .ptr (.s 15) 0)], [(.s 15, [nI a0.F_Scheme, nI a0.F_Dim, lI a0.F_L, lI a0.F_V, nI a0.F_Scale, nI a0.F_Wide, lU a0.F_Lev, lB a0.F_Neg])]⟩ ?_
      exact L_end
  · refine Av 1 [.o false (o29_1.drop 11), .c .ret] ⟨[(13, bB j1), (1, .ptr (.s 15) 0)], [(.s 15, [nI a0.F_Scheme, nI a0.F_Dim, lI a0.F_L, lI a0.F_V, nI a0.F_Scale, nI a0.F_Wide, lU a0.F_Lev, lB a0.F_Neg])]⟩ ?_
    refine L_take 5 o29_1t11_16 (o29_1.drop 16) ?_
    refine L_join [.o false o29_1t11_16] [.o false (o29_1.drop 16), .c .ret] (fun x : Bool => ⟨[(18, bB x), (1, .ptr (.s 15) 0)], [(.s 15, [nI a0.F_Scheme, nI a0.F_Dim, lI a0.F_L, lI a0.F_V, nI a0.F_Scale, nI a0.F_Wide, lU a0.F_Lev, lB a0.F_Neg])]⟩) ?_ (fun j2 => ?_)
    · refine L_split 13 decT (fun _ => ?_) (fun _ => ?_)
      · refine Av 6 [] ⟨[(18, bB true), (1, .ptr (.s 15) 0)], [(.s 15, [nI a0.F_Scheme, nI a0.F_Dim, lI a0.F_L, lI a0.F_V, nI a0.F_Scale, nI a0.F_Wide, lU a0.F_Lev, lB a0.F_Neg])]⟩ ?_
        exact L_end
      · refine Av 2 [.o false (o29_1t11_16.drop 2)] ⟨[(15, lU a0.F_Lev), (13, bB false), (1, .ptr (.s 15) 0)], [(.s 15, [nI a0.F_Scheme, nI a0.F_Dim, lI a0.F_L, lI a0.F_V, nI a0.F_Scale, nI a0.F_Wide, lU a0.F_Lev, lB a0.F_Neg])]⟩ ?_
        refine L_len (enc := D.int .u64) (l := a0.F_Lev) rfl rfl ?_
        refine Av 3 [] ⟨[(18, bB (decide ((a0.F_Lev.length : Int) > 500))), (1, .ptr (.s 15) 0)], [(.s 15, [nI a0.F_Scheme, nI a0.F_Dim, lI a0.F_L, lI a0.F_V, nI a0.F_Scale, nI a0.F_Wide, lU a0.F_Lev, lB a0.F_Neg])]⟩ ?_
        exact L_end
    · refine Av 1 [.o false (o29_1.drop 17), .c .ret] ⟨[(19, bB j2), (1, .ptr (.s 15) 0)], [(.s 15, [nI a0.F_Scheme, nI a0.F_Dim, lI a0.F_L, lI a0.F_V, nI a0.F_Scale, nI a0.F_Wide, lU a0.F_Lev, lB a0.F_Neg])]⟩ ?_
      refine L_take 5 o29_1t17_22 (o29_1.drop 22) ?_
      refine L_join [.o false o29_1t17_22] [.o false (o29_1.drop 22), .c .ret] (fun x : Bool => ⟨[(24, bB x)], []⟩) ?_ (fun j3 => ?_)
      · refine L_split 19 decT (fun _ => ?_) (fun _ => ?_)
        · refine Av 6 [] ⟨[(24, bB true)], []⟩ ?_
          exact L_end
        · refine Av 2 [.o false (o29_1t17_22.drop 2)] ⟨[(21, lB a0.F_Neg), (19, bB false)], []⟩ ?_
          refine L_len (enc := D.bool) (l := a0.F_Neg) rfl rfl ?_
          refine Av 3 [] ⟨[(24, bB (decide ((a0.F_Neg.length : Int) > 500)))], []⟩ ?_
          exact L_end
      · refine Avk 3 [] .ret ⟨[(2, bB j3)], []⟩ ?_
        exact L_ret
/-- thrum/frame.Same. -/
def en_frame_Same (v : Bool) : PV := bB v
def o43_0 : List AOper := [⟨some 2, none, 0, .box 53 (.t 0)⟩, ⟨some 3, none, 1, .box 53 (.t 1)⟩, mb 4 2 false]
def o43_1 : List AOper := [⟨some 5, none, 100, .fieldA 0 (.t 2)⟩, ld 6 101 5, ⟨some 7, none, 102, .fieldA 1 (.t 2)⟩, ld 8 103 7, ⟨some 9, none, 104, .fieldA 2 (.t 2)⟩, ld 10 105 9, ⟨some 11, none, 106, .build [.int .i64 0, .int .i64 0, .int .i64 0] [(0, 1, .t 6), (1, 1, .t 8), (2, 1, .t 10)]⟩, ⟨some 12, none, 107, .fieldA 0 (.t 3)⟩, ld 13 108 12, ⟨some 14, none, 109, .fieldA 1 (.t 3)⟩, ld 15 110 14, ⟨some 16, none, 111, .fieldA 2 (.t 3)⟩, ld 17 112 16, ⟨some 18, none, 113, .build [.int .i64 0, .int .i64 0, .int .i64 0] [(0, 1, .t 13), (1, 1, .t 15), (2, 1, .t 17)]⟩, ⟨some 19, none, 114, .eqA false .i64 3 (.t 11) (.t 18)⟩, mv 20 115 19, ⟨some 21, some (20, true), 116, .fieldA 3 (.t 2)⟩, ⟨some 22, some (20, true), 117, .load true 8 (.t 21)⟩, ⟨some 23, some (20, true), 118, .fieldA 3 (.t 3)⟩, ⟨some 24, some (20, true), 119, .load true 8 (.t 23)⟩, ⟨some 25, some (20, true), 120, .call 82 [.t 22, .t 24]⟩, pk 26 121 20 25 false, mv 4 122 26]
def o43_1t16_22 : List AOper := (o43_1.drop 16).take 6
def c43_4 : AC := .seq (.reg o43_0) (.seq (.reg o43_1) .ret)
theorem fn43 : fnA Try.prog 43 = some (27, [.t 4], c43_4) := by kernel_rfl
theorem ok_frame_Same (a0 : T_api_Frame) (a1 : T_api_Frame) : ∀ v, M_frame_Same a0 a1 = some v → EvF Try.prog 43 [.agg [.int .i64 a0.F_Kind, .int .i64 a0.F_From, .int .i64 a0.F_Step, .int .i64 a0.F_S.F_Scheme, .int .i64 a0.F_S.F_Dim, .lst (List.map (D.int .i64) a0.F_S.F_L), .lst (List.map (D.int .i64) a0.F_S.F_V), .int .i64 a0.F_S.F_Scale, .int .i64 a0.F_S.F_Wide, .lst (List.map (D.int .u64) a0.F_S.F_Lev), .lst (List.map D.bool a0.F_S.F_Neg)], .agg [.int .i64 a1.F_Kind, .int .i64 a1.F_From, .int .i64 a1.F_Step, .int .i64 a1.F_S.F_Scheme, .int .i64 a1.F_S.F_Dim, .lst (List.map (D.int .i64) a1.F_S.F_L), .lst (List.map (D.int .i64) a1.F_S.F_V), .int .i64 a1.F_S.F_Scale, .int .i64 a1.F_S.F_Wide, .lst (List.map (D.int .u64) a1.F_S.F_Lev), .lst (List.map D.bool a1.F_S.F_Neg)]] (en_frame_Same v) := by
  intro v hv
  refine EvF_go fn43 (Nat.le_of_ble_eq_true rfl) ?_
  suffices h : Ok (M_frame_Same a0 a1) fun v => go Try.prog 27 (Fnl [.t 4] (en_frame_Same v) []) [.c c43_4] .norm (initSt (List.map PV.d [.agg [.int .i64 a0.F_Kind, .int .i64 a0.F_From, .int .i64 a0.F_Step, .int .i64 a0.F_S.F_Scheme, .int .i64 a0.F_S.F_Dim, .lst (List.map (D.int .i64) a0.F_S.F_L), .lst (List.map (D.int .i64) a0.F_S.F_V), .int .i64 a0.F_S.F_Scale, .int .i64 a0.F_S.F_Wide, .lst (List.map (D.int .u64) a0.F_S.F_Lev), .lst (List.map D.bool a0.F_S.F_Neg)], .agg [.int .i64 a1.F_Kind, .int .i64 a1.F_From, .int .i64 a1.F_Step, .int .i64 a1.F_S.F_Scheme, .int .i64 a1.F_S.F_Dim, .lst (List.map (D.int .i64) a1.F_S.F_L), .lst (List.map (D.int .i64) a1.F_S.F_V), .int .i64 a1.F_S.F_Scale, .int .i64 a1.F_S.F_Wide, .lst (List.map (D.int .u64) a1.F_S.F_Lev), .lst (List.map D.bool a1.F_S.F_Neg)]]) []) from h v hv
  unfold M_frame_Same
  refine Av 24 [.o false (o43_1.drop 16), .c .ret] ⟨[(20, bB (([a0.F_Kind, a0.F_From, a0.F_Step] : List Int) == [a1.F_Kind, a1.F_From, a1.F_Step])), (3, .ptr (.s 31) 0), (2, .ptr (.s 15) 0)], [(.s 31, [nI a1.F_Kind, nI a1.F_From, nI a1.F_Step, nI a1.F_S.F_Scheme, nI a1.F_S.F_Dim, lI a1.F_S.F_L, lI a1.F_S.F_V, nI a1.F_S.F_Scale, nI a1.F_S.F_Wide, lU a1.F_S.F_Lev, lB a1.F_S.F_Neg]), (.s 15, [nI a0.F_Kind, nI a0.F_From, nI a0.F_Step, nI a0.F_S.F_Scheme, nI a0.F_S.F_Dim, lI a0.F_S.F_L, lI a0.F_S.F_V, nI a0.F_S.F_Scale, nI a0.F_S.F_Wide, lU a0.F_S.F_Lev, lB a0.F_S.F_Neg])]⟩ ?_
  refine L_take 6 o43_1t16_22 (o43_1.drop 22) ?_
  refine L_join [.o false o43_1t16_22] [.o false (o43_1.drop 22), .c .ret] (fun x : Bool => ⟨[(26, bB x)], []⟩) ?_ (fun j2 => ?_)
  · refine L_split 20 decL (fun _ => ?_) (fun _ => ?_)
    · refine Av 4 [.o false (o43_1t16_22.drop 4)] ⟨[(24, .agg [nI a1.F_S.F_Scheme, nI a1.F_S.F_Dim, lI a1.F_S.F_L, lI a1.F_S.F_V, nI a1.F_S.F_Scale, nI a1.F_S.F_Wide, lU a1.F_S.F_Lev, lB a1.F_S.F_Neg]), (20, bB true), (22, .agg [nI a0.F_S.F_Scheme, nI a0.F_S.F_Dim, lI a0.F_S.F_L, lI a0.F_S.F_V, nI a0.F_S.F_Scale, nI a0.F_S.F_Wide, lU a0.F_S.F_Lev, lB a0.F_S.F_Neg])], []⟩ ?_
      refine L_call (ok_frame_same a0.F_S a1.F_S) rfl rfl (fun _ => rfl) (fun _ => trivial) (fun r1 => ?_)
      refine Av 2 [] ⟨[(26, bB r1)], []⟩ ?_
      exact L_end
    · refine Av 7 [] ⟨[(26, bB false)], []⟩ ?_
      exact L_end
  · refine Avk 3 [] .ret ⟨[(4, bB j2)], []⟩ ?_
    exact L_ret
/-- thrum/frame.Size. -/
def en_frame_Size (v : Int × Int) : PV := .tup [nI v.1, nI v.2]
def o44_0 : List AOper := [⟨some 1, none, 0, .box 53 (.t 0)⟩, mi 2 1 0, mi 3 2 0]
def o44_1 : List AOper := [⟨some 7, none, 100, .load true 11 (.t 1)⟩, cl' 8 101 42 [.t 7], mv 6 102 8, xt 9 103 6 0, xt 10 104 6 1, mv 4 105 9, mv 5 106 10]
def o44_2 : List AOper := [mv 11 200 4, ln 12 201 11, mv 13 202 5, mv 2 203 12, mv 3 204 13]
def c44_4 : AC := .seq (.reg o44_2) .ret
def c44_6 : AC := .seq (.reg o44_0) (.seq (.reg o44_1) c44_4)
theorem fn44 : fnA Try.prog 44 = some (14, [.t 2, .t 3], c44_6) := by kernel_rfl
theorem ok_frame_Size (a0 : T_api_Frame) : ∀ v, M_frame_Size a0 = some v → EvF Try.prog 44 [.agg [.int .i64 a0.F_Kind, .int .i64 a0.F_From, .int .i64 a0.F_Step, .int .i64 a0.F_S.F_Scheme, .int .i64 a0.F_S.F_Dim, .lst (List.map (D.int .i64) a0.F_S.F_L), .lst (List.map (D.int .i64) a0.F_S.F_V), .int .i64 a0.F_S.F_Scale, .int .i64 a0.F_S.F_Wide, .lst (List.map (D.int .u64) a0.F_S.F_Lev), .lst (List.map D.bool a0.F_S.F_Neg)]] (en_frame_Size v) := by
  intro v hv
  refine EvF_go fn44 (Nat.le_of_ble_eq_true rfl) ?_
  suffices h : Ok (M_frame_Size a0) fun v => go Try.prog 14 (Fnl [.t 2, .t 3] (en_frame_Size v) []) [.c c44_6] .norm (initSt (List.map PV.d [.agg [.int .i64 a0.F_Kind, .int .i64 a0.F_From, .int .i64 a0.F_Step, .int .i64 a0.F_S.F_Scheme, .int .i64 a0.F_S.F_Dim, .lst (List.map (D.int .i64) a0.F_S.F_L), .lst (List.map (D.int .i64) a0.F_S.F_V), .int .i64 a0.F_S.F_Scale, .int .i64 a0.F_S.F_Wide, .lst (List.map (D.int .u64) a0.F_S.F_Lev), .lst (List.map D.bool a0.F_S.F_Neg)]]) []) from h v hv
  unfold M_frame_Size
  refine Av 9 [.o false (o44_1.drop 1), .c c44_4] ⟨[(7, .agg [nI a0.F_Kind, nI a0.F_From, nI a0.F_Step, nI a0.F_S.F_Scheme, nI a0.F_S.F_Dim, lI a0.F_S.F_L, lI a0.F_S.F_V, nI a0.F_S.F_Scale, nI a0.F_S.F_Wide, lU a0.F_S.F_Lev, lB a0.F_S.F_Neg])], []⟩ ?_
  refine L_call (ok_frame_Write a0) trivial rfl (fun _ => rfl) (fun _ => ⟨(flat_map_of fun _ => trivial), trivial, trivial⟩) (fun r1 => ?_)
  refine Av 9 [.o false (o44_2.drop 1), .c .ret] ⟨[(11, sY (.s 1616) r1.1), (5, nI r1.2)], []⟩ ?_
  refine L_len (enc := D.int .u8) (l := r1.1) trivial rfl ?_
  refine Avk 5 [] .ret ⟨[(3, nI r1.2), (2, nI (r1.1.length : Int))], []⟩ ?_
  exact L_ret
/-- thrum/thrumlaw07.FrameApart. -/
def en_thrumlaw07_FrameApart (v : Bool) : PV := bB v
def o8_0 : List AOper := [⟨some 2, none, 0, .box 53 (.t 0)⟩, ⟨some 3, none, 1, .box 53 (.t 1)⟩, mb 4 2 false]
def o8_1 : List AOper := [cl' 12 100 28 [], mv 5 101 12]
def o8_2 : List AOper := [mv 13 200 5, ⟨some 14, none, 201, .un .not (.t 13)⟩]
def o8_3 : List AOper := [mb 4 300 false]
def o8_4 : List AOper := [⟨some 15, none, 400, .fieldA 3 (.t 2)⟩, ⟨some 16, none, 401, .load true 8 (.t 15)⟩, cl' 17 402 29 [.t 16], mv 18 403 17, ⟨some 19, some (18, false), 404, .fieldA 3 (.t 3)⟩, ⟨some 20, some (18, false), 405, .load true 8 (.t 19)⟩, ⟨some 21, some (18, false), 406, .call 29 [.t 20]⟩, pz 22 407 18 21 true]
def o8_5 : List AOper := [mv 23 500 5, mv 4 501 23]
def o8_6 : List AOper := [⟨some 25, none, 600, .load true 11 (.t 2)⟩, cl' 26 601 42 [.t 25], mv 24 602 26, xt 27 603 24 0, xt 28 604 24 1, mv 6 605 27, mv 7 606 28]
def o8_7 : List AOper := [⟨some 30, none, 700, .load true 11 (.t 3)⟩, cl' 31 701 42 [.t 30], mv 29 702 31, xt 32 703 29 0, xt 33 704 29 1, mv 8 705 32, mv 9 706 33]
def o8_8 : List AOper := [mv 34 800 7, bc 35 801 .eql 34 0, mv 36 802 35, gv 37 36 true 803 9, ⟨some 38, some (36, true), 804, .bin .eql .int (.t 37) (.c (.d (.int .i64 0)))⟩, pk 39 805 36 38 false, mv 40 806 39, gv 41 40 true 807 6, gv 42 40 true 808 8, ⟨some 44, some (40, true), 810, .load true 11 (.t 2)⟩, ⟨some 45, some (40, true), 811, .load true 11 (.t 3)⟩, ⟨some 43, some (40, true), 809, .call 24 [.t 41, .t 42]⟩, ⟨some 46, some (40, true), 812, .call 43 [.t 44, .t 45]⟩, ⟨some 47, some (40, true), 813, .bin .neq .bool (.t 43) (.t 46)⟩, pk 48 814 40 47 false]
def o8_9 : List AOper := [mb 4 900 false]
def o8_10 : List AOper := [mv 49 1000 7, bc 50 1001 .neq 49 0, mv 51 1002 50, gv 52 51 false 1003 6, ⟨some 53, some (51, false), 1004, .len (.t 52)⟩, ⟨some 54, some (51, false), 1005, .bin .eql .int (.t 53) (.c (.d (.int .i64 0)))⟩, pz 55 1006 51 54 true]
def o8_11 : List AOper := [mv 56 1100 5, mv 57 1101 56, gv 58 57 true 1102 7, ⟨some 59, some (57, true), 1103, .bin .eql .int (.t 58) (.c (.d (.int .i64 1)))⟩, pk 60 1104 57 59 false, mv 4 1105 60]
def o8_12 : List AOper := [⟨some 62, none, 1200, .load true 11 (.t 2)⟩, cl' 63 1201 44 [.t 62], mv 61 1202 63, xt 64 1203 61 0, xt 65 1204 61 1, mv 10 1205 64, mv 11 1206 65]
def o8_13 : List AOper := [mv 66 1300 5, mv 67 1301 66, gv 68 67 true 1302 10, gv 69 67 true 1303 6, ⟨some 70, some (67, true), 1304, .len (.t 69)⟩, ⟨some 71, some (67, true), 1305, .bin .eql .int (.t 68) (.t 70)⟩, pk 72 1306 67 71 false, mv 73 1307 72, gv 74 73 true 1308 11, ⟨some 75, some (73, true), 1309, .bin .eql .int (.t 74) (.c (.d (.int .i64 0)))⟩, pk 76 1310 73 75 false, mv 77 1311 76, ⟨some 78, some (77, true), 1312, .load true 11 (.t 2)⟩, ⟨some 79, some (77, true), 1313, .load true 11 (.t 2)⟩, ⟨some 80, some (77, true), 1314, .call 43 [.t 78, .t 79]⟩, pk 81 1315 77 80 false, mv 4 1316 81]
def o8_8g0 : List AOper := [mv 34 800 7, bc 35 801 .eql 34 0, mv 36 802 35, gv 37 36 true 803 9, ⟨some 38, some (36, true), 804, .bin .eql .int (.t 37) (.c (.d (.int .i64 0)))⟩, pk 39 805 36 38 false, mv 40 806 39, gv 41 40 true 807 6, gv 42 40 true 808 8, ⟨some 44, some (40, true), 810, .load true 11 (.t 2)⟩, ⟨some 45, some (40, true), 811, .load true 11 (.t 3)⟩, ⟨some 43, some (40, true), 809, .call 24 [.t 41, .t 42]⟩]
def h8_8g0 : List AOper := [⟨some 44, some (40, true), 810, .load true 11 (.t 2)⟩, ⟨some 45, some (40, true), 811, .load true 11 (.t 3)⟩]
def o8_8g1 : List AOper := [⟨some 46, some (40, true), 812, .call 43 [.t 44, .t 45]⟩, ⟨some 47, some (40, true), 813, .bin .neq .bool (.t 43) (.t 46)⟩, pk 48 814 40 47 false]
def o8_4t4_8 : List AOper := (o8_4.drop 4).take 4
def o8_10t3_7 : List AOper := (o8_10.drop 3).take 4
def o8_11t2_5 : List AOper := (o8_11.drop 2).take 3
def o8_13t2_7 : List AOper := (o8_13.drop 2).take 5
def o8_13t8_11 : List AOper := (o8_13.drop 8).take 3
def o8_13t12_16 : List AOper := (o8_13.drop 12).take 4
def c8_7 : AC := .cond (.t 14) (.seq (.reg o8_3) .ret) .skip
def c8_14 : AC := .cond (.t 22) (.seq (.reg o8_5) .ret) .skip
def c8_18 : AC := .draw [⟨mv 34 800 7, false, []⟩, ⟨bc 35 801 .eql 34 0, false, []⟩, ⟨mv 36 802 35, false, []⟩, ⟨gv 37 36 true 803 9, false, []⟩, ⟨⟨some 38, some (36, true), 804, .bin .eql .int (.t 37) (.c (.d (.int .i64 0)))⟩, false, []⟩, ⟨pk 39 805 36 38 false, false, []⟩, ⟨mv 40 806 39, false, []⟩, ⟨gv 41 40 true 807 6, false, []⟩, ⟨gv 42 40 true 808 8, false, []⟩, ⟨⟨some 44, some (40, true), 810, .load true 11 (.t 2)⟩, false, []⟩, ⟨⟨some 45, some (40, true), 811, .load true 11 (.t 3)⟩, false, []⟩, ⟨⟨some 43, some (40, true), 809, .call 24 [.t 41, .t 42]⟩, true, [⟨some 44, some (40, true), 810, .load true 11 (.t 2)⟩, ⟨some 45, some (40, true), 811, .load true 11 (.t 3)⟩]⟩, ⟨⟨some 46, some (40, true), 812, .call 43 [.t 44, .t 45]⟩, true, []⟩, ⟨⟨some 47, some (40, true), 813, .bin .neq .bool (.t 43) (.t 46)⟩, false, []⟩, ⟨pk 48 814 40 47 false, false, []⟩]
def c8_23 : AC := .cond (.t 48) (.seq (.reg o8_9) .ret) .skip
def c8_30 : AC := .cond (.t 55) (.seq (.reg o8_11) .ret) .skip
def c8_35 : AC := .seq (.reg o8_13) .ret
def c8_36 : AC := .seq (.reg o8_12) c8_35
def c8_37 : AC := .seq (.seq (.reg o8_10) c8_30) c8_36
def c8_38 : AC := .seq (.seq c8_18 c8_23) c8_37
def c8_39 : AC := .seq (.reg o8_7) c8_38
def c8_40 : AC := .seq (.reg o8_6) c8_39
def c8_41 : AC := .seq (.seq (.reg o8_4) c8_14) c8_40
def c8_42 : AC := .seq (.seq (.reg o8_2) c8_7) c8_41
def c8_44 : AC := .seq (.reg o8_0) (.seq (.reg o8_1) c8_42)
theorem fn8 : fnA Try.prog 8 = some (82, [.t 4], c8_44) := by kernel_rfl
theorem ok_thrumlaw07_FrameApart (a0 : T_api_Frame) (a1 : T_api_Frame) : ∀ v, M_thrumlaw07_FrameApart a0 a1 = some v → EvF Try.prog 8 [.agg [.int .i64 a0.F_Kind, .int .i64 a0.F_From, .int .i64 a0.F_Step, .int .i64 a0.F_S.F_Scheme, .int .i64 a0.F_S.F_Dim, .lst (List.map (D.int .i64) a0.F_S.F_L), .lst (List.map (D.int .i64) a0.F_S.F_V), .int .i64 a0.F_S.F_Scale, .int .i64 a0.F_S.F_Wide, .lst (List.map (D.int .u64) a0.F_S.F_Lev), .lst (List.map D.bool a0.F_S.F_Neg)], .agg [.int .i64 a1.F_Kind, .int .i64 a1.F_From, .int .i64 a1.F_Step, .int .i64 a1.F_S.F_Scheme, .int .i64 a1.F_S.F_Dim, .lst (List.map (D.int .i64) a1.F_S.F_L), .lst (List.map (D.int .i64) a1.F_S.F_V), .int .i64 a1.F_S.F_Scale, .int .i64 a1.F_S.F_Wide, .lst (List.map (D.int .u64) a1.F_S.F_Lev), .lst (List.map D.bool a1.F_S.F_Neg)]] (en_thrumlaw07_FrameApart v) := by
  intro v hv
  refine EvF_go fn8 (Nat.le_of_ble_eq_true rfl) ?_
  suffices h : Ok (M_thrumlaw07_FrameApart a0 a1) fun v => go Try.prog 82 (Fnl [.t 4] (en_thrumlaw07_FrameApart v) []) [.c c8_44] .norm (initSt (List.map PV.d [.agg [.int .i64 a0.F_Kind, .int .i64 a0.F_From, .int .i64 a0.F_Step, .int .i64 a0.F_S.F_Scheme, .int .i64 a0.F_S.F_Dim, .lst (List.map (D.int .i64) a0.F_S.F_L), .lst (List.map (D.int .i64) a0.F_S.F_V), .int .i64 a0.F_S.F_Scale, .int .i64 a0.F_S.F_Wide, .lst (List.map (D.int .u64) a0.F_S.F_Lev), .lst (List.map D.bool a0.F_S.F_Neg)], .agg [.int .i64 a1.F_Kind, .int .i64 a1.F_From, .int .i64 a1.F_Step, .int .i64 a1.F_S.F_Scheme, .int .i64 a1.F_S.F_Dim, .lst (List.map (D.int .i64) a1.F_S.F_L), .lst (List.map (D.int .i64) a1.F_S.F_V), .int .i64 a1.F_S.F_Scale, .int .i64 a1.F_S.F_Wide, .lst (List.map (D.int .u64) a1.F_S.F_Lev), .lst (List.map D.bool a1.F_S.F_Neg)]]) []) from h v hv
  unfold M_thrumlaw07_FrameApart
  refine Av 8 [.o false o8_1, .c c8_42] ⟨[(3, .ptr (.s 31) 0), (2, .ptr (.s 15) 0)], [(.s 31, [nI a1.F_Kind, nI a1.F_From, nI a1.F_Step, nI a1.F_S.F_Scheme, nI a1.F_S.F_Dim, lI a1.F_S.F_L, lI a1.F_S.F_V, nI a1.F_S.F_Scale, nI a1.F_S.F_Wide, lU a1.F_S.F_Lev, lB a1.F_S.F_Neg]), (.s 15, [nI a0.F_Kind, nI a0.F_From, nI a0.F_Step, nI a0.F_S.F_Scheme, nI a0.F_S.F_Dim, lI a0.F_S.F_L, lI a0.F_S.F_V, nI a0.F_S.F_Scale, nI a0.F_S.F_Wide, lU a0.F_S.F_Lev, lB a0.F_S.F_Neg])]⟩ ?_
  refine L_call (ok_thrumlaw07_live) trivial rfl (fun _ => rfl) (fun _ => trivial) (fun r1 => ?_)
  refine Av 8 [.c c8_7, .c c8_41] ⟨[(14, bB (!r1)), (5, bB r1), (3, .ptr (.s 31) 0), (2, .ptr (.s 15) 0)], [(.s 31, [nI a1.F_Kind, nI a1.F_From, nI a1.F_Step, nI a1.F_S.F_Scheme, nI a1.F_S.F_Dim, lI a1.F_S.F_L, lI a1.F_S.F_V, nI a1.F_S.F_Scale, nI a1.F_S.F_Wide, lU a1.F_S.F_Lev, lB a1.F_S.F_Neg]), (.s 15, [nI a0.F_Kind, nI a0.F_From, nI a0.F_Step, nI a0.F_S.F_Scheme, nI a0.F_S.F_Dim, lI a0.F_S.F_L, lI a0.F_S.F_V, nI a0.F_S.F_Scale, nI a0.F_S.F_Wide, lU a0.F_S.F_Lev, lB a0.F_S.F_Neg])]⟩ ?_
  refine L_split 14 decF (fun _ => ?_) (fun _ => ?_)
  · refine Avk 7 [] .ret ⟨[(4, bB false)], []⟩ ?_
    exact L_ret
  · refine Av 7 [.o false (o8_4.drop 2), .c c8_14, .c c8_40] ⟨[(16, .agg [nI a0.F_S.F_Scheme, nI a0.F_S.F_Dim, lI a0.F_S.F_L, lI a0.F_S.F_V, nI a0.F_S.F_Scale, nI a0.F_S.F_Wide, lU a0.F_S.F_Lev, lB a0.F_S.F_Neg]), (5, bB r1), (3, .ptr (.s 31) 0), (2, .ptr (.s 15) 0)], [(.s 31, [nI a1.F_Kind, nI a1.F_From, nI a1.F_Step, nI a1.F_S.F_Scheme, nI a1.F_S.F_Dim, lI a1.F_S.F_L, lI a1.F_S.F_V, nI a1.F_S.F_Scale, nI a1.F_S.F_Wide, lU a1.F_S.F_Lev, lB a1.F_S.F_Neg]), (.s 15, [nI a0.F_Kind, nI a0.F_From, nI a0.F_Step, nI a0.F_S.F_Scheme, nI a0.F_S.F_Dim, lI a0.F_S.F_L, lI a0.F_S.F_V, nI a0.F_S.F_Scale, nI a0.F_S.F_Wide, lU a0.F_S.F_Lev, lB a0.F_S.F_Neg])]⟩ ?_
    refine L_call (ok_thrumref07_Big a0.F_S) trivial rfl (fun _ => rfl) (fun _ => trivial) (fun r2 => ?_)
    refine Av 1 [.o false (o8_4.drop 4), .c c8_14, .c c8_40] ⟨[(18, bB r2), (5, bB r1), (3, .ptr (.s 31) 0), (2, .ptr (.s 15) 0)], [(.s 31, [nI a1.F_Kind, nI a1.F_From, nI a1.F_Step, nI a1.F_S.F_Scheme, nI a1.F_S.F_Dim, lI a1.F_S.F_L, lI a1.F_S.F_V, nI a1.F_S.F_Scale, nI a1.F_S.F_Wide, lU a1.F_S.F_Lev, lB a1.F_S.F_Neg]), (.s 15, [nI a0.F_Kind, nI a0.F_From, nI a0.F_Step, nI a0.F_S.F_Scheme, nI a0.F_S.F_Dim, lI a0.F_S.F_L, lI a0.F_S.F_V, nI a0.F_S.F_Scale, nI a0.F_S.F_Wide, lU a0.F_S.F_Lev, lB a0.F_S.F_Neg])]⟩ ?_
    refine L_take 4 o8_4t4_8 (o8_4.drop 8) ?_
    refine L_join [.o false o8_4t4_8] [.o false (o8_4.drop 8), .c c8_14, .c c8_40] (fun x : Bool => ⟨[(22, bB x), (5, bB r1), (3, .ptr (.s 31) 0), (2, .ptr (.s 15) 0)], [(.s 31, [nI a1.F_Kind, nI a1.F_From, nI a1.F_Step, nI a1.F_S.F_Scheme, nI a1.F_S.F_Dim, lI a1.F_S.F_L, lI a1.F_S.F_V, nI a1.F_S.F_Scale, nI a1.F_S.F_Wide, lU a1.F_S.F_Lev, lB a1.F_S.F_Neg]), (.s 15, [nI a0.F_Kind, nI a0.F_From, nI a0.F_Step, nI a0.F_S.F_Scheme, nI a0.F_S.F_Dim, lI a0.F_S.F_L, lI a0.F_S.F_V, nI a0.F_S.F_Scale, nI a0.F_S.F_Wide, lU a0.F_S.F_Lev, lB a0.F_S.F_Neg])]⟩) ?_ (fun j4 => ?_)
    · refine L_split 18 decT (fun _ => ?_) (fun _ => ?_)
      · refine Av 5 [] ⟨[(22, bB true), (5, bB r1), (3, .ptr (.s 31) 0), (2, .ptr (.s 15) 0)], [(.s 31, [nI a1.F_Kind, nI a1.F_From, nI a1.F_Step, nI a1.F_S.F_Scheme, nI a1.F_S.F_Dim, lI a1.F_S.F_L, lI a1.F_S.F_V, nI a1.F_S.F_Scale, nI a1.F_S.F_Wide, lU a1.F_S.F_Lev, lB a1.F_S.F_Neg]), (.s 15, [nI a0.F_Kind, nI a0.F_From, nI a0.F_Step, nI a0.F_S.F_Scheme, nI a0.F_S.F_Dim, lI a0.F_S.F_L, lI a0.F_S.F_V, nI a0.F_S.F_Scale, nI a0.F_S.F_Wide, lU a0.F_S.F_Lev, lB a0.F_S.F_Neg])]⟩ ?_
        exact L_end
      · refine Av 2 [.o false (o8_4t4_8.drop 2)] ⟨[(20, .agg [nI a1.F_S.F_Scheme, nI a1.F_S.F_Dim, lI a1.F_S.F_L, lI a1.F_S.F_V, nI a1.F_S.F_Scale, nI a1.F_S.F_Wide, lU a1.F_S.F_Lev, lB a1.F_S.F_Neg]), (18, bB false), (5, bB r1), (3, .ptr (.s 31) 0), (2, .ptr (.s 15) 0)], [(.s 31, [nI a1.F_Kind, nI a1.F_From, nI a1.F_Step, nI a1.F_S.F_Scheme, nI a1.F_S.F_Dim, lI a1.F_S.F_L, lI a1.F_S.F_V, nI a1.F_S.F_Scale, nI a1.F_S.F_Wide, lU a1.F_S.F_Lev, lB a1.F_S.F_Neg]), (.s 15, [nI a0.F_Kind, nI a0.F_From, nI a0.F_Step, nI a0.F_S.F_Scheme, nI a0.F_S.F_Dim, lI a0.F_S.F_L, lI a0.F_S.F_V, nI a0.F_S.F_Scale, nI a0.F_S.F_Wide, lU a0.F_S.F_Lev, lB a0.F_S.F_Neg])]⟩ ?_
        refine L_call (ok_thrumref07_Big a1.F_S) rfl rfl (fun _ => rfl) (fun _ => trivial) (fun r3 => ?_)
        refine Av 2 [] ⟨[(22, bB r3), (5, bB r1), (3, .ptr (.s 31) 0), (2, .ptr (.s 15) 0)], [(.s 31, [nI a1.F_Kind, nI a1.F_From, nI a1.F_Step, nI a1.F_S.F_Scheme, nI a1.F_S.F_Dim, lI a1.F_S.F_L, lI a1.F_S.F_V, nI a1.F_S.F_Scale, nI a1.F_S.F_Wide, lU a1.F_S.F_Lev, lB a1.F_S.F_Neg]), (.s 15, [nI a0.F_Kind, nI a0.F_From, nI a0.F_Step, nI a0.F_S.F_Scheme, nI a0.F_S.F_Dim, lI a0.F_S.F_L, lI a0.F_S.F_V, nI a0.F_S.F_Scale, nI a0.F_S.F_Wide, lU a0.F_S.F_Lev, lB a0.F_S.F_Neg])]⟩ ?_
        exact L_end
    · refine Av 1 [.c c8_14, .c c8_40] ⟨[(22, bB j4), (5, bB r1), (3, .ptr (.s 31) 0), (2, .ptr (.s 15) 0)], [(.s 31, [nI a1.F_Kind, nI a1.F_From, nI a1.F_Step, nI a1.F_S.F_Scheme, nI a1.F_S.F_Dim, lI a1.F_S.F_L, lI a1.F_S.F_V, nI a1.F_S.F_Scale, nI a1.F_S.F_Wide, lU a1.F_S.F_Lev, lB a1.F_S.F_Neg]), (.s 15, [nI a0.F_Kind, nI a0.F_From, nI a0.F_Step, nI a0.F_S.F_Scheme, nI a0.F_S.F_Dim, lI a0.F_S.F_L, lI a0.F_S.F_V, nI a0.F_S.F_Scale, nI a0.F_S.F_Wide, lU a0.F_S.F_Lev, lB a0.F_S.F_Neg])]⟩ ?_
      refine L_split 22 decT (fun _ => ?_) (fun _ => ?_)
      · refine Avk 8 [] .ret ⟨[(4, bB r1)], []⟩ ?_
        exact L_ret
      · refine Av 5 [.o false (o8_6.drop 1), .c c8_39] ⟨[(25, .agg [nI a0.F_Kind, nI a0.F_From, nI a0.F_Step, nI a0.F_S.F_Scheme, nI a0.F_S.F_Dim, lI a0.F_S.F_L, lI a0.F_S.F_V, nI a0.F_S.F_Scale, nI a0.F_S.F_Wide, lU a0.F_S.F_Lev, lB a0.F_S.F_Neg]), (5, bB r1), (3, .ptr (.s 31) 0), (2, .ptr (.s 15) 0)], [(.s 31, [nI a1.F_Kind, nI a1.F_From, nI a1.F_Step, nI a1.F_S.F_Scheme, nI a1.F_S.F_Dim, lI a1.F_S.F_L, lI a1.F_S.F_V, nI a1.F_S.F_Scale, nI a1.F_S.F_Wide, lU a1.F_S.F_Lev, lB a1.F_S.F_Neg]), (.s 15, [nI a0.F_Kind, nI a0.F_From, nI a0.F_Step, nI a0.F_S.F_Scheme, nI a0.F_S.F_Dim, lI a0.F_S.F_L, lI a0.F_S.F_V, nI a0.F_S.F_Scale, nI a0.F_S.F_Wide, lU a0.F_S.F_Lev, lB a0.F_S.F_Neg])]⟩ ?_
        refine L_call (ok_frame_Write a0) trivial rfl (fun _ => rfl) (fun _ => ⟨(flat_map_of fun _ => trivial), trivial, trivial⟩) (fun r5 => ?_)
        refine Av 9 [.o false (o8_7.drop 1), .c c8_38] ⟨[(30, .agg [nI a1.F_Kind, nI a1.F_From, nI a1.F_Step, nI a1.F_S.F_Scheme, nI a1.F_S.F_Dim, lI a1.F_S.F_L, lI a1.F_S.F_V, nI a1.F_S.F_Scale, nI a1.F_S.F_Wide, lU a1.F_S.F_Lev, lB a1.F_S.F_Neg]), (7, nI r5.2), (6, sY (.s 9616) r5.1), (5, bB r1), (3, .ptr (.s 31) 0), (2, .ptr (.s 15) 0)], [(.s 31, [nI a1.F_Kind, nI a1.F_From, nI a1.F_Step, nI a1.F_S.F_Scheme, nI a1.F_S.F_Dim, lI a1.F_S.F_L, lI a1.F_S.F_V, nI a1.F_S.F_Scale, nI a1.F_S.F_Wide, lU a1.F_S.F_Lev, lB a1.F_S.F_Neg]), (.s 15, [nI a0.F_Kind, nI a0.F_From, nI a0.F_Step, nI a0.F_S.F_Scheme, nI a0.F_S.F_Dim, lI a0.F_S.F_L, lI a0.F_S.F_V, nI a0.F_S.F_Scale, nI a0.F_S.F_Wide, lU a0.F_S.F_Lev, lB a0.F_S.F_Neg])]⟩ ?_
        refine L_call (ok_frame_Write a1) trivial rfl (fun _ => rfl) (fun _ => ⟨(flat_map_of fun _ => trivial), trivial, trivial⟩) (fun r6 => ?_)
        refine Av 8 [.c c8_18, .c c8_23, .c c8_37] ⟨[(9, nI r6.2), (8, sY (.s 11216) r6.1), (7, nI r5.2), (6, sY (.s 9616) r5.1), (5, bB r1), (3, .ptr (.s 31) 0), (2, .ptr (.s 15) 0)], [(.s 31, [nI a1.F_Kind, nI a1.F_From, nI a1.F_Step, nI a1.F_S.F_Scheme, nI a1.F_S.F_Dim, lI a1.F_S.F_L, lI a1.F_S.F_V, nI a1.F_S.F_Scale, nI a1.F_S.F_Wide, lU a1.F_S.F_Lev, lB a1.F_S.F_Neg]), (.s 15, [nI a0.F_Kind, nI a0.F_From, nI a0.F_Step, nI a0.F_S.F_Scheme, nI a0.F_S.F_Dim, lI a0.F_S.F_L, lI a0.F_S.F_V, nI a0.F_S.F_Scale, nI a0.F_S.F_Wide, lU a0.F_S.F_Lev, lB a0.F_S.F_Neg])]⟩ ?_
        refine Ae 4 [.o true (o8_8g0.drop 3), .h h8_8g0, .o true o8_8g1, .h [], .c c8_23, .c c8_37] ⟨[(36, bB (r5.2 == 0)), (35, bB (r5.2 == 0)), (34, nI r5.2), (9, nI r6.2), (8, sY (.s 11216) r6.1), (7, nI r5.2), (6, sY (.s 9616) r5.1), (5, bB r1), (3, .ptr (.s 31) 0), (2, .ptr (.s 15) 0)], [(.s 31, [nI a1.F_Kind, nI a1.F_From, nI a1.F_Step, nI a1.F_S.F_Scheme, nI a1.F_S.F_Dim, lI a1.F_S.F_L, lI a1.F_S.F_V, nI a1.F_S.F_Scale, nI a1.F_S.F_Wide, lU a1.F_S.F_Lev, lB a1.F_S.F_Neg]), (.s 15, [nI a0.F_Kind, nI a0.F_From, nI a0.F_Step, nI a0.F_S.F_Scheme, nI a0.F_S.F_Dim, lI a0.F_S.F_L, lI a0.F_S.F_V, nI a0.F_S.F_Scale, nI a0.F_S.F_Wide, lU a0.F_S.F_Lev, lB a0.F_S.F_Neg])]⟩ ?_
        refine L_splitE (b := r5.2 == 0) (fun z => ⟨[(36, bB z), (35, bB (r5.2 == 0)), (34, nI r5.2), (9, nI r6.2), (8, sY (.s 11216) r6.1), (7, nI r5.2), (6, sY (.s 9616) r5.1), (5, bB r1), (3, .ptr (.s 31) 0), (2, .ptr (.s 15) 0)], [(.s 31, [nI a1.F_Kind, nI a1.F_From, nI a1.F_Step, nI a1.F_S.F_Scheme, nI a1.F_S.F_Dim, lI a1.F_S.F_L, lI a1.F_S.F_V, nI a1.F_S.F_Scale, nI a1.F_S.F_Wide, lU a1.F_S.F_Lev, lB a1.F_S.F_Neg]), (.s 15, [nI a0.F_Kind, nI a0.F_From, nI a0.F_Step, nI a0.F_S.F_Scheme, nI a0.F_S.F_Dim, lI a0.F_S.F_L, lI a0.F_S.F_V, nI a0.F_S.F_Scale, nI a0.F_S.F_Wide, lU a0.F_S.F_Lev, lB a0.F_S.F_Neg])]⟩) decE (fun _ => ?_) (fun _ => ?_)
        · refine Ae 4 [.o true (o8_8g0.drop 7), .h h8_8g0, .o true o8_8g1, .h [], .c c8_23, .c c8_37] ⟨[(40, bB (r6.2 == 0)), (39, bB (r6.2 == 0)), (38, bB (r6.2 == 0)), (36, bB true), (37, nI r6.2), (35, bB (r5.2 == 0)), (34, nI r5.2), (9, nI r6.2), (8, sY (.s 11216) r6.1), (7, nI r5.2), (6, sY (.s 9616) r5.1), (5, bB r1), (3, .ptr (.s 31) 0), (2, .ptr (.s 15) 0)], [(.s 31, [nI a1.F_Kind, nI a1.F_From, nI a1.F_Step, nI a1.F_S.F_Scheme, nI a1.F_S.F_Dim, lI a1.F_S.F_L, lI a1.F_S.F_V, nI a1.F_S.F_Scale, nI a1.F_S.F_Wide, lU a1.F_S.F_Lev, lB a1.F_S.F_Neg]), (.s 15, [nI a0.F_Kind, nI a0.F_From, nI a0.F_Step, nI a0.F_S.F_Scheme, nI a0.F_S.F_Dim, lI a0.F_S.F_L, lI a0.F_S.F_V, nI a0.F_S.F_Scale, nI a0.F_S.F_Wide, lU a0.F_S.F_Lev, lB a0.F_S.F_Neg])]⟩ ?_
          refine L_splitE (b := r6.2 == 0) (fun z => ⟨[(40, bB z), (39, bB (r6.2 == 0)), (38, bB (r6.2 == 0)), (36, bB true), (37, nI r6.2), (35, bB (r5.2 == 0)), (34, nI r5.2), (9, nI r6.2), (8, sY (.s 11216) r6.1), (7, nI r5.2), (6, sY (.s 9616) r5.1), (5, bB r1), (3, .ptr (.s 31) 0), (2, .ptr (.s 15) 0)], [(.s 31, [nI a1.F_Kind, nI a1.F_From, nI a1.F_Step, nI a1.F_S.F_Scheme, nI a1.F_S.F_Dim, lI a1.F_S.F_L, lI a1.F_S.F_V, nI a1.F_S.F_Scale, nI a1.F_S.F_Wide, lU a1.F_S.F_Lev, lB a1.F_S.F_Neg]), (.s 15, [nI a0.F_Kind, nI a0.F_From, nI a0.F_Step, nI a0.F_S.F_Scheme, nI a0.F_S.F_Dim, lI a0.F_S.F_L, lI a0.F_S.F_V, nI a0.F_S.F_Scale, nI a0.F_S.F_Wide, lU a0.F_S.F_Lev, lB a0.F_S.F_Neg])]⟩) decE (fun _ => ?_) (fun _ => ?_)
          · refine Ae 4 [.o true (o8_8g0.drop 11), .h h8_8g0, .o true o8_8g1, .h [], .c c8_23, .c c8_37] ⟨[(45, .agg [nI a1.F_Kind, nI a1.F_From, nI a1.F_Step, nI a1.F_S.F_Scheme, nI a1.F_S.F_Dim, lI a1.F_S.F_L, lI a1.F_S.F_V, nI a1.F_S.F_Scale, nI a1.F_S.F_Wide, lU a1.F_S.F_Lev, lB a1.F_S.F_Neg]), (40, bB true), (44, .agg [nI a0.F_Kind, nI a0.F_From, nI a0.F_Step, nI a0.F_S.F_Scheme, nI a0.F_S.F_Dim, lI a0.F_S.F_L, lI a0.F_S.F_V, nI a0.F_S.F_Scale, nI a0.F_S.F_Wide, lU a0.F_S.F_Lev, lB a0.F_S.F_Neg]), (42, sY (.s 11216) r6.1), (41, sY (.s 9616) r5.1), (39, bB (r6.2 == 0)), (38, bB (r6.2 == 0)), (36, bB true), (37, nI r6.2), (35, bB (r5.2 == 0)), (34, nI r5.2), (9, nI r6.2), (8, sY (.s 11216) r6.1), (7, nI r5.2), (6, sY (.s 9616) r5.1), (5, bB r1), (3, .ptr (.s 31) 0), (2, .ptr (.s 15) 0)], [(.s 31, [nI a1.F_Kind, nI a1.F_From, nI a1.F_Step, nI a1.F_S.F_Scheme, nI a1.F_S.F_Dim, lI a1.F_S.F_L, lI a1.F_S.F_V, nI a1.F_S.F_Scale, nI a1.F_S.F_Wide, lU a1.F_S.F_Lev, lB a1.F_S.F_Neg]), (.s 15, [nI a0.F_Kind, nI a0.F_From, nI a0.F_Step, nI a0.F_S.F_Scheme, nI a0.F_S.F_Dim, lI a0.F_S.F_L, lI a0.F_S.F_V, nI a0.F_S.F_Scale, nI a0.F_S.F_Wide, lU a0.F_S.F_Lev, lB a0.F_S.F_Neg])]⟩ ?_
            refine L_call (ok_thrumref03_Same r5.1 r6.1) rfl rfl (fun _ => rfl) (fun _ => trivial) (fun r62 => ?_)
            refine Ae 1 [.h h8_8g0, .o true o8_8g1, .h [], .c c8_23, .c c8_37] ⟨[(43, bB r62), (40, bB true), (45, .agg [nI a1.F_Kind, nI a1.F_From, nI a1.F_Step, nI a1.F_S.F_Scheme, nI a1.F_S.F_Dim, lI a1.F_S.F_L, lI a1.F_S.F_V, nI a1.F_S.F_Scale, nI a1.F_S.F_Wide, lU a1.F_S.F_Lev, lB a1.F_S.F_Neg]), (44, .agg [nI a0.F_Kind, nI a0.F_From, nI a0.F_Step, nI a0.F_S.F_Scheme, nI a0.F_S.F_Dim, lI a0.F_S.F_L, lI a0.F_S.F_V, nI a0.F_S.F_Scale, nI a0.F_S.F_Wide, lU a0.F_S.F_Lev, lB a0.F_S.F_Neg]), (42, sY (.s 11216) r6.1), (41, sY (.s 9616) r5.1), (39, bB (r6.2 == 0)), (38, bB (r6.2 == 0)), (36, bB true), (37, nI r6.2), (35, bB (r5.2 == 0)), (34, nI r5.2), (9, nI r6.2), (8, sY (.s 11216) r6.1), (7, nI r5.2), (6, sY (.s 9616) r5.1), (5, bB r1), (3, .ptr (.s 31) 0), (2, .ptr (.s 15) 0)], [(.s 31, [nI a1.F_Kind, nI a1.F_From, nI a1.F_Step, nI a1.F_S.F_Scheme, nI a1.F_S.F_Dim, lI a1.F_S.F_L, lI a1.F_S.F_V, nI a1.F_S.F_Scale, nI a1.F_S.F_Wide, lU a1.F_S.F_Lev, lB a1.F_S.F_Neg]), (.s 15, [nI a0.F_Kind, nI a0.F_From, nI a0.F_Step, nI a0.F_S.F_Scheme, nI a0.F_S.F_Dim, lI a0.F_S.F_L, lI a0.F_S.F_V, nI a0.F_S.F_Scale, nI a0.F_S.F_Wide, lU a0.F_S.F_Lev, lB a0.F_S.F_Neg])]⟩ ?_
            refine L_hold ⟨hC (.agg [nI a0.F_Kind, nI a0.F_From, nI a0.F_Step, nI a0.F_S.F_Scheme, nI a0.F_S.F_Dim, lI a0.F_S.F_L, lI a0.F_S.F_V, nI a0.F_S.F_Scale, nI a0.F_S.F_Wide, lU a0.F_S.F_Lev, lB a0.F_S.F_Neg]) rfl, hC (.agg [nI a1.F_Kind, nI a1.F_From, nI a1.F_Step, nI a1.F_S.F_Scheme, nI a1.F_S.F_Dim, lI a1.F_S.F_L, lI a1.F_S.F_V, nI a1.F_S.F_Scale, nI a1.F_S.F_Wide, lU a1.F_S.F_Lev, lB a1.F_S.F_Neg]) rfl, trivial⟩ ?_
            refine Ae 0 [.o true o8_8g1, .h [], .c c8_23, .c c8_37] ⟨[(43, bB r62), (40, bB true), (45, .agg [nI a1.F_Kind, nI a1.F_From, nI a1.F_Step, nI a1.F_S.F_Scheme, nI a1.F_S.F_Dim, lI a1.F_S.F_L, lI a1.F_S.F_V, nI a1.F_S.F_Scale, nI a1.F_S.F_Wide, lU a1.F_S.F_Lev, lB a1.F_S.F_Neg]), (44, .agg [nI a0.F_Kind, nI a0.F_From, nI a0.F_Step, nI a0.F_S.F_Scheme, nI a0.F_S.F_Dim, lI a0.F_S.F_L, lI a0.F_S.F_V, nI a0.F_S.F_Scale, nI a0.F_S.F_Wide, lU a0.F_S.F_Lev, lB a0.F_S.F_Neg]), (42, sY (.s 11216) r6.1), (41, sY (.s 9616) r5.1), (39, bB (r6.2 == 0)), (38, bB (r6.2 == 0)), (36, bB true), (37, nI r6.2), (35, bB (r5.2 == 0)), (34, nI r5.2), (9, nI r6.2), (8, sY (.s 11216) r6.1), (7, nI r5.2), (6, sY (.s 9616) r5.1), (5, bB r1), (3, .ptr (.s 31) 0), (2, .ptr (.s 15) 0)], [(.s 31, [nI a1.F_Kind, nI a1.F_From, nI a1.F_Step, nI a1.F_S.F_Scheme, nI a1.F_S.F_Dim, lI a1.F_S.F_L, lI a1.F_S.F_V, nI a1.F_S.F_Scale, nI a1.F_S.F_Wide, lU a1.F_S.F_Lev, lB a1.F_S.F_Neg]), (.s 15, [nI a0.F_Kind, nI a0.F_From, nI a0.F_Step, nI a0.F_S.F_Scheme, nI a0.F_S.F_Dim, lI a0.F_S.F_L, lI a0.F_S.F_V, nI a0.F_S.F_Scale, nI a0.F_S.F_Wide, lU a0.F_S.F_Lev, lB a0.F_S.F_Neg])]⟩ ?_
            refine L_call (ok_frame_Same a0 a1) rfl rfl (fun _ => rfl) (fun _ => trivial) (fun r63 => ?_)
            refine Av 4 [.c c8_23, .c c8_37] ⟨[(48, bB (!(r62 == r63))), (7, nI r5.2), (6, sY (.s 9616) r5.1), (5, bB r1), (2, .ptr (.s 15) 0)], [(.s 15, [nI a0.F_Kind, nI a0.F_From, nI a0.F_Step, nI a0.F_S.F_Scheme, nI a0.F_S.F_Dim, lI a0.F_S.F_L, lI a0.F_S.F_V, nI a0.F_S.F_Scale, nI a0.F_S.F_Wide, lU a0.F_S.F_Lev, lB a0.F_S.F_Neg])]⟩ ?_
            refine L_split 48 decBn (fun _ => ?_) (fun _ => ?_)
            · refine Avk 7 [] .ret ⟨[(4, bB false)], []⟩ ?_
              exact L_ret
            · refine Av 8 [.o false (o8_10.drop 3), .c c8_30, .c c8_36] ⟨[(51, bB (r5.2 != 0)), (7, nI r5.2), (6, sY (.s 9616) r5.1), (5, bB r1), (2, .ptr (.s 15) 0)], [(.s 15, [nI a0.F_Kind, nI a0.F_From, nI a0.F_Step, nI a0.F_S.F_Scheme, nI a0.F_S.F_Dim, lI a0.F_S.F_L, lI a0.F_S.F_V, nI a0.F_S.F_Scale, nI a0.F_S.F_Wide, lU a0.F_S.F_Lev, lB a0.F_S.F_Neg])]⟩ ?_
              refine L_take 4 o8_10t3_7 (o8_10.drop 7) ?_
              refine L_join [.o false o8_10t3_7] [.o false (o8_10.drop 7), .c c8_30, .c c8_36] (fun x : Bool => ⟨[(55, bB x), (7, nI r5.2), (6, sY (.s 9616) r5.1), (5, bB r1), (2, .ptr (.s 15) 0)], [(.s 15, [nI a0.F_Kind, nI a0.F_From, nI a0.F_Step, nI a0.F_S.F_Scheme, nI a0.F_S.F_Dim, lI a0.F_S.F_L, lI a0.F_S.F_V, nI a0.F_S.F_Scale, nI a0.F_S.F_Wide, lU a0.F_S.F_Lev, lB a0.F_S.F_Neg])]⟩) ?_ (fun j64 => ?_)
              · refine L_split 51 decNe (fun _ => ?_) (fun _ => ?_)
                · refine Av 5 [] ⟨[(55, bB true), (7, nI r5.2), (6, sY (.s 9616) r5.1), (5, bB r1), (2, .ptr (.s 15) 0)], [(.s 15, [nI a0.F_Kind, nI a0.F_From, nI a0.F_Step, nI a0.F_S.F_Scheme, nI a0.F_S.F_Dim, lI a0.F_S.F_L, lI a0.F_S.F_V, nI a0.F_S.F_Scale, nI a0.F_S.F_Wide, lU a0.F_S.F_Lev, lB a0.F_S.F_Neg])]⟩ ?_
                  exact L_end
                · refine Av 1 [.o false (o8_10t3_7.drop 1)] ⟨[(52, sY (.s 9616) r5.1), (51, bB false), (7, nI r5.2), (6, sY (.s 9616) r5.1), (5, bB r1), (2, .ptr (.s 15) 0)], [(.s 15, [nI a0.F_Kind, nI a0.F_From, nI a0.F_Step, nI a0.F_S.F_Scheme, nI a0.F_S.F_Dim, lI a0.F_S.F_L, lI a0.F_S.F_V, nI a0.F_S.F_Scale, nI a0.F_S.F_Wide, lU a0.F_S.F_Lev, lB a0.F_S.F_Neg])]⟩ ?_
                  refine L_len (enc := D.int .u8) (l := r5.1) rfl rfl ?_
                  refine Av 3 [] ⟨[(55, bB ((r5.1.length : Int) == 0)), (7, nI r5.2), (6, sY (.s 9616) r5.1), (5, bB r1), (2, .ptr (.s 15) 0)], [(.s 15, [nI a0.F_Kind, nI a0.F_From, nI a0.F_Step, nI a0.F_S.F_Scheme, nI a0.F_S.F_Dim, lI a0.F_S.F_L, lI a0.F_S.F_V, nI a0.F_S.F_Scale, nI a0.F_S.F_Wide, lU a0.F_S.F_Lev, lB a0.F_S.F_Neg])]⟩ ?_
                  exact L_end
              · refine Av 1 [.c c8_30, .c c8_36] ⟨[(55, bB j64), (7, nI r5.2), (6, sY (.s 9616) r5.1), (5, bB r1), (2, .ptr (.s 15) 0)], [(.s 15, [nI a0.F_Kind, nI a0.F_From, nI a0.F_Step, nI a0.F_S.F_Scheme, nI a0.F_S.F_Dim, lI a0.F_S.F_L, lI a0.F_S.F_V, nI a0.F_S.F_Scale, nI a0.F_S.F_Wide, lU a0.F_S.F_Lev, lB a0.F_S.F_Neg])]⟩ ?_
                refine L_split 55 decT (fun _ => ?_) (fun _ => ?_)
                · refine Av 5 [.o false (o8_11.drop 2), .c .ret, .c c8_36] ⟨[(57, bB r1), (7, nI r5.2)], []⟩ ?_
                  refine L_take 3 o8_11t2_5 (o8_11.drop 5) ?_
                  refine L_join [.o false o8_11t2_5] [.o false (o8_11.drop 5), .c .ret, .c c8_36] (fun x : Bool => ⟨[(60, bB x)], []⟩) ?_ (fun j65 => ?_)
                  · refine L_split 57 decT (fun _ => ?_) (fun _ => ?_)
                    · refine Av 4 [] ⟨[(60, bB (r5.2 == 1))], []⟩ ?_
                      exact L_end
                    · refine Av 4 [] ⟨[(60, bB false)], []⟩ ?_
                      exact L_end
                  · refine Avk 4 [] .ret ⟨[(4, bB j65)], []⟩ ?_
                    exact L_ret
                · refine Av 5 [.o false (o8_12.drop 1), .c c8_35] ⟨[(62, .agg [nI a0.F_Kind, nI a0.F_From, nI a0.F_Step, nI a0.F_S.F_Scheme, nI a0.F_S.F_Dim, lI a0.F_S.F_L, lI a0.F_S.F_V, nI a0.F_S.F_Scale, nI a0.F_S.F_Wide, lU a0.F_S.F_Lev, lB a0.F_S.F_Neg]), (6, sY (.s 9616) r5.1), (5, bB r1), (2, .ptr (.s 15) 0)], [(.s 15, [nI a0.F_Kind, nI a0.F_From, nI a0.F_Step, nI a0.F_S.F_Scheme, nI a0.F_S.F_Dim, lI a0.F_S.F_L, lI a0.F_S.F_V, nI a0.F_S.F_Scale, nI a0.F_S.F_Wide, lU a0.F_S.F_Lev, lB a0.F_S.F_Neg])]⟩ ?_
                  refine L_call (ok_frame_Size a0) trivial rfl (fun _ => rfl) (fun _ => ⟨trivial, trivial, trivial⟩) (fun r66 => ?_)
                  refine Av 10 [.o false (o8_13.drop 2), .c .ret] ⟨[(67, bB r1), (11, nI r66.2), (10, nI r66.1), (6, sY (.s 9616) r5.1), (2, .ptr (.s 15) 0)], [(.s 15, [nI a0.F_Kind, nI a0.F_From, nI a0.F_Step, nI a0.F_S.F_Scheme, nI a0.F_S.F_Dim, lI a0.F_S.F_L, lI a0.F_S.F_V, nI a0.F_S.F_Scale, nI a0.F_S.F_Wide, lU a0.F_S.F_Lev, lB a0.F_S.F_Neg])]⟩ ?_
                  refine L_take 5 o8_13t2_7 (o8_13.drop 7) ?_
                  refine L_join [.o false o8_13t2_7] [.o false (o8_13.drop 7), .c .ret] (fun x : Bool => ⟨[(72, bB x), (11, nI r66.2), (2, .ptr (.s 15) 0)], [(.s 15, [nI a0.F_Kind, nI a0.F_From, nI a0.F_Step, nI a0.F_S.F_Scheme, nI a0.F_S.F_Dim, lI a0.F_S.F_L, lI a0.F_S.F_V, nI a0.F_S.F_Scale, nI a0.F_S.F_Wide, lU a0.F_S.F_Lev, lB a0.F_S.F_Neg])]⟩) ?_ (fun j67 => ?_)
                  · refine L_split 67 decT (fun _ => ?_) (fun _ => ?_)
                    · refine Av 2 [.o false (o8_13t2_7.drop 2)] ⟨[(69, sY (.s 9616) r5.1), (67, bB true), (68, nI r66.1), (11, nI r66.2), (2, .ptr (.s 15) 0)], [(.s 15, [nI a0.F_Kind, nI a0.F_From, nI a0.F_Step, nI a0.F_S.F_Scheme, nI a0.F_S.F_Dim, lI a0.F_S.F_L, lI a0.F_S.F_V, nI a0.F_S.F_Scale, nI a0.F_S.F_Wide, lU a0.F_S.F_Lev, lB a0.F_S.F_Neg])]⟩ ?_
                      refine L_len (enc := D.int .u8) (l := r5.1) rfl rfl ?_
                      refine Av 3 [] ⟨[(72, bB (r66.1 == (r5.1.length : Int))), (11, nI r66.2), (2, .ptr (.s 15) 0)], [(.s 15, [nI a0.F_Kind, nI a0.F_From, nI a0.F_Step, nI a0.F_S.F_Scheme, nI a0.F_S.F_Dim, lI a0.F_S.F_L, lI a0.F_S.F_V, nI a0.F_S.F_Scale, nI a0.F_S.F_Wide, lU a0.F_S.F_Lev, lB a0.F_S.F_Neg])]⟩ ?_
                      exact L_end
                    · refine Av 6 [] ⟨[(72, bB false), (11, nI r66.2), (2, .ptr (.s 15) 0)], [(.s 15, [nI a0.F_Kind, nI a0.F_From, nI a0.F_Step, nI a0.F_S.F_Scheme, nI a0.F_S.F_Dim, lI a0.F_S.F_L, lI a0.F_S.F_V, nI a0.F_S.F_Scale, nI a0.F_S.F_Wide, lU a0.F_S.F_Lev, lB a0.F_S.F_Neg])]⟩ ?_
                      exact L_end
                  · refine Av 1 [.o false (o8_13.drop 8), .c .ret] ⟨[(73, bB j67), (11, nI r66.2), (2, .ptr (.s 15) 0)], [(.s 15, [nI a0.F_Kind, nI a0.F_From, nI a0.F_Step, nI a0.F_S.F_Scheme, nI a0.F_S.F_Dim, lI a0.F_S.F_L, lI a0.F_S.F_V, nI a0.F_S.F_Scale, nI a0.F_S.F_Wide, lU a0.F_S.F_Lev, lB a0.F_S.F_Neg])]⟩ ?_
                    refine L_take 3 o8_13t8_11 (o8_13.drop 11) ?_
                    refine L_join [.o false o8_13t8_11] [.o false (o8_13.drop 11), .c .ret] (fun x : Bool => ⟨[(76, bB x), (2, .ptr (.s 15) 0)], [(.s 15, [nI a0.F_Kind, nI a0.F_From, nI a0.F_Step, nI a0.F_S.F_Scheme, nI a0.F_S.F_Dim, lI a0.F_S.F_L, lI a0.F_S.F_V, nI a0.F_S.F_Scale, nI a0.F_S.F_Wide, lU a0.F_S.F_Lev, lB a0.F_S.F_Neg])]⟩) ?_ (fun j68 => ?_)
                    · refine L_split 73 decT (fun _ => ?_) (fun _ => ?_)
                      · refine Av 4 [] ⟨[(76, bB (r66.2 == 0)), (2, .ptr (.s 15) 0)], [(.s 15, [nI a0.F_Kind, nI a0.F_From, nI a0.F_Step, nI a0.F_S.F_Scheme, nI a0.F_S.F_Dim, lI a0.F_S.F_L, lI a0.F_S.F_V, nI a0.F_S.F_Scale, nI a0.F_S.F_Wide, lU a0.F_S.F_Lev, lB a0.F_S.F_Neg])]⟩ ?_
                        exact L_end
                      · refine Av 4 [] ⟨[(76, bB false), (2, .ptr (.s 15) 0)], [(.s 15, [nI a0.F_Kind, nI a0.F_From, nI a0.F_Step, nI a0.F_S.F_Scheme, nI a0.F_S.F_Dim, lI a0.F_S.F_L, lI a0.F_S.F_V, nI a0.F_S.F_Scale, nI a0.F_S.F_Wide, lU a0.F_S.F_Lev, lB a0.F_S.F_Neg])]⟩ ?_
                        exact L_end
                    · refine Av 1 [.o false (o8_13.drop 12), .c .ret] ⟨[(77, bB j68), (2, .ptr (.s 15) 0)], [(.s 15, [nI a0.F_Kind, nI a0.F_From, nI a0.F_Step, nI a0.F_S.F_Scheme, nI a0.F_S.F_Dim, lI a0.F_S.F_L, lI a0.F_S.F_V, nI a0.F_S.F_Scale, nI a0.F_S.F_Wide, lU a0.F_S.F_Lev, lB a0.F_S.F_Neg])]⟩ ?_
                      refine L_take 4 o8_13t12_16 (o8_13.drop 16) ?_
                      refine L_join [.o false o8_13t12_16] [.o false (o8_13.drop 16), .c .ret] (fun x : Bool => ⟨[(81, bB x)], []⟩) ?_ (fun j70 => ?_)
                      · refine L_split 77 decT (fun _ => ?_) (fun _ => ?_)
                        · refine Av 2 [.o false (o8_13t12_16.drop 2)] ⟨[(79, .agg [nI a0.F_Kind, nI a0.F_From, nI a0.F_Step, nI a0.F_S.F_Scheme, nI a0.F_S.F_Dim, lI a0.F_S.F_L, lI a0.F_S.F_V, nI a0.F_S.F_Scale, nI a0.F_S.F_Wide, lU a0.F_S.F_Lev, lB a0.F_S.F_Neg]), (77, bB true), (78, .agg [nI a0.F_Kind, nI a0.F_From, nI a0.F_Step, nI a0.F_S.F_Scheme, nI a0.F_S.F_Dim, lI a0.F_S.F_L, lI a0.F_S.F_V, nI a0.F_S.F_Scale, nI a0.F_S.F_Wide, lU a0.F_S.F_Lev, lB a0.F_S.F_Neg])], []⟩ ?_
                          refine L_call (ok_frame_Same a0 a0) rfl rfl (fun _ => rfl) (fun _ => trivial) (fun r69 => ?_)
                          refine Av 2 [] ⟨[(81, bB r69)], []⟩ ?_
                          exact L_end
                        · refine Av 5 [] ⟨[(81, bB false)], []⟩ ?_
                          exact L_end
                      · refine Avk 3 [] .ret ⟨[(4, bB j70)], []⟩ ?_
                        exact L_ret
          · refine Ae 6 [.h h8_8g0, .o true o8_8g1, .h [], .c c8_23, .c c8_37] ⟨[(43, .tup []), (40, bB false), (45, .tup []), (44, .tup []), (42, .tup []), (41, .tup []), (39, bB (r6.2 == 0)), (38, bB (r6.2 == 0)), (36, bB true), (37, nI r6.2), (35, bB (r5.2 == 0)), (34, nI r5.2), (9, nI r6.2), (8, sY (.s 11216) r6.1), (7, nI r5.2), (6, sY (.s 9616) r5.1), (5, bB r1), (3, .ptr (.s 31) 0), (2, .ptr (.s 15) 0)], [(.s 31, [nI a1.F_Kind, nI a1.F_From, nI a1.F_Step, nI a1.F_S.F_Scheme, nI a1.F_S.F_Dim, lI a1.F_S.F_L, lI a1.F_S.F_V, nI a1.F_S.F_Scale, nI a1.F_S.F_Wide, lU a1.F_S.F_Lev, lB a1.F_S.F_Neg]), (.s 15, [nI a0.F_Kind, nI a0.F_From, nI a0.F_Step, nI a0.F_S.F_Scheme, nI a0.F_S.F_Dim, lI a0.F_S.F_L, lI a0.F_S.F_V, nI a0.F_S.F_Scale, nI a0.F_S.F_Wide, lU a0.F_S.F_Lev, lB a0.F_S.F_Neg])]⟩ ?_
            refine L_hold ⟨hN rfl (.inr rfl), hN rfl (.inr rfl), trivial⟩ ?_
            refine Av 13 [.o false (o8_10.drop 3), .c c8_30, .c c8_36] ⟨[(51, bB (r5.2 != 0)), (7, nI r5.2), (6, sY (.s 9616) r5.1), (5, bB r1), (2, .ptr (.s 15) 0)], [(.s 15, [nI a0.F_Kind, nI a0.F_From, nI a0.F_Step, nI a0.F_S.F_Scheme, nI a0.F_S.F_Dim, lI a0.F_S.F_L, lI a0.F_S.F_V, nI a0.F_S.F_Scale, nI a0.F_S.F_Wide, lU a0.F_S.F_Lev, lB a0.F_S.F_Neg])]⟩ ?_
            refine L_take 4 o8_10t3_7 (o8_10.drop 7) ?_
            refine L_join [.o false o8_10t3_7] [.o false (o8_10.drop 7), .c c8_30, .c c8_36] (fun x : Bool => ⟨[(55, bB x), (7, nI r5.2), (6, sY (.s 9616) r5.1), (5, bB r1), (2, .ptr (.s 15) 0)], [(.s 15, [nI a0.F_Kind, nI a0.F_From, nI a0.F_Step, nI a0.F_S.F_Scheme, nI a0.F_S.F_Dim, lI a0.F_S.F_L, lI a0.F_S.F_V, nI a0.F_S.F_Scale, nI a0.F_S.F_Wide, lU a0.F_S.F_Lev, lB a0.F_S.F_Neg])]⟩) ?_ (fun j71 => ?_)
            · refine L_split 51 decNe (fun _ => ?_) (fun _ => ?_)
              · refine Av 5 [] ⟨[(55, bB true), (7, nI r5.2), (6, sY (.s 9616) r5.1), (5, bB r1), (2, .ptr (.s 15) 0)], [(.s 15, [nI a0.F_Kind, nI a0.F_From, nI a0.F_Step, nI a0.F_S.F_Scheme, nI a0.F_S.F_Dim, lI a0.F_S.F_L, lI a0.F_S.F_V, nI a0.F_S.F_Scale, nI a0.F_S.F_Wide, lU a0.F_S.F_Lev, lB a0.F_S.F_Neg])]⟩ ?_
                exact L_end
              · refine Av 1 [.o false (o8_10t3_7.drop 1)] ⟨[(52, sY (.s 9616) r5.1), (51, bB false), (7, nI r5.2), (6, sY (.s 9616) r5.1), (5, bB r1), (2, .ptr (.s 15) 0)], [(.s 15, [nI a0.F_Kind, nI a0.F_From, nI a0.F_Step, nI a0.F_S.F_Scheme, nI a0.F_S.F_Dim, lI a0.F_S.F_L, lI a0.F_S.F_V, nI a0.F_S.F_Scale, nI a0.F_S.F_Wide, lU a0.F_S.F_Lev, lB a0.F_S.F_Neg])]⟩ ?_
                refine L_len (enc := D.int .u8) (l := r5.1) rfl rfl ?_
                refine Av 3 [] ⟨[(55, bB ((r5.1.length : Int) == 0)), (7, nI r5.2), (6, sY (.s 9616) r5.1), (5, bB r1), (2, .ptr (.s 15) 0)], [(.s 15, [nI a0.F_Kind, nI a0.F_From, nI a0.F_Step, nI a0.F_S.F_Scheme, nI a0.F_S.F_Dim, lI a0.F_S.F_L, lI a0.F_S.F_V, nI a0.F_S.F_Scale, nI a0.F_S.F_Wide, lU a0.F_S.F_Lev, lB a0.F_S.F_Neg])]⟩ ?_
                exact L_end
            · refine Av 1 [.c c8_30, .c c8_36] ⟨[(55, bB j71), (7, nI r5.2), (6, sY (.s 9616) r5.1), (5, bB r1), (2, .ptr (.s 15) 0)], [(.s 15, [nI a0.F_Kind, nI a0.F_From, nI a0.F_Step, nI a0.F_S.F_Scheme, nI a0.F_S.F_Dim, lI a0.F_S.F_L, lI a0.F_S.F_V, nI a0.F_S.F_Scale, nI a0.F_S.F_Wide, lU a0.F_S.F_Lev, lB a0.F_S.F_Neg])]⟩ ?_
              refine L_split 55 decT (fun _ => ?_) (fun _ => ?_)
              · refine Av 5 [.o false (o8_11.drop 2), .c .ret, .c c8_36] ⟨[(57, bB r1), (7, nI r5.2)], []⟩ ?_
                refine L_take 3 o8_11t2_5 (o8_11.drop 5) ?_
                refine L_join [.o false o8_11t2_5] [.o false (o8_11.drop 5), .c .ret, .c c8_36] (fun x : Bool => ⟨[(60, bB x)], []⟩) ?_ (fun j72 => ?_)
                · refine L_split 57 decT (fun _ => ?_) (fun _ => ?_)
                  · refine Av 4 [] ⟨[(60, bB (r5.2 == 1))], []⟩ ?_
                    exact L_end
                  · refine Av 4 [] ⟨[(60, bB false)], []⟩ ?_
                    exact L_end
                · refine Avk 4 [] .ret ⟨[(4, bB j72)], []⟩ ?_
                  exact L_ret
              · refine Av 5 [.o false (o8_12.drop 1), .c c8_35] ⟨[(62, .agg [nI a0.F_Kind, nI a0.F_From, nI a0.F_Step, nI a0.F_S.F_Scheme, nI a0.F_S.F_Dim, lI a0.F_S.F_L, lI a0.F_S.F_V, nI a0.F_S.F_Scale, nI a0.F_S.F_Wide, lU a0.F_S.F_Lev, lB a0.F_S.F_Neg]), (6, sY (.s 9616) r5.1), (5, bB r1), (2, .ptr (.s 15) 0)], [(.s 15, [nI a0.F_Kind, nI a0.F_From, nI a0.F_Step, nI a0.F_S.F_Scheme, nI a0.F_S.F_Dim, lI a0.F_S.F_L, lI a0.F_S.F_V, nI a0.F_S.F_Scale, nI a0.F_S.F_Wide, lU a0.F_S.F_Lev, lB a0.F_S.F_Neg])]⟩ ?_
                refine L_call (ok_frame_Size a0) trivial rfl (fun _ => rfl) (fun _ => ⟨trivial, trivial, trivial⟩) (fun r73 => ?_)
                refine Av 10 [.o false (o8_13.drop 2), .c .ret] ⟨[(67, bB r1), (11, nI r73.2), (10, nI r73.1), (6, sY (.s 9616) r5.1), (2, .ptr (.s 15) 0)], [(.s 15, [nI a0.F_Kind, nI a0.F_From, nI a0.F_Step, nI a0.F_S.F_Scheme, nI a0.F_S.F_Dim, lI a0.F_S.F_L, lI a0.F_S.F_V, nI a0.F_S.F_Scale, nI a0.F_S.F_Wide, lU a0.F_S.F_Lev, lB a0.F_S.F_Neg])]⟩ ?_
                refine L_take 5 o8_13t2_7 (o8_13.drop 7) ?_
                refine L_join [.o false o8_13t2_7] [.o false (o8_13.drop 7), .c .ret] (fun x : Bool => ⟨[(72, bB x), (11, nI r73.2), (2, .ptr (.s 15) 0)], [(.s 15, [nI a0.F_Kind, nI a0.F_From, nI a0.F_Step, nI a0.F_S.F_Scheme, nI a0.F_S.F_Dim, lI a0.F_S.F_L, lI a0.F_S.F_V, nI a0.F_S.F_Scale, nI a0.F_S.F_Wide, lU a0.F_S.F_Lev, lB a0.F_S.F_Neg])]⟩) ?_ (fun j74 => ?_)
                · refine L_split 67 decT (fun _ => ?_) (fun _ => ?_)
                  · refine Av 2 [.o false (o8_13t2_7.drop 2)] ⟨[(69, sY (.s 9616) r5.1), (67, bB true), (68, nI r73.1), (11, nI r73.2), (2, .ptr (.s 15) 0)], [(.s 15, [nI a0.F_Kind, nI a0.F_From, nI a0.F_Step, nI a0.F_S.F_Scheme, nI a0.F_S.F_Dim, lI a0.F_S.F_L, lI a0.F_S.F_V, nI a0.F_S.F_Scale, nI a0.F_S.F_Wide, lU a0.F_S.F_Lev, lB a0.F_S.F_Neg])]⟩ ?_
                    refine L_len (enc := D.int .u8) (l := r5.1) rfl rfl ?_
                    refine Av 3 [] ⟨[(72, bB (r73.1 == (r5.1.length : Int))), (11, nI r73.2), (2, .ptr (.s 15) 0)], [(.s 15, [nI a0.F_Kind, nI a0.F_From, nI a0.F_Step, nI a0.F_S.F_Scheme, nI a0.F_S.F_Dim, lI a0.F_S.F_L, lI a0.F_S.F_V, nI a0.F_S.F_Scale, nI a0.F_S.F_Wide, lU a0.F_S.F_Lev, lB a0.F_S.F_Neg])]⟩ ?_
                    exact L_end
                  · refine Av 6 [] ⟨[(72, bB false), (11, nI r73.2), (2, .ptr (.s 15) 0)], [(.s 15, [nI a0.F_Kind, nI a0.F_From, nI a0.F_Step, nI a0.F_S.F_Scheme, nI a0.F_S.F_Dim, lI a0.F_S.F_L, lI a0.F_S.F_V, nI a0.F_S.F_Scale, nI a0.F_S.F_Wide, lU a0.F_S.F_Lev, lB a0.F_S.F_Neg])]⟩ ?_
                    exact L_end
                · refine Av 1 [.o false (o8_13.drop 8), .c .ret] ⟨[(73, bB j74), (11, nI r73.2), (2, .ptr (.s 15) 0)], [(.s 15, [nI a0.F_Kind, nI a0.F_From, nI a0.F_Step, nI a0.F_S.F_Scheme, nI a0.F_S.F_Dim, lI a0.F_S.F_L, lI a0.F_S.F_V, nI a0.F_S.F_Scale, nI a0.F_S.F_Wide, lU a0.F_S.F_Lev, lB a0.F_S.F_Neg])]⟩ ?_
                  refine L_take 3 o8_13t8_11 (o8_13.drop 11) ?_
                  refine L_join [.o false o8_13t8_11] [.o false (o8_13.drop 11), .c .ret] (fun x : Bool => ⟨[(76, bB x), (2, .ptr (.s 15) 0)], [(.s 15, [nI a0.F_Kind, nI a0.F_From, nI a0.F_Step, nI a0.F_S.F_Scheme, nI a0.F_S.F_Dim, lI a0.F_S.F_L, lI a0.F_S.F_V, nI a0.F_S.F_Scale, nI a0.F_S.F_Wide, lU a0.F_S.F_Lev, lB a0.F_S.F_Neg])]⟩) ?_ (fun j75 => ?_)
                  · refine L_split 73 decT (fun _ => ?_) (fun _ => ?_)
                    · refine Av 4 [] ⟨[(76, bB (r73.2 == 0)), (2, .ptr (.s 15) 0)], [(.s 15, [nI a0.F_Kind, nI a0.F_From, nI a0.F_Step, nI a0.F_S.F_Scheme, nI a0.F_S.F_Dim, lI a0.F_S.F_L, lI a0.F_S.F_V, nI a0.F_S.F_Scale, nI a0.F_S.F_Wide, lU a0.F_S.F_Lev, lB a0.F_S.F_Neg])]⟩ ?_
                      exact L_end
                    · refine Av 4 [] ⟨[(76, bB false), (2, .ptr (.s 15) 0)], [(.s 15, [nI a0.F_Kind, nI a0.F_From, nI a0.F_Step, nI a0.F_S.F_Scheme, nI a0.F_S.F_Dim, lI a0.F_S.F_L, lI a0.F_S.F_V, nI a0.F_S.F_Scale, nI a0.F_S.F_Wide, lU a0.F_S.F_Lev, lB a0.F_S.F_Neg])]⟩ ?_
                      exact L_end
                  · refine Av 1 [.o false (o8_13.drop 12), .c .ret] ⟨[(77, bB j75), (2, .ptr (.s 15) 0)], [(.s 15, [nI a0.F_Kind, nI a0.F_From, nI a0.F_Step, nI a0.F_S.F_Scheme, nI a0.F_S.F_Dim, lI a0.F_S.F_L, lI a0.F_S.F_V, nI a0.F_S.F_Scale, nI a0.F_S.F_Wide, lU a0.F_S.F_Lev, lB a0.F_S.F_Neg])]⟩ ?_
                    refine L_take 4 o8_13t12_16 (o8_13.drop 16) ?_
                    refine L_join [.o false o8_13t12_16] [.o false (o8_13.drop 16), .c .ret] (fun x : Bool => ⟨[(81, bB x)], []⟩) ?_ (fun j77 => ?_)
                    · refine L_split 77 decT (fun _ => ?_) (fun _ => ?_)
                      · refine Av 2 [.o false (o8_13t12_16.drop 2)] ⟨[(79, .agg [nI a0.F_Kind, nI a0.F_From, nI a0.F_Step, nI a0.F_S.F_Scheme, nI a0.F_S.F_Dim, lI a0.F_S.F_L, lI a0.F_S.F_V, nI a0.F_S.F_Scale, nI a0.F_S.F_Wide, lU a0.F_S.F_Lev, lB a0.F_S.F_Neg]), (77, bB true), (78, .agg [nI a0.F_Kind, nI a0.F_From, nI a0.F_Step, nI a0.F_S.F_Scheme, nI a0.F_S.F_Dim, lI a0.F_S.F_L, lI a0.F_S.F_V, nI a0.F_S.F_Scale, nI a0.F_S.F_Wide, lU a0.F_S.F_Lev, lB a0.F_S.F_Neg])], []⟩ ?_
                        refine L_call (ok_frame_Same a0 a0) rfl rfl (fun _ => rfl) (fun _ => trivial) (fun r76 => ?_)
                        refine Av 2 [] ⟨[(81, bB r76)], []⟩ ?_
                        exact L_end
                      · refine Av 5 [] ⟨[(81, bB false)], []⟩ ?_
                        exact L_end
                    · refine Avk 3 [] .ret ⟨[(4, bB j77)], []⟩ ?_
                      exact L_ret
        · refine Ae 10 [.h h8_8g0, .o true o8_8g1, .h [], .c c8_23, .c c8_37] ⟨[(43, .tup []), (40, bB false), (45, .tup []), (44, .tup []), (42, .tup []), (41, .tup []), (39, bB false), (38, .tup []), (36, bB false), (37, .tup []), (35, bB (r5.2 == 0)), (34, nI r5.2), (9, nI r6.2), (8, sY (.s 11216) r6.1), (7, nI r5.2), (6, sY (.s 9616) r5.1), (5, bB r1), (3, .ptr (.s 31) 0), (2, .ptr (.s 15) 0)], [(.s 31, [nI a1.F_Kind, nI a1.F_From, nI a1.F_Step, nI a1.F_S.F_Scheme, nI a1.F_S.F_Dim, lI a1.F_S.F_L, lI a1.F_S.F_V, nI a1.F_S.F_Scale, nI a1.F_S.F_Wide, lU a1.F_S.F_Lev, lB a1.F_S.F_Neg]), (.s 15, [nI a0.F_Kind, nI a0.F_From, nI a0.F_Step, nI a0.F_S.F_Scheme, nI a0.F_S.F_Dim, lI a0.F_S.F_L, lI a0.F_S.F_V, nI a0.F_S.F_Scale, nI a0.F_S.F_Wide, lU a0.F_S.F_Lev, lB a0.F_S.F_Neg])]⟩ ?_
          refine L_hold ⟨hN rfl (.inr rfl), hN rfl (.inr rfl), trivial⟩ ?_
          refine Av 13 [.o false (o8_10.drop 3), .c c8_30, .c c8_36] ⟨[(51, bB (r5.2 != 0)), (7, nI r5.2), (6, sY (.s 9616) r5.1), (5, bB r1), (2, .ptr (.s 15) 0)], [(.s 15, [nI a0.F_Kind, nI a0.F_From, nI a0.F_Step, nI a0.F_S.F_Scheme, nI a0.F_S.F_Dim, lI a0.F_S.F_L, lI a0.F_S.F_V, nI a0.F_S.F_Scale, nI a0.F_S.F_Wide, lU a0.F_S.F_Lev, lB a0.F_S.F_Neg])]⟩ ?_
          refine L_take 4 o8_10t3_7 (o8_10.drop 7) ?_
          refine L_join [.o false o8_10t3_7] [.o false (o8_10.drop 7), .c c8_30, .c c8_36] (fun x : Bool => ⟨[(55, bB x), (7, nI r5.2), (6, sY (.s 9616) r5.1), (5, bB r1), (2, .ptr (.s 15) 0)], [(.s 15, [nI a0.F_Kind, nI a0.F_From, nI a0.F_Step, nI a0.F_S.F_Scheme, nI a0.F_S.F_Dim, lI a0.F_S.F_L, lI a0.F_S.F_V, nI a0.F_S.F_Scale, nI a0.F_S.F_Wide, lU a0.F_S.F_Lev, lB a0.F_S.F_Neg])]⟩) ?_ (fun j78 => ?_)
          · refine L_split 51 decNe (fun _ => ?_) (fun _ => ?_)
            · refine Av 5 [] ⟨[(55, bB true), (7, nI r5.2), (6, sY (.s 9616) r5.1), (5, bB r1), (2, .ptr (.s 15) 0)], [(.s 15, [nI a0.F_Kind, nI a0.F_From, nI a0.F_Step, nI a0.F_S.F_Scheme, nI a0.F_S.F_Dim, lI a0.F_S.F_L, lI a0.F_S.F_V, nI a0.F_S.F_Scale, nI a0.F_S.F_Wide, lU a0.F_S.F_Lev, lB a0.F_S.F_Neg])]⟩ ?_
              exact L_end
            · refine Av 1 [.o false (o8_10t3_7.drop 1)] ⟨[(52, sY (.s 9616) r5.1), (51, bB false), (7, nI r5.2), (6, sY (.s 9616) r5.1), (5, bB r1), (2, .ptr (.s 15) 0)], [(.s 15, [nI a0.F_Kind, nI a0.F_From, nI a0.F_Step, nI a0.F_S.F_Scheme, nI a0.F_S.F_Dim, lI a0.F_S.F_L, lI a0.F_S.F_V, nI a0.F_S.F_Scale, nI a0.F_S.F_Wide, lU a0.F_S.F_Lev, lB a0.F_S.F_Neg])]⟩ ?_
              refine L_len (enc := D.int .u8) (l := r5.1) rfl rfl ?_
              refine Av 3 [] ⟨[(55, bB ((r5.1.length : Int) == 0)), (7, nI r5.2), (6, sY (.s 9616) r5.1), (5, bB r1), (2, .ptr (.s 15) 0)], [(.s 15, [nI a0.F_Kind, nI a0.F_From, nI a0.F_Step, nI a0.F_S.F_Scheme, nI a0.F_S.F_Dim, lI a0.F_S.F_L, lI a0.F_S.F_V, nI a0.F_S.F_Scale, nI a0.F_S.F_Wide, lU a0.F_S.F_Lev, lB a0.F_S.F_Neg])]⟩ ?_
              exact L_end
          · refine Av 1 [.c c8_30, .c c8_36] ⟨[(55, bB j78), (7, nI r5.2), (6, sY (.s 9616) r5.1), (5, bB r1), (2, .ptr (.s 15) 0)], [(.s 15, [nI a0.F_Kind, nI a0.F_From, nI a0.F_Step, nI a0.F_S.F_Scheme, nI a0.F_S.F_Dim, lI a0.F_S.F_L, lI a0.F_S.F_V, nI a0.F_S.F_Scale, nI a0.F_S.F_Wide, lU a0.F_S.F_Lev, lB a0.F_S.F_Neg])]⟩ ?_
            refine L_split 55 decT (fun _ => ?_) (fun _ => ?_)
            · refine Av 5 [.o false (o8_11.drop 2), .c .ret, .c c8_36] ⟨[(57, bB r1), (7, nI r5.2)], []⟩ ?_
              refine L_take 3 o8_11t2_5 (o8_11.drop 5) ?_
              refine L_join [.o false o8_11t2_5] [.o false (o8_11.drop 5), .c .ret, .c c8_36] (fun x : Bool => ⟨[(60, bB x)], []⟩) ?_ (fun j79 => ?_)
              · refine L_split 57 decT (fun _ => ?_) (fun _ => ?_)
                · refine Av 4 [] ⟨[(60, bB (r5.2 == 1))], []⟩ ?_
                  exact L_end
                · refine Av 4 [] ⟨[(60, bB false)], []⟩ ?_
                  exact L_end
              · refine Avk 4 [] .ret ⟨[(4, bB j79)], []⟩ ?_
                exact L_ret
            · refine Av 5 [.o false (o8_12.drop 1), .c c8_35] ⟨[(62, .agg [nI a0.F_Kind, nI a0.F_From, nI a0.F_Step, nI a0.F_S.F_Scheme, nI a0.F_S.F_Dim, lI a0.F_S.F_L, lI a0.F_S.F_V, nI a0.F_S.F_Scale, nI a0.F_S.F_Wide, lU a0.F_S.F_Lev, lB a0.F_S.F_Neg]), (6, sY (.s 9616) r5.1), (5, bB r1), (2, .ptr (.s 15) 0)], [(.s 15, [nI a0.F_Kind, nI a0.F_From, nI a0.F_Step, nI a0.F_S.F_Scheme, nI a0.F_S.F_Dim, lI a0.F_S.F_L, lI a0.F_S.F_V, nI a0.F_S.F_Scale, nI a0.F_S.F_Wide, lU a0.F_S.F_Lev, lB a0.F_S.F_Neg])]⟩ ?_
              refine L_call (ok_frame_Size a0) trivial rfl (fun _ => rfl) (fun _ => ⟨trivial, trivial, trivial⟩) (fun r80 => ?_)
              refine Av 10 [.o false (o8_13.drop 2), .c .ret] ⟨[(67, bB r1), (11, nI r80.2), (10, nI r80.1), (6, sY (.s 9616) r5.1), (2, .ptr (.s 15) 0)], [(.s 15, [nI a0.F_Kind, nI a0.F_From, nI a0.F_Step, nI a0.F_S.F_Scheme, nI a0.F_S.F_Dim, lI a0.F_S.F_L, lI a0.F_S.F_V, nI a0.F_S.F_Scale, nI a0.F_S.F_Wide, lU a0.F_S.F_Lev, lB a0.F_S.F_Neg])]⟩ ?_
              refine L_take 5 o8_13t2_7 (o8_13.drop 7) ?_
              refine L_join [.o false o8_13t2_7] [.o false (o8_13.drop 7), .c .ret] (fun x : Bool => ⟨[(72, bB x), (11, nI r80.2), (2, .ptr (.s 15) 0)], [(.s 15, [nI a0.F_Kind, nI a0.F_From, nI a0.F_Step, nI a0.F_S.F_Scheme, nI a0.F_S.F_Dim, lI a0.F_S.F_L, lI a0.F_S.F_V, nI a0.F_S.F_Scale, nI a0.F_S.F_Wide, lU a0.F_S.F_Lev, lB a0.F_S.F_Neg])]⟩) ?_ (fun j81 => ?_)
              · refine L_split 67 decT (fun _ => ?_) (fun _ => ?_)
                · refine Av 2 [.o false (o8_13t2_7.drop 2)] ⟨[(69, sY (.s 9616) r5.1), (67, bB true), (68, nI r80.1), (11, nI r80.2), (2, .ptr (.s 15) 0)], [(.s 15, [nI a0.F_Kind, nI a0.F_From, nI a0.F_Step, nI a0.F_S.F_Scheme, nI a0.F_S.F_Dim, lI a0.F_S.F_L, lI a0.F_S.F_V, nI a0.F_S.F_Scale, nI a0.F_S.F_Wide, lU a0.F_S.F_Lev, lB a0.F_S.F_Neg])]⟩ ?_
                  refine L_len (enc := D.int .u8) (l := r5.1) rfl rfl ?_
                  refine Av 3 [] ⟨[(72, bB (r80.1 == (r5.1.length : Int))), (11, nI r80.2), (2, .ptr (.s 15) 0)], [(.s 15, [nI a0.F_Kind, nI a0.F_From, nI a0.F_Step, nI a0.F_S.F_Scheme, nI a0.F_S.F_Dim, lI a0.F_S.F_L, lI a0.F_S.F_V, nI a0.F_S.F_Scale, nI a0.F_S.F_Wide, lU a0.F_S.F_Lev, lB a0.F_S.F_Neg])]⟩ ?_
                  exact L_end
                · refine Av 6 [] ⟨[(72, bB false), (11, nI r80.2), (2, .ptr (.s 15) 0)], [(.s 15, [nI a0.F_Kind, nI a0.F_From, nI a0.F_Step, nI a0.F_S.F_Scheme, nI a0.F_S.F_Dim, lI a0.F_S.F_L, lI a0.F_S.F_V, nI a0.F_S.F_Scale, nI a0.F_S.F_Wide, lU a0.F_S.F_Lev, lB a0.F_S.F_Neg])]⟩ ?_
                  exact L_end
              · refine Av 1 [.o false (o8_13.drop 8), .c .ret] ⟨[(73, bB j81), (11, nI r80.2), (2, .ptr (.s 15) 0)], [(.s 15, [nI a0.F_Kind, nI a0.F_From, nI a0.F_Step, nI a0.F_S.F_Scheme, nI a0.F_S.F_Dim, lI a0.F_S.F_L, lI a0.F_S.F_V, nI a0.F_S.F_Scale, nI a0.F_S.F_Wide, lU a0.F_S.F_Lev, lB a0.F_S.F_Neg])]⟩ ?_
                refine L_take 3 o8_13t8_11 (o8_13.drop 11) ?_
                refine L_join [.o false o8_13t8_11] [.o false (o8_13.drop 11), .c .ret] (fun x : Bool => ⟨[(76, bB x), (2, .ptr (.s 15) 0)], [(.s 15, [nI a0.F_Kind, nI a0.F_From, nI a0.F_Step, nI a0.F_S.F_Scheme, nI a0.F_S.F_Dim, lI a0.F_S.F_L, lI a0.F_S.F_V, nI a0.F_S.F_Scale, nI a0.F_S.F_Wide, lU a0.F_S.F_Lev, lB a0.F_S.F_Neg])]⟩) ?_ (fun j82 => ?_)
                · refine L_split 73 decT (fun _ => ?_) (fun _ => ?_)
                  · refine Av 4 [] ⟨[(76, bB (r80.2 == 0)), (2, .ptr (.s 15) 0)], [(.s 15, [nI a0.F_Kind, nI a0.F_From, nI a0.F_Step, nI a0.F_S.F_Scheme, nI a0.F_S.F_Dim, lI a0.F_S.F_L, lI a0.F_S.F_V, nI a0.F_S.F_Scale, nI a0.F_S.F_Wide, lU a0.F_S.F_Lev, lB a0.F_S.F_Neg])]⟩ ?_
                    exact L_end
                  · refine Av 4 [] ⟨[(76, bB false), (2, .ptr (.s 15) 0)], [(.s 15, [nI a0.F_Kind, nI a0.F_From, nI a0.F_Step, nI a0.F_S.F_Scheme, nI a0.F_S.F_Dim, lI a0.F_S.F_L, lI a0.F_S.F_V, nI a0.F_S.F_Scale, nI a0.F_S.F_Wide, lU a0.F_S.F_Lev, lB a0.F_S.F_Neg])]⟩ ?_
                    exact L_end
                · refine Av 1 [.o false (o8_13.drop 12), .c .ret] ⟨[(77, bB j82), (2, .ptr (.s 15) 0)], [(.s 15, [nI a0.F_Kind, nI a0.F_From, nI a0.F_Step, nI a0.F_S.F_Scheme, nI a0.F_S.F_Dim, lI a0.F_S.F_L, lI a0.F_S.F_V, nI a0.F_S.F_Scale, nI a0.F_S.F_Wide, lU a0.F_S.F_Lev, lB a0.F_S.F_Neg])]⟩ ?_
                  refine L_take 4 o8_13t12_16 (o8_13.drop 16) ?_
                  refine L_join [.o false o8_13t12_16] [.o false (o8_13.drop 16), .c .ret] (fun x : Bool => ⟨[(81, bB x)], []⟩) ?_ (fun j84 => ?_)
                  · refine L_split 77 decT (fun _ => ?_) (fun _ => ?_)
                    · refine Av 2 [.o false (o8_13t12_16.drop 2)] ⟨[(79, .agg [nI a0.F_Kind, nI a0.F_From, nI a0.F_Step, nI a0.F_S.F_Scheme, nI a0.F_S.F_Dim, lI a0.F_S.F_L, lI a0.F_S.F_V, nI a0.F_S.F_Scale, nI a0.F_S.F_Wide, lU a0.F_S.F_Lev, lB a0.F_S.F_Neg]), (77, bB true), (78, .agg [nI a0.F_Kind, nI a0.F_From, nI a0.F_Step, nI a0.F_S.F_Scheme, nI a0.F_S.F_Dim, lI a0.F_S.F_L, lI a0.F_S.F_V, nI a0.F_S.F_Scale, nI a0.F_S.F_Wide, lU a0.F_S.F_Lev, lB a0.F_S.F_Neg])], []⟩ ?_
                      refine L_call (ok_frame_Same a0 a0) rfl rfl (fun _ => rfl) (fun _ => trivial) (fun r83 => ?_)
                      refine Av 2 [] ⟨[(81, bB r83)], []⟩ ?_
                      exact L_end
                    · refine Av 5 [] ⟨[(81, bB false)], []⟩ ?_
                      exact L_end
                  · refine Avk 3 [] .ret ⟨[(4, bB j84)], []⟩ ?_
                    exact L_ret
end Go.Proofs.Ythhcgcaefjmekaa.Abs
