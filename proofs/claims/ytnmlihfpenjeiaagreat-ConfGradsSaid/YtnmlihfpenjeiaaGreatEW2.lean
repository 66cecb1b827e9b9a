/- Walks of functions, printed by a program. Conditions: none. -/
import Derived.Test.YtnmlihfpenjeiaaGreatProg
import Derived.Test.YtnmlihfpenjeiaaGreatEW
namespace Go.Proofs.YtnmlihfpenjeiaaGreat.Abs
open Go Go.RowKit
set_option linter.unusedVariables false
set_option maxRecDepth 100000
open Z
noncomputable abbrev zHl:Fe:= .of Tryz.prog 128 zAc
def zNe (a0:Int) (r1:(List Int)×Int) (x0:Int) (x1:List Int):St:=⟨[(25,nI x0),(24,nI (r1.1.length:Int)),(23,sI (.s 4816) r1.1),(8,sI (.h 0) x1),(0,nI a0)],[]⟩
def zNE (a0:Int) (r1:(List Int)×Int) (x:(List Int)):St:=⟨[(8,sI (.h 1) x)],[]⟩
theorem zMR (a0:Int) (r1:(List Int)×Int):∀(x0:Int) (x1:List Int),Ok (zBw a0 r1 x0 x1) (LR zHl (.exit 0) (zNE a0 r1) 128 0 (zNe a0 r1 x0 x1)):=by
 refine zBw.partial_correctness a0 r1 _ ?_
 intro f IH x0 x1
 exact Tr.lpR (F:=zHl) (X:=Int×(List Int))
  (.ite 6 26 (x0<(r1.1.length:Int))
   (.idx 6 eI r1.1 x0<| .call 7 (zP9 (at' r1.1 x0) a0) zAd fun r2=> .iteN 12 36 (r2.2=0)
   (.ret 12 (.inl ([],r2.2)))
   (.app 6 eI 8 x1 [r2.1]<| .again 7 (IntKind.i64.wrap (x0+1),x1++[r2.1])))
   (.ret 4 (.inr x1))) _ fun x r=>IH x.1 x.2 r
theorem zG9 (a0:Int) (a1:List (List Int)):HS 128 (zCT a0 a1) [.int .i64 a0, .lst (List.map (enL (D.int .i64)) a1)] zAc:=Tr.fn (F:=zHl)
 (.ite 11 14 (a0<1)
  (.ret 8 ([],1))
  (.call 5 (zQC a1) zAh fun r1=> .iteN 12 21 (r1.2=0)
  (.ret 9 ([],r1.2))
  (.len 10 eI r1.1<| .loopR 4 id ⟨_,_,_,_,_,zMR a0 r1 0 []⟩ fun j3=> .ret 8 (j3,0))))
noncomputable abbrev zEk:Fe:= .of Tryz.prog 103 zAc
def zNk (a0:Int) (a1:List Int) (a2:Int) (a3:List zAa) (x0:Int) (x1:List (List Int)) (r2:(List Int)×Int) (x0_:Int) (x1_:List Int):St:=⟨[(47,nI x0_),(46,nI (r2.1.length:Int)),(45,sI (.s 12864) r2.1),(16,sI (.h 1) x1_),(13, .ptr (.s 11247) 0),(30,nI x0),(29,nI (a3.length:Int)),(28, .d (.lst (List.map zAa.en a3))),(11, .sl (.h 0) 1 0 (List.map (enL (D.int .i64)) x1)),(0,nI a0),(1,lI a1),(2,nI a2),(3, .d (.lst (List.map zAa.en a3)))],[(.s 11247,[lI ((at' a3 x0).F_X),nI ((at' a3 x0).F_Y)])]⟩
def zNZ (a0:Int) (a1:List Int) (a2:Int) (a3:List zAa) (x0:Int) (x1:List (List Int)) (r2:(List Int)×Int) (x:(List Int)):St:=⟨[(16,sI (.h 2) x),(30,nI x0),(29,nI (a3.length:Int)),(28, .d (.lst (List.map zAa.en a3))),(11, .sl (.h 0) 1 0 (List.map (enL (D.int .i64)) x1)),(0,nI a0),(1,lI a1),(2,nI a2),(3, .d (.lst (List.map zAa.en a3)))],[]⟩
theorem zME (a0:Int) (a1:List Int) (a2:Int) (a3:List zAa) (x0:Int) (x1:List (List Int)) (r2:(List Int)×Int):∀(x0_:Int) (x1_:List Int),Ok (zB9 a0 a1 a2 a3 x0 x1 r2 x0_ x1_) (LR zEk (.exit 2) (zNZ a0 a1 a2 a3 x0 x1 r2) 103 1 (zNk a0 a1 a2 a3 x0 x1 r2 x0_ x1_)):=by
 refine zB9.partial_correctness a0 a1 a2 a3 x0 x1 r2 _ ?_
 intro f IH x0_ x1_
 exact Tr.lpR (F:=zEk) (X:=Int×(List Int))
  (.ite 6 48 (x0_<(r2.1.length:Int))
   (.idx 6 eI r2.1 x0_<| .call 9 (zEN ((at' a3 x0).F_X) (at' r2.1 x0_) a2) zAh fun r3=> .iteN 12 60 (r3.2=0)
   (.ret 12 (.inl ([],r3.2)))
   (.app 5 eI 8 x1_ r3.1<| .app 2 eI 8 (x1_++r3.1) [at' r2.1 x0_]<| .let_ ((x1_++r3.1)++[at' r2.1 x0_]:List Int) fun y4=> .again 7 (IntKind.i64.wrap (x0_+1),y4)))
   (.ret 4 (.inr x1_))) _ fun x r=>IH x.1 x.2 r
def zNp (a0:Int) (a1:List Int) (a2:Int) (a3:List zAa) (x0:Int) (x1:List (List Int)):St:=⟨[(30,nI x0),(29,nI (a3.length:Int)),(28, .d (.lst (List.map zAa.en a3))),(11, .sl (.h 0) 1 0 (List.map (enL (D.int .i64)) x1)),(0,nI a0),(1,lI a1),(2,nI a2),(3, .d (.lst (List.map zAa.en a3)))],[]⟩
def zNK (a0:Int) (a1:List Int) (a2:Int) (a3:List zAa) (x:(List (List Int))):St:=⟨[(11, .sl (.h 1) 1 0 (List.map (enL (D.int .i64)) x)),(3, .d (.lst (List.map zAa.en a3)))],[]⟩
theorem zMa (a0:Int) (a1:List Int) (a2:Int) (a3:List zAa):∀(x0:Int) (x1:List (List Int)),Ok (zBx a0 a1 a2 a3 x0 x1) (LR zEk (.exit 0) (zNK a0 a1 a2 a3) 103 0 (zNp a0 a1 a2 a3 x0 x1)):=by
 refine zBx.partial_correctness a0 a1 a2 a3 _ ?_
 intro f IH x0 x1
 exact Tr.lpR (F:=zEk) (X:=Int×(List (List Int)))
  (.ite 6 31 (x0<(a3.length:Int))
   (.idx 6 zAa.e a3 x0<| .call 10 (zQI a0 a1 (at' a3 x0) a2) zAh fun r2=> .iteN 12 43 (r2.2=0)
   (.ret 12 (.inl ([],r2.2)))
   (.len 10 eI r2.1<| .loopR 4 .inl ⟨_,_,_,_,_,zME a0 a1 a2 a3 x0 x1 r2 0 []⟩ fun j6=> .app 5 (eL eI) 24 x1 [j6]<| .again 7 (IntKind.i64.wrap (x0+1),x1++[j6])))
   (.ret 4 (.inr x1))) _ fun x r=>IH x.1 x.2 r
theorem zPx (a0:Int) (a1:List Int) (a2:Int) (a3:List zAa):HS 103 (zFv a0 a1 a2 a3) [.int .i64 a0, .lst (List.map (D.int .i64) a1), .int .i64 a2, .lst (List.map zAa.en a3)] zAc:=Tr.fn (F:=zEk)
 (.call 11 (zQ0 a0 a1 a3) zAj fun r1=> .iteN 7 26 (r1=0)
  (.ret 9 ([],r1))
  (.len 10 zAa.e a3<| .loopR 4 id ⟨_,_,_,_,_,zMa a0 a1 a2 a3 0 []⟩ fun j7=> .len 4 zAa.e a3<| .call 1 (zG9 (a3.length:Int) j7) zAh fun r8=> .ret 6 (r8.1,r8.2)))
def zIR (v:(List (List Int))×(List Int)×Int):PV:= .tup [.sl (.s 0) 1 0 (List.map (enL (D.int .i64)) v.1),sI (.s 1) v.2.1,nI v.2.2]
noncomputable abbrev zDY:Fe:= .of Tryz.prog 129 zIR
def zMB (a0:Int) (a1:List Int) (x0:Int) (x0_:Int) (x1_:List (List Int)):St:=⟨[(33,nI x0_),(32,nI a0),(10, .sl (.h 0) 1 0 (List.map (enL (D.int .i64)) x1_)),(7,nI x0),(0,nI a0),(1,lI a1)],[]⟩
def zMp (a0:Int) (a1:List Int) (x0:Int) (x:(List (List Int))):St:=⟨[(10, .sl (.h 1) 1 0 (List.map (enL (D.int .i64)) x)),(7,nI x0),(0,nI a0),(1,lI a1)],[]⟩
theorem zLy (a0:Int) (a1:List Int) (x0:Int):∀(x0_:Int) (x1_:List (List Int)),Ok (zBW a0 a1 x0 x0_ x1_) (LN zDY (.exit 2) (zMp a0 a1 x0) 129 1 (zMB a0 a1 x0 x0_ x1_)):=by
 refine zBW.partial_correctness a0 a1 x0 _ ?_
 intro f IH x0_ x1_
 exact Tr.lpN (F:=zDY) (X:=Int×(List (List Int)))
  (.ite 6 34 (x0_<a0)
   (.let_ (IntKind.i64.wrap ((IntKind.i64.wrap (x0_+1))*(IntKind.i64.wrap (x0+1))):Int) fun y3=> .cut 21 eI a1 (some (IntKind.i64.wrap (x0_*(IntKind.i64.wrap (x0+1))))) (some y3)<| .let_ (cut' a1 (some (IntKind.i64.wrap (x0_*(IntKind.i64.wrap (x0+1))))) (some y3):List Int) fun y5=> .appN 0 eI 8 y5<| .app 1 (eL eI) 24 x1_ [y5]<| .again 7 (IntKind.i64.wrap (x0_+1),x1_++[y5]))
   (.ret 4 x1_)) _ fun x r=>IH x.1 x.2 r
def zMj (a0:Int) (a1:List Int) (x0:Int):St:=⟨[(7,nI x0),(0,nI a0),(1,lI a1)],[]⟩
def zMk (a0:Int) (a1:List Int) (x:Unit):St:=⟨[],[]⟩
theorem zLF (a0:Int) (a1:List Int):∀(x0:Int),Ok (zBZ a0 a1 x0) (LR zDY (.exit 0) (zMk a0 a1) 129 0 (zMj a0 a1 x0)):=by
 refine zBZ.partial_correctness a0 a1 _ ?_
 intro f IH x0
 exact Tr.lpR (F:=zDY) (X:=Int)
  (.ite 7 19 (x0≤16)
   (.call 9 (zHu x0 a0) zAd fun r2=> .len 10 eI a1<| .iteN 2 31 (r2.1=(a1.length:Int))
   (.again 9 (IntKind.i64.wrap (x0+1)))
   (.loop 14 ⟨_,_,_,_,_,zLy a0 a1 x0 0 []⟩ fun j7=> .cut 9 eI a1 (some (IntKind.i64.wrap (a0*(IntKind.i64.wrap (x0+1))))) none<| .let_ (cut' a1 (some (IntKind.i64.wrap (a0*(IntKind.i64.wrap (x0+1))))) none:List Int) fun y8=> .appN 0 eI 8 y8<| .ret 8 (.inl (j7,y8,0))))
   (.ret 4 (.inr ()))) _ fun x r=>IH x r
theorem zEM (a0:Int) (a1:List Int):HS 129 (zCr a0 a1) [.int .i64 a0, .lst (List.map (D.int .i64) a1)] zIR:=Tr.fn (F:=zDY)
 (.join 12 3 (γ:=Bool) ⟨fun x=>[(17,bB x)],[0,1],fun _=>[],[]⟩
  (.ite 0 14 (a0<1)
  (.ret 4 true)
  (.ret 4 (decide (a0>8))))
  fun j1=> .iteB 1 17 (j1)
  (.ret 9 ([],[],1))
  (.loopR 9 id ⟨_,_,_,_,_,zLF a0 a1 1⟩ fun j10=> .ret 8 ([],[],4)))
noncomputable abbrev zHv:Fe:= .of Tryz.prog 177 zAc
def zOb (a0:List Int) (x0:Int) (x1:List Int):St:=⟨[(12,nI x0),(11,nI (a0.length:Int)),(10,lI a0),(4,sI (.h 0) x1)],[]⟩
def zOg (a0:List Int) (x:(List Int)):St:=⟨[(4,sI (.h 1) x)],[]⟩
theorem zMg (a0:List Int):∀(x0:Int) (x1:List Int),Ok (zB6 a0 x0 x1) (LN zHv (.exit 0) (zOg a0) 177 0 (zOb a0 x0 x1)):=by
 refine zB6.partial_correctness a0 _ ?_
 intro f IH x0 x1
 exact Tr.lpN (F:=zHv) (X:=Int×(List Int))
  (.ite 6 13 (x0<(a0.length:Int))
   (.idx 6 eI a0 x0<| .app 8 eI 8 x1 [if (0:Int)>(at' a0 x0) then 0 else at' a0 x0]<| .let_ (x1++[if (0:Int)>(at' a0 x0) then 0 else at' a0 x0]:List Int) fun y1=> .again 7 (IntKind.i64.wrap (x0+1),y1))
   (.ret 4 x1)) _ fun x r=>IH x.1 x.2 r
theorem zPN (a0:List Int):HS 177 (zFi a0) [.lst (List.map (D.int .i64) a0)] zAc:=Tr.fn (F:=zHv)
 (.len 9 eI a0<| .ite 2 9 ((a0.length:Int)>4096)
  (.ret 8 ([],3))
  (.len 10 eI a0<| .loop 4 ⟨_,_,_,_,_,zMg a0 0 []⟩ fun j3=> .ret 8 (j3,0)))
noncomputable abbrev zGy:Fe:= .of Tryz.prog 153 zAc
def zLH (a2:List Int) (a3:Int) (r1:(List (List Int))×(List Int)×Int) (x0:Int) (x1:List Int):St:=⟨[(44,nI x0),(43,nI (r1.1.length:Int)),(42, .sl (.s 1632) 1 0 (List.map (enL (D.int .i64)) r1.1)),(13,sI (.h 0) x1),(2,lI a2),(3,nI a3)],[]⟩
def zLM (a2:List Int) (a3:Int) (r1:(List (List Int))×(List Int)×Int) (x:(List Int)):St:=⟨[(13,sI (.h 1) x)],[]⟩
theorem zK6 (a2:List Int) (a3:Int) (r1:(List (List Int))×(List Int)×Int):∀(x0:Int) (x1:List Int),Ok (zBg a2 a3 r1 x0 x1) (LR zGy (.exit 0) (zLM a2 a3 r1) 153 0 (zLH a2 a3 r1 x0 x1)):=by
 refine zBg.partial_correctness a2 a3 r1 _ ?_
 intro f IH x0 x1
 exact Tr.lpR (F:=zGy) (X:=Int×(List Int))
  (.ite 6 45 (x0<(r1.1.length:Int))
   (.idx 6 (eL eI) r1.1 x0<| .call 8 (zEU (at' r1.1 x0) a2 a3) zAd fun r3=> .iteN 12 56 (r3.2=0)
   (.ret 12 (.inl ([],r3.2)))
   (.app 6 eI 8 x1 [r3.1]<| .again 7 (IntKind.i64.wrap (x0+1),x1++[r3.1])))
   (.ret 4 (.inr x1))) _ fun x r=>IH x.1 x.2 r
theorem zIH (a0:Int) (a1:List Int) (a2:List Int) (a3:Int):HS 153 (zDH a0 a1 a2 a3) [.int .i64 a0, .lst (List.map (D.int .i64) a1), .lst (List.map (D.int .i64) a2), .int .i64 a3] zAc:=Tr.fn (F:=zGy)
 (.callZ 9 (zEM a0 a1) fun r1=> .iteN 14 26 (r1.2.2=0)
  (.ret 9 ([],r1.2.2))
  (.idx 6 (eL eI) r1.1 0<| .len 1 eI (at' r1.1 0)<| .len 1 eI a2<| .iteN 3 35 (((at' r1.1 0).length:Int)=(IntKind.i64.wrap ((a2.length:Int)+1)))
  (.ret 8 ([],4))
  (.join 8 3 (γ:=Bool) ⟨fun x=>[(41,bB x)],[10,2,3],fun _=>[],[]⟩
  (.ite 0 38 (a3<0)
  (.ret 4 true)
  (.ret 4 (decide (a3>30))))
  fun j2=> .iteB 1 41 (j2)
  (.ret 8 ([],1))
  (.len 10 (eL eI) r1.1<| .loopR 4 id ⟨_,_,_,_,_,zK6 a2 a3 r1 0 []⟩ fun j4=> .call 4 (zPN j4) zAh fun r5=> .ret 6 (r5.1,r5.2)))))
noncomputable abbrev zQ2:Fe:= .of Tryz.prog 176 zAe
theorem zPE (a0:Int) (a1:List Int) (a2:List Int) (a3:Int):HS 176 (zEq a0 a1 a2 a3) [.int .i64 a0, .lst (List.map (D.int .i64) a1), .lst (List.map (D.int .i64) a2), .int .i64 a3] zAe:=Tr.fn (F:=zQ2)
 (.call 11 (zIH a0 a1 a2 a3) zAh fun r1=> .iteN 12 24 (r1.2=0)
  (.ret 9 (0,r1.2))
  (.callZ 6 (zEM a0 a1) fun r2=> .call 13 (zEU r2.2.1 r1.1 a3) zAd fun r3=> .ret 6 (r3.1,r3.2)))
noncomputable abbrev zR9:Fe:= .of Tryz.prog 152 zAe
theorem zQD (a0:Int) (a1:List Int) (a2:zAa) (a3:Int):HS 152 (zGi a0 a1 a2 a3) [.int .i64 a0, .lst (List.map (D.int .i64) a1), .agg [.lst (List.map (D.int .i64) a2.F_X), .int .i64 a2.F_Y], .int .i64 a3] zAe:=Tr.fn (F:=zR9)
 (.call 13 (zPE a0 a1 a2.F_X a3) zAd fun r1=> .iteN 12 22 (r1.2=0)
  (.ret 9 (0,r1.2))
  (.call 7 (zFq r1.1 a2.F_Y) zAd fun r2=> .ret 6 (r2.1,r2.2)))
noncomputable abbrev zHW:Fe:= .of Tryz.prog 130 zAc
def zOw (a2:zAa) (a3:Int) (r1:Int×Int) (r2:(List Int)×Int) (r3:(List (List Int))×(List Int)×Int) (x0:Int) (x1:List Int):St:=⟨[(53,nI x0),(52,nI (r2.1.length:Int)),(51,sI (.s 6480) r2.1),(17,sI (.h 0) x1),(15,sI (.s 8033) r3.2.1),(12,sI (.s 6480) r2.1),(10,nI r1.1),(6, .ptr (.s 15) 0),(3,nI a3)],[(.s 15,[lI a2.F_X,nI a2.F_Y])]⟩
def zOH (a2:zAa) (a3:Int) (r1:Int×Int) (r2:(List Int)×Int) (r3:(List (List Int))×(List Int)×Int) (x:(List Int)):St:=⟨[(17,sI (.h 1) x),(12,sI (.s 6480) r2.1),(10,nI r1.1),(3,nI a3)],[]⟩
theorem zNo (a2:zAa) (a3:Int) (r1:Int×Int) (r2:(List Int)×Int) (r3:(List (List Int))×(List Int)×Int):∀(x0:Int) (x1:List Int),Ok (zCi a2 a3 r1 r2 r3 x0 x1) (LR zHW (.exit 0) (zOH a2 a3 r1 r2 r3) 130 0 (zOw a2 a3 r1 r2 r3 x0 x1)):=by
 refine zCi.partial_correctness a2 a3 r1 r2 r3 _ ?_
 intro f IH x0 x1
 exact Tr.lpR (F:=zHW) (X:=Int×(List Int))
  (.ite 6 54 (x0<(r2.1.length:Int))
   (.idx 7 eI r2.1 x0<| .joinR 14 0 (γ:=Int) ⟨fun x=>[(20,nI x)],[53,52,51,17,15,12,10,6,3],fun _=>[],[.s 15]⟩ .inl
   (.ite 0 59 ((at' r2.1 x0)>0)
   (.idx 6 eI r3.2.1 x0<| .call 2 (zHx r1.1 (at' r3.2.1 x0) a3) zAd fun r4=> .iteN 11 71 (r4.2=0)
   (.ret 8 (.inl ([],r4.2)))
   (.ret 2 (.inr r4.1)))
   (.ret 2 (.inr 0)))
   fun j5=> .call 6 (zEN a2.F_X j5 a3) zAh fun r6=> .iteN 12 82 (r6.2=0)
   (.ret 12 (.inl ([],r6.2)))
   (.app 5 eI 8 x1 r6.1<| .app 2 eI 8 (x1++r6.1) [j5]<| .again 7 (IntKind.i64.wrap (x0+1),(x1++r6.1)++[j5])))
   (.ret 4 (.inr x1))) _ fun x r=>IH x.1 x.2 r
theorem zQR (a0:Int) (a1:List Int) (a2:zAa) (a3:Int):HS 130 (zGd a0 a1 a2 a3) [.int .i64 a0, .lst (List.map (D.int .i64) a1), .agg [.lst (List.map (D.int .i64) a2.F_X), .int .i64 a2.F_Y], .int .i64 a3] zAc:=Tr.fn (F:=zHW)
 (.call 12 (zQD a0 a1 a2 a3) zAd fun r1=> .iteN 12 33 (r1.2=0)
  (.ret 9 ([],r1.2))
  (.call 9 (zIH a0 a1 a2.F_X a3) zAh fun r2=> .callZ 10 (zEM a0 a1) fun r3=> .len 16 eI r2.1<| .loopR 4 id ⟨_,_,_,_,_,zNo a2 a3 r1 r2 r3 0 []⟩ fun j7=> .call 6 (zEN r2.1 r1.1 a3) zAh fun r8=> .iteN 12 99 (r8.2=0)
  (.ret 9 ([],r8.2))
  (.app 6 eI 8 j7 r8.1<| .app 2 eI 8 (j7++r8.1) [r1.1]<| .ret 4 ((j7++r8.1)++[r1.1],0))))
noncomputable abbrev zHq:Fe:= .of Tryz.prog 104 zAc
def zNA (a0:Int) (a1:List Int) (a2:Int) (a3:List zAa) (x0:Int) (x1:List (List Int)):St:=⟨[(43,nI x0),(42,nI (a3.length:Int)),(41, .d (.lst (List.map zAa.en a3))),(14, .sl (.h 0) 1 0 (List.map (enL (D.int .i64)) x1)),(0,nI a0),(1,lI a1),(2,nI a2),(3, .d (.lst (List.map zAa.en a3)))],[]⟩
def zNf (a0:Int) (a1:List Int) (a2:Int) (a3:List zAa) (x:(List (List Int))):St:=⟨[(14, .sl (.h 1) 1 0 (List.map (enL (D.int .i64)) x)),(3, .d (.lst (List.map zAa.en a3)))],[]⟩
theorem zMt (a0:Int) (a1:List Int) (a2:Int) (a3:List zAa):∀(x0:Int) (x1:List (List Int)),Ok (zBC a0 a1 a2 a3 x0 x1) (LR zHq (.exit 0) (zNf a0 a1 a2 a3) 104 0 (zNA a0 a1 a2 a3 x0 x1)):=by
 refine zBC.partial_correctness a0 a1 a2 a3 _ ?_
 intro f IH x0 x1
 exact Tr.lpR (F:=zHq) (X:=Int×(List (List Int)))
  (.ite 6 44 (x0<(a3.length:Int))
   (.idx 6 zAa.e a3 x0<| .call 10 (zQR a0 a1 (at' a3 x0) a2) zAh fun r3=> .iteN 12 56 (r3.2=0)
   (.ret 12 (.inl ([],r3.2)))
   (.app 6 (eL eI) 24 x1 [r3.1]<| .again 7 (IntKind.i64.wrap (x0+1),x1++[r3.1])))
   (.ret 4 (.inr x1))) _ fun x r=>IH x.1 x.2 r
theorem zO0 (a0:Int) (a1:List Int) (a2:Int) (a3:List zAa):HS 104 (zFg a0 a1 a2 a3) [.int .i64 a0, .lst (List.map (D.int .i64) a1), .int .i64 a2, .lst (List.map zAa.en a3)] zAc:=Tr.fn (F:=zHq)
 (.callZ 9 (zEM a0 a1) fun r1=> .iteN 14 27 (r1.2.2=0)
  (.ret 9 ([],r1.2.2))
  (.idx 6 (eL eI) r1.1 0<| .len 1 eI (at' r1.1 0)<| .call 4 (zIO (IntKind.i64.wrap (((at' r1.1 0).length:Int)-1)) a0 a1 a3) zAj fun r2=> .iteN 7 39 (r2=0)
  (.ret 9 ([],r2))
  (.len 10 zAa.e a3<| .loopR 4 id ⟨_,_,_,_,_,zMt a0 a1 a2 a3 0 []⟩ fun j4=> .len 4 zAa.e a3<| .call 1 (zG9 (a3.length:Int) j4) zAh fun r5=> .ret 6 (r5.1,r5.2))))
noncomputable abbrev zRD:Fe:= .of Tryz.prog 131 zAe
theorem zQK (a0:List Int) (a1:zAa) (a2:Int):HS 131 (zF2 a0 a1 a2) [.lst (List.map (D.int .i64) a0), .agg [.lst (List.map (D.int .i64) a1.F_X), .int .i64 a1.F_Y], .int .i64 a2] zAe:=Tr.fn (F:=zRD)
 (.call 12 (zEU a0 a1.F_X a2) zAd fun r1=> .iteN 12 19 (r1.2=0)
  (.ret 9 (0,r1.2))
  (.call 7 (zFq r1.1 a1.F_Y) zAd fun r2=> .ret 6 (r2.1,r2.2)))
noncomputable abbrev zHt:Fe:= .of Tryz.prog 105 zAc
def zN7 (a0:List Int) (a1:Int) (a2:List zAa) (x0:Int) (x1:List (List Int)):St:=⟨[(26,nI x0),(25,nI (a2.length:Int)),(24, .d (.lst (List.map zAa.en a2))),(9, .sl (.h 0) 1 0 (List.map (enL (D.int .i64)) x1)),(0,lI a0),(1,nI a1),(2, .d (.lst (List.map zAa.en a2)))],[]⟩
def zNH (a0:List Int) (a1:Int) (a2:List zAa) (x:(List (List Int))):St:=⟨[(9, .sl (.h 1) 1 0 (List.map (enL (D.int .i64)) x)),(2, .d (.lst (List.map zAa.en a2)))],[]⟩
theorem zMZ (a0:List Int) (a1:Int) (a2:List zAa):∀(x0:Int) (x1:List (List Int)),Ok (zBB a0 a1 a2 x0 x1) (LR zHt (.exit 0) (zNH a0 a1 a2) 105 0 (zN7 a0 a1 a2 x0 x1)):=by
 refine zBB.partial_correctness a0 a1 a2 _ ?_
 intro f IH x0 x1
 exact Tr.lpR (F:=zHt) (X:=Int×(List (List Int)))
  (.ite 6 27 (x0<(a2.length:Int))
   (.idx 6 zAa.e a2 x0<| .call 9 (zQK a0 (at' a2 x0) a1) zAd fun r2=> .iteN 12 38 (r2.2=0)
   (.ret 12 (.inl ([],r2.2)))
   (.call 8 (zEN ((at' a2 x0).F_X) r2.1 a1) zAh fun r3=> .iteN 12 49 (r3.2=0)
   (.ret 12 (.inl ([],r3.2)))
   (.app 7 eI 8 r3.1 [r2.1]<| .app 1 (eL eI) 24 x1 [r3.1++[r2.1]]<| .again 7 (IntKind.i64.wrap (x0+1),x1++[r3.1++[r2.1]]))))
   (.ret 4 (.inr x1))) _ fun x r=>IH x.1 x.2 r
theorem zPO (a0:List Int) (a1:Int) (a2:List zAa):HS 105 (zFs a0 a1 a2) [.lst (List.map (D.int .i64) a0), .int .i64 a1, .lst (List.map zAa.en a2)] zAc:=Tr.fn (F:=zHt)
 (.len 9 eI a0<| .call 3 (zGx (IntKind.i64.wrap ((a0.length:Int)-1)) a0 a2) zAj fun r1=> .iteN 7 22 (r1=0)
  (.ret 9 ([],r1))
  (.len 10 zAa.e a2<| .loopR 4 id ⟨_,_,_,_,_,zMZ a0 a1 a2 0 []⟩ fun j4=> .len 4 zAa.e a2<| .call 1 (zG9 (a2.length:Int) j4) zAh fun r5=> .ret 6 (r5.1,r5.2)))
noncomputable abbrev zQV:Fe:= .of Tryz.prog 75 zAc
theorem zO3 (a0:zAf) (a1:List Int) (a2:List zAa):HS 75 (zFf a0 a1 a2) [.agg [.int .i64 a0.F_Kind, .int .i64 a0.F_In, .int .i64 a0.F_Out, .int .i64 a0.F_Hid, .int .i64 a0.F_Frac], .lst (List.map (D.int .i64) a1), .lst (List.map zAa.en a2)] zAc:=Tr.fn (F:=zQV)
 (.call 12 (zGV a0 a1 a2) zAj fun r1=> .iteN 7 14 (r1=0)
  (.ret 9 ([],r1))
  (.ite 14 18 (a0.F_Kind=1)
  (.call 9 (zPx a0.F_Out a1 a0.F_Frac a2) zAh fun r2=> .ret 8 (r2.1,r2.2))
  (.ite 6 29 (a0.F_Kind=2)
  (.call 9 (zO0 a0.F_Hid a1 a0.F_Frac a2) zAh fun r3=> .ret 8 (r3.1,r3.2))
  (.call 9 (zPO a1 a0.F_Frac a2) zAh fun r4=> .ret 6 (r4.1,r4.2)))))
noncomputable abbrev zHn:Fe:= .of Tryz.prog 76 zAc
def zM5 (a0:List Int) (a1:Int) (x0:Int) (x1:List Int):St:=⟨[(16,nI x0),(15,nI (a0.length:Int)),(14,lI a0),(6,sI (.h 0) x1),(1,nI a1)],[]⟩
def zNX (a0:List Int) (a1:Int) (x:(List Int)):St:=⟨[(6,sI (.h 1) x)],[]⟩
theorem zL9 (a0:List Int) (a1:Int):∀(x0:Int) (x1:List Int),Ok (zA6 a0 a1 x0 x1) (LN zHn (.exit 0) (zNX a0 a1) 76 0 (zM5 a0 a1 x0 x1)):=by
 refine zA6.partial_correctness a0 a1 _ ?_
 intro f IH x0 x1
 exact Tr.lpN (F:=zHn) (X:=Int×(List Int))
  (.ite 6 17 (x0<(a0.length:Int))
   (.idx 6 eI a0 x0<| .app 12 eI 8 x1 [if (if a1<(at' a0 x0) then a1 else at' a0 x0)>(IntKind.i64.wrap (0-a1)) then if a1<(at' a0 x0) then a1 else at' a0 x0 else IntKind.i64.wrap (0-a1)]<| .let_ (x1++[if (if a1<(at' a0 x0) then a1 else at' a0 x0)>(IntKind.i64.wrap (0-a1)) then if a1<(at' a0 x0) then a1 else at' a0 x0 else IntKind.i64.wrap (0-a1)]:List Int) fun y1=> .again 7 (IntKind.i64.wrap (x0+1),y1))
   (.ret 4 x1)) _ fun x r=>IH x.1 x.2 r
theorem zPS (a0:List Int) (a1:Int):HS 76 (zFh a0 a1) [.lst (List.map (D.int .i64) a0), .int .i64 a1] zAc:=Tr.fn (F:=zHn)
 (.len 9 eI a0<| .ite 2 11 ((a0.length:Int)>4096)
  (.ret 8 ([],3))
  (.ite 8 13 (a1<0)
  (.ret 8 ([],1))
  (.len 10 eI a0<| .loop 4 ⟨_,_,_,_,_,zL9 a0 a1 0 []⟩ fun j3=> .ret 8 (j3,0))))
noncomputable abbrev zQG:Fe:= .of Tryz.prog 38 zAc
theorem zOZ (a0:zAf) (a1:List Int) (a2:Int) (a3:List zAa):HS 38 (zFn a0 a1 a2 a3) [.agg [.int .i64 a0.F_Kind, .int .i64 a0.F_In, .int .i64 a0.F_Out, .int .i64 a0.F_Hid, .int .i64 a0.F_Frac], .lst (List.map (D.int .i64) a1), .int .i64 a2, .lst (List.map zAa.en a3)] zAc:=Tr.fn (F:=zQG)
 (.call 11 (zO3 a0 a1 a3) zAh fun r1=> .iteN 12 20 (r1.2=0)
  (.ret 9 ([],r1.2))
  (.call 6 (zPS r1.1 a2) zAh fun r2=> .ret 6 (r2.1,r2.2)))
noncomputable abbrev zHA:Fe:= .of Tryz.prog 22 zAc
def zNm (a0:zAq) (a3:List Int) (r1:(List Int)×Int) (x0:Int) (x1:List zAa):St:=⟨[(27,nI x0),(26,nI (r1.1.length:Int)),(25,sI (.s 1648) r1.1),(12, .sl (.h 0) 2 0 (List.map zAa.en x1)),(4, .ptr (.s 15) 0),(3,lI a3)],[(.s 15,[nI a0.F_N,nI a0.F_M.F_Kind,nI a0.F_M.F_In,nI a0.F_M.F_Out,nI a0.F_M.F_Hid,nI a0.F_M.F_Frac,nI a0.F_H.F_Scheme,nI a0.F_H.F_K,nI a0.F_H.F_Wide,nI a0.F_Warm,nI a0.F_Rate,nI a0.F_Mom,nI a0.F_Clip,nI a0.F_Batch,nU a0.F_Seed, .d (.lst (List.map zAa.en a0.F_L))])]⟩
def zNs (a0:zAq) (a3:List Int) (r1:(List Int)×Int) (x:(List zAa)):St:=⟨[(12, .sl (.h 1) 2 0 (List.map zAa.en x)),(4, .ptr (.s 15) 0),(3,lI a3)],[(.s 15,[nI a0.F_N,nI a0.F_M.F_Kind,nI a0.F_M.F_In,nI a0.F_M.F_Out,nI a0.F_M.F_Hid,nI a0.F_M.F_Frac,nI a0.F_H.F_Scheme,nI a0.F_H.F_K,nI a0.F_H.F_Wide,nI a0.F_Warm,nI a0.F_Rate,nI a0.F_Mom,nI a0.F_Clip,nI a0.F_Batch,nU a0.F_Seed, .d (.lst (List.map zAa.en a0.F_L))])]⟩
theorem zMc (a0:zAq) (a3:List Int) (r1:(List Int)×Int):∀(x0:Int) (x1:List zAa),Ok (zCb a0 a3 r1 x0 x1) (LN zHA (.exit 0) (zNs a0 a3 r1) 22 0 (zNm a0 a3 r1 x0 x1)):=by
 refine zCb.partial_correctness a0 a3 r1 _ ?_
 intro f IH x0 x1
 exact Tr.lpN (F:=zHA) (X:=Int×(List zAa))
  (.ite 6 28 (x0<(r1.1.length:Int))
   (.idx 6 eI r1.1 x0<| .idx 8 zAa.e a0.F_L (at' r1.1 x0)<| .app 2 zAa.e 32 x1 [at' a0.F_L (at' r1.1 x0)]<| .let_ (x1++[at' a0.F_L (at' r1.1 x0)]:List zAa) fun y2=> .again 7 (IntKind.i64.wrap (x0+1),y2))
   (.ret 4 x1)) _ fun x r=>IH x.1 x.2 r
theorem zPc (a0:zAq) (a1:Int) (a2:Int) (a3:List Int):HS 22 (zEp a0 a1 a2 a3) [.agg [.int .i64 a0.F_N, .int .i64 a0.F_M.F_Kind, .int .i64 a0.F_M.F_In, .int .i64 a0.F_M.F_Out, .int .i64 a0.F_M.F_Hid, .int .i64 a0.F_M.F_Frac, .int .i64 a0.F_H.F_Scheme, .int .i64 a0.F_H.F_K, .int .i64 a0.F_H.F_Wide, .int .i64 a0.F_Warm, .int .i64 a0.F_Rate, .int .i64 a0.F_Mom, .int .i64 a0.F_Clip, .int .i64 a0.F_Batch, .int .u64 a0.F_Seed, .lst (List.map zAa.en a0.F_L)], .int .i64 a1, .int .i64 a2, .lst (List.map (D.int .i64) a3)] zAc:=Tr.fn (F:=zHA)
 (.call 11 (zOx a0 a1 a2) zAh fun r1=> .iteN 12 23 (r1.2=0)
  (.ret 9 ([],r1.2))
  (.len 10 eI r1.1<| .loop 4 ⟨_,_,_,_,_,zMc a0 a3 r1 0 []⟩ fun j4=> .call 9 (zOZ a0.F_M a3 a0.F_Clip j4) zAh fun r5=> .ret 6 (r5.1,r5.2)))
noncomputable abbrev zHB:Fe:= .of Tryz.prog 23 zAi
def zN6 (a0:List Int) (a1:List Int) (x0:Int):St:=⟨[(13,nI x0),(12,nI (a0.length:Int)),(0,lI a0),(1,lI a1)],[]⟩
def zNP (a0:List Int) (a1:List Int) (x:Unit):St:=⟨[],[]⟩
theorem zL4 (a0:List Int) (a1:List Int):∀(x0:Int),Ok (zDz a0 a1 x0) (LR zHB (.exit 0) (zNP a0 a1) 23 0 (zN6 a0 a1 x0)):=by
 refine zDz.partial_correctness a0 a1 _ ?_
 intro f IH x0
 exact Tr.lpR (F:=zHB) (X:=Int)
  (.ite 6 14 (x0<(a0.length:Int))
   (.idx 13 eI a0 x0<| .idx 3 eI a1 x0<| .iteN 3 24 ((at' a0 x0)=(at' a1 x0))
   (.ret 9 (.inl false))
   (.again 7 (IntKind.i64.wrap (x0+1))))
   (.ret 4 (.inr ()))) _ fun x r=>IH x r
theorem zJo (a0:List Int) (a1:List Int):HS 23 (zEs a0 a1) [.lst (List.map (D.int .i64) a0), .lst (List.map (D.int .i64) a1)] zAi:=Tr.fn (F:=zHB)
 (.len 8 eI a0<| .len 1 eI a1<| .iteN 2 10 ((a0.length:Int)=(a1.length:Int))
  (.ret 7 false)
  (.len 6 eI a0<| .loopR 4 id ⟨_,_,_,_,_,zL4 a0 a1 0⟩ fun j1=> .ret 6 true))
noncomputable abbrev zLR:Fe:= .of Tryz.prog 6 zAi
theorem zK4 (a0:zAq) (a1:Int) (a2:Int) (a3:List Int):HS 6 (zE7 a0 a1 a2 a3) [.agg [.int .i64 a0.F_N, .int .i64 a0.F_M.F_Kind, .int .i64 a0.F_M.F_In, .int .i64 a0.F_M.F_Out, .int .i64 a0.F_M.F_Hid, .int .i64 a0.F_M.F_Frac, .int .i64 a0.F_H.F_Scheme, .int .i64 a0.F_H.F_K, .int .i64 a0.F_H.F_Wide, .int .i64 a0.F_Warm, .int .i64 a0.F_Rate, .int .i64 a0.F_Mom, .int .i64 a0.F_Clip, .int .i64 a0.F_Batch, .int .u64 a0.F_Seed, .lst (List.map zAa.en a0.F_L)], .int .i64 a1, .int .i64 a2, .lst (List.map (D.int .i64) a3)] zAi:=Tr.fn (F:=zLR)
 (.call 7 zP1 zAk fun r1=> .iteX 8 17 (r1)
  (.ret 7 false)
  (.call 6 (zQF a0) zAk fun r2=> .join 2 4 (γ:=Bool) ⟨fun x=>[(25,bB x)],[9,4,1,2,3],fun _=>[],[.s 15]⟩
  (.iteX 0 21 (r2)
  (.ret 5 true)
  (.len 1 eI a3<| .ret 3 (decide ((a3.length:Int)>500))))
  fun j3=> .iteB 1 25 (j3)
  (.ret 8 r1)
  (.appN 5 eI 8 a3<| .call 8 (zVC a0 a1 a2 a3) zAh fun r4=> .call 12 (zPc a0 a1 a2 a3) zAh fun r5=> .join 10 4 (γ:=Bool) ⟨fun x=>[(50,bB x)],[14,12,10,3],fun _=>[],[]⟩
  (.iteB 0 46 (r1)
  (.call 2 (zJo r4.1 r5.1) zAk fun r6=> .ret 2 r6)
  (.ret 5 false))
  fun j7=> .join 1 4 (γ:=Bool) ⟨fun x=>[(55,bB x)],[10,3],fun _=>[],[]⟩
  (.iteB 0 51 (j7)
  (.ret 5 (r4.2==r5.2))
  (.ret 5 false))
  fun j8=> .join 1 4 (γ:=Bool) ⟨fun x=>[(60,bB x)],[],fun _=>[],[]⟩
  (.iteB 0 56 (j8)
  (.call 2 (zJo a3 a3) zAk fun r9=> .ret 2 r9)
  (.ret 5 false))
  fun j10=> .ret 3 j10)))
end Go.Proofs.YtnmlihfpenjeiaaGreat.Abs
