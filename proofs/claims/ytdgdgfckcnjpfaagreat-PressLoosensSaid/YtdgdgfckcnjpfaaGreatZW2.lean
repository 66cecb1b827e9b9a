/- Walks of functions, printed by a program. Conditions: none. -/
import Derived.Test.YtdgdgfckcnjpfaaGreatProg
import Derived.Test.YtdgdgfckcnjpfaaGreatZW
namespace Go.Proofs.YtdgdgfckcnjpfaaGreat.Abs
open Go Go.RowKit
set_option linter.unusedVariables false
set_option maxRecDepth 100000
open Z
noncomputable abbrev zFg:Fe:= .of Tryz.prog 41 zAd
def zK8 (a0:List Bool) (a1:List Bool) (x0:Int):St:=⟨[(13,nI x0),(12,nI (a0.length:Int)),(0,lB a0),(1,lB a1)],[]⟩
def zLe (a0:List Bool) (a1:List Bool) (x:Unit):St:=⟨[],[]⟩
theorem zKD (a0:List Bool) (a1:List Bool):∀(x0:Int),Ok (zB8 a0 a1 x0) (LR zFg (.exit 0) (zLe a0 a1) 41 0 (zK8 a0 a1 x0)):=by
 refine zB8.partial_correctness a0 a1 _ ?_
 intro f IH x0
 exact Tr.lpR (F:=zFg) (X:=Int)
  (.ite 6 14 (x0<(a0.length:Int))
   (.idx 13 eB a0 x0<| .idx 3 eB a1 x0<| .iteN 3 24 ((at' a0 x0)=(at' a1 x0))
   (.ret 9 (.inl false))
   (.again 7 (IntKind.i64.wrap (x0+1))))
   (.ret 4 (.inr ()))) _ fun x r=>IH x r
theorem zMv (a0:List Bool) (a1:List Bool):HS 41 (zDv a0 a1) [.lst (List.map D.bool a0), .lst (List.map D.bool a1)] zAd:=Tr.fn (F:=zFg)
 (.len 8 eB a0<| .len 1 eB a1<| .iteN 2 10 ((a0.length:Int)=(a1.length:Int))
  (.ret 7 false)
  (.len 6 eB a0<| .loopR 4 id ⟨_,_,_,_,_,zKD a0 a1 0⟩ fun j1=> .ret 6 true))
noncomputable abbrev zOC:Fe:= .of Tryz.prog 15 zAd
theorem zHH (a0:zAc) (a1:zAc):HS 15 (zCU a0 a1) [.agg [.int .i64 a0.F_Scheme, .int .i64 a0.F_Dim, .lst (List.map (D.int .i64) a0.F_L), .lst (List.map (D.int .i64) a0.F_V), .int .i64 a0.F_Scale, .int .i64 a0.F_Wide, .lst (List.map (D.int .u64) a0.F_Lev), .lst (List.map D.bool a0.F_Neg)], .agg [.int .i64 a1.F_Scheme, .int .i64 a1.F_Dim, .lst (List.map (D.int .i64) a1.F_L), .lst (List.map (D.int .i64) a1.F_V), .int .i64 a1.F_Scale, .int .i64 a1.F_Wide, .lst (List.map (D.int .u64) a1.F_Lev), .lst (List.map D.bool a1.F_Neg)]] zAd:=Tr.fn (F:=zOC)
 (.join 14 6 (γ:=Bool) ⟨fun x=>[(16,bB x)],[3,2],fun _=>[],[.s 31, .s 15]⟩
  (.ite 0 10 (a0.F_Scheme=a1.F_Scheme)
  (.ret 7 (a0.F_Dim==a1.F_Dim))
  (.ret 7 false))
  fun j1=> .join 1 6 (γ:=Bool) ⟨fun x=>[(23,bB x)],[3,2],fun _=>[],[.s 31, .s 15]⟩
  (.iteB 0 17 (j1)
  (.call 4 (zP0 a0.F_L a1.F_L) zAe fun r2=> .ret 2 r2)
  (.ret 7 false))
  fun j3=> .join 1 6 (γ:=Bool) ⟨fun x=>[(30,bB x)],[3,2],fun _=>[],[.s 31, .s 15]⟩
  (.iteB 0 24 (j3)
  (.call 4 (zCs a0.F_V a1.F_V) zAe fun r4=> .ret 2 r4)
  (.ret 7 false))
  fun j5=> .join 1 6 (γ:=Bool) ⟨fun x=>[(37,bB x)],[3,2],fun _=>[],[.s 31, .s 15]⟩
  (.iteB 0 31 (j5)
  (.ret 7 (a0.F_Scale==a1.F_Scale))
  (.ret 7 false))
  fun j6=> .join 1 6 (γ:=Bool) ⟨fun x=>[(44,bB x)],[3,2],fun _=>[],[.s 31, .s 15]⟩
  (.iteB 0 38 (j6)
  (.ret 7 (a0.F_Wide==a1.F_Wide))
  (.ret 7 false))
  fun j7=> .join 1 6 (γ:=Bool) ⟨fun x=>[(51,bB x)],[3,2],fun _=>[],[.s 31, .s 15]⟩
  (.iteB 0 45 (j7)
  (.call 4 (zK6 a0.F_Lev a1.F_Lev) zAe fun r8=> .ret 2 r8)
  (.ret 7 false))
  fun j9=> .join 1 6 (γ:=Bool) ⟨fun x=>[(58,bB x)],[],fun _=>[],[]⟩
  (.iteB 0 52 (j9)
  (.call 4 (zMv a0.F_Neg a1.F_Neg) zAe fun r10=> .ret 2 r10)
  (.ret 7 false))
  fun j11=> .ret 3 j11)
noncomputable abbrev zUt:Fe:= .of Tryz.prog 54 zAd
theorem zTc (a0:Int) (a1:List Int) (a2:zAc):HS 54 (zGV a0 a1 a2) [.int .i64 a0, .lst (List.map (D.int .i64) a1), .agg [.int .i64 a2.F_Scheme, .int .i64 a2.F_Dim, .lst (List.map (D.int .i64) a2.F_L), .lst (List.map (D.int .i64) a2.F_V), .int .i64 a2.F_Scale, .int .i64 a2.F_Wide, .lst (List.map (D.int .u64) a2.F_Lev), .lst (List.map D.bool a2.F_Neg)]] zAd:=Tr.fn (F:=zUt)
 (.callZ 9 (zQh a0 a1) fun r1=> .join 12 4 (γ:=Bool) ⟨fun x=>[(21,bB x)],[],fun _=>[],[]⟩
  (.ite 0 17 (r1.2.2.2.2.2.2=0)
  (.call 2 (zHH (⟨r1.1,r1.2.1,r1.2.2.1,r1.2.2.2.1,r1.2.2.2.2.1,r1.2.2.2.2.2.1,[],[]⟩:zAc) a2) zAe fun r2=> .ret 2 r2)
  (.ret 5 false))
  fun j3=> .ret 3 j3)
noncomputable abbrev zTi:Fe:= .of Tryz.prog 188 zAn
theorem zSe (a0:Int):HS 188 (zH7 a0) [.int .i64 a0] zAn:=Tr.fn (F:=zTi)
 (.call 8 (zKU 0 a0) zAz fun r1=> .ret 6 (r1.1,r1.2))
noncomputable abbrev zS9:Fe:= .of Tryz.prog 148 zAn
theorem zKS (a0:Int):HS 148 (zEt a0) [.int .i64 a0] zAn:=Tr.fn (F:=zS9)
 (.ite 11 5 (a0<0)
  (.call 4 (zSe a0) zAz fun r1=> .ret 7 (r1.1,r1.2))
  (.ret 9 (a0,0)))
noncomputable abbrev zHB:Fe:= .of Tryz.prog 94 zAn
def zOM (a0:List Int) (x0:Int) (x1:Int):St:=⟨[(14,nI x0),(13,nI (a0.length:Int)),(12,lI a0),(4,nI x1)],[]⟩
def zPj (a0:List Int) (x:Int):St:=⟨[(4,nI x)],[]⟩
theorem zNW (a0:List Int):∀(x0:Int) (x1:Int),Ok (zBU a0 x0 x1) (LR zHB (.exit 0) (zPj a0) 94 0 (zOM a0 x0 x1)):=by
 refine zBU.partial_correctness a0 _ ?_
 intro f IH x0 x1
 exact Tr.lpR (F:=zHB) (X:=Int×Int)
  (.ite 6 15 (x0<(a0.length:Int))
   (.idx 6 eI a0 x0<| .call 6 (zKS (at' a0 x0)) zAz fun r1=> .iteN 12 24 (r1.2=0)
   (.ret 12 (.inl (0,r1.2)))
   (.again 13 (IntKind.i64.wrap (x0+1),if r1.1>x1 then r1.1 else x1)))
   (.ret 4 (.inr x1))) _ fun x r=>IH x.1 x.2 r
theorem zQw (a0:List Int):HS 94 (zFt a0) [.lst (List.map (D.int .i64) a0)] zAn:=Tr.fn (F:=zHB)
 (.len 9 eI a0<| .ite 2 11 ((a0.length:Int)>4096)
  (.ret 8 (0,3))
  (.len 10 eI a0<| .loopR 4 id ⟨_,_,_,_,_,zNW a0 0 0⟩ fun j2=> .ret 8 (j2,0)))
noncomputable abbrev zHg:Fe:= .of Tryz.prog 95 zFW
def zOF (a0:Int) (a1:Int) (r1:Int×Int) (x0:Int) (x1:Int) (x2:Int):St:=⟨[(34,nU x0),(33,nU r1.1),(12,nU x1),(11,nU x2),(0,nI a0),(1,nI a1)],[]⟩
def zOi (a0:Int) (a1:Int) (r1:Int×Int) (x:Int×Int):St:=⟨[(12,nU x.1),(11,nU x.2)],[]⟩
theorem zNj (a0:Int) (a1:Int) (r1:Int×Int):∀(x0:Int) (x1:Int) (x2:Int),Ok (zBj a0 a1 r1 x0 x1 x2) (LN zHg (.exit 0) (zOi a0 a1 r1) 95 0 (zOF a0 a1 r1 x0 x1 x2)):=by
 refine zBj.partial_correctness a0 a1 r1 _ ?_
 intro f IH x0 x1 x2
 exact Tr.lpN (F:=zHg) (X:=Int×Int×Int)
  (.ite 6 35 (x0<r1.1)
   (.call 8 (zES a0) zBH fun r5=> .ite 10 43 ((IntKind.u64.wrap (x1+r5))≥(IntKind.u64.wrap a1))
   (.let_ (IntKind.u64.wrap ((IntKind.u64.wrap (x1+r5))-(IntKind.u64.wrap a1)):Int) fun y6=> .again 19 (IntKind.u64.wrap (x0+1),y6,IntKind.u64.wrap (x2+1)))
   (.again 7 (IntKind.u64.wrap (x0+1),IntKind.u64.wrap (x1+r5),x2)))
   (.ret 4 (x1,x2))) _ fun x r=>IH x.1 x.2.1 x.2.2 r
theorem zP2 (a0:Int) (a1:Int) (a2:Int):HS 95 (zET a0 a1 a2) [.int .i64 a0, .int .i64 a1, .int .i64 a2] zFW:=Tr.fn (F:=zHg)
 (.call 9 (zIT a2) zEb fun r1=> .join 12 3 (γ:=Bool) ⟨fun x=>[(23,bB x)],[9,0,1],fun _=>[],[]⟩
  (.iteN 0 20 (r1.2=0)
  (.ret 4 true)
  (.ret 4 (decide (a1<0))))
  fun j2=> .join 1 6 (γ:=Bool) ⟨fun x=>[(30,bB x)],[9,0,1],fun _=>[],[]⟩
  (.iteB 0 24 (j2)
  (.ret 7 true)
  (.call 1 (zES a0) zBH fun r3=> .ret 5 (decide (r3>(IntKind.u64.wrap a1)))))
  fun j4=> .iteB 1 30 (j4)
  (.ret 9 (0,0,1))
  (.ite 8 32 (a1=0)
  (.ret 9 (0,0,0))
  (.loop 18 ⟨_,_,_,_,_,zNj a0 a1 r1 0 0 0⟩ fun j8=> .ret 10 (j8.2,j8.1,0))))
noncomputable abbrev zHA:Fe:= .of Tryz.prog 55 zAd
def zOL (a0:List Int) (a1:zAc) (r1:Int×Int) (x0:Int):St:=⟨[(44,nI x0),(43,nI (a0.length:Int)),(42,lI a0),(5,nI r1.1),(3, .ptr (.s 15) 0)],[(.s 15,[nI a1.F_Scheme,nI a1.F_Dim,lI a1.F_L,lI a1.F_V,nI a1.F_Scale,nI a1.F_Wide,lU a1.F_Lev,lB a1.F_Neg])]⟩
def zO5 (a0:List Int) (a1:zAc) (r1:Int×Int) (x:Unit):St:=⟨[],[]⟩
theorem zNK (a0:List Int) (a1:zAc) (r1:Int×Int):∀(x0:Int),Ok (zBs a0 a1 r1 x0) (LR zHA (.exit 0) (zO5 a0 a1 r1) 55 0 (zOL a0 a1 r1 x0)):=by
 refine zBs.partial_correctness a0 a1 r1 _ ?_
 intro f IH x0
 exact Tr.lpR (F:=zHA) (X:=Int)
  (.ite 6 45 (x0<(a0.length:Int))
   (.idx 7 eI a0 x0<| .call 10 (zP2 (at' a0 x0) r1.1 a1.F_Wide) zI3 fun r7=> .idx 13 eB a1.F_Neg x0<| .iteN 5 66 ((at' a1.F_Neg x0)=(decide ((at' a0 x0)<0)))
   (.ret 32 (.inl false))
   (.idx 3 eU a1.F_Lev x0<| .iteN 4 74 ((at' a1.F_Lev x0)=r7.1)
   (.ite 3 77 (r7.2.1=0)
   (.ret 21 (.inl false))
   (.idx 3 eU a1.F_Lev x0<| .iteN 8 88 ((at' a1.F_Lev x0)=(IntKind.u64.wrap (r7.1+1)))
   (.ret 9 (.inl false))
   (.again 7 (IntKind.i64.wrap (x0+1)))))
   (.again 22 (IntKind.i64.wrap (x0+1)))))
   (.ret 4 (.inr ()))) _ fun x r=>IH x r
theorem zQ1 (a0:List Int) (a1:zAc):HS 55 (zFD a0 a1) [.lst (List.map (D.int .i64) a0), .agg [.int .i64 a1.F_Scheme, .int .i64 a1.F_Dim, .lst (List.map (D.int .i64) a1.F_L), .lst (List.map (D.int .i64) a1.F_V), .int .i64 a1.F_Scale, .int .i64 a1.F_Wide, .lst (List.map (D.int .u64) a1.F_Lev), .lst (List.map D.bool a1.F_Neg)]] zAd:=Tr.fn (F:=zHA)
 (.call 8 (zQw a0) zAz fun r1=> .join 12 4 (γ:=Bool) ⟨fun x=>[(23,bB x)],[5,3,0],fun _=>[],[.s 15]⟩
  (.iteN 0 19 (r1.2=0)
  (.ret 5 true)
  (.call 1 (zDg a1) zAe fun r2=> .ret 3 (!r2)))
  fun j3=> .join 1 4 (γ:=Bool) ⟨fun x=>[(28,bB x)],[5,3,0],fun _=>[],[.s 15]⟩
  (.iteB 0 24 (j3)
  (.ret 5 true)
  (.ret 5 (a1.F_Scheme !=2)))
  fun j4=> .join 1 6 (γ:=Bool) ⟨fun x=>[(35,bB x)],[5,3,0],fun _=>[],[.s 15]⟩
  (.iteB 0 29 (j4)
  (.ret 7 true)
  (.len 3 eI a0<| .ret 3 (a1.F_Dim !=(a0.length:Int))))
  fun j5=> .join 1 5 (γ:=Bool) ⟨fun x=>[(41,bB x)],[5,3,0],fun _=>[],[.s 15]⟩
  (.iteB 0 36 (j5)
  (.ret 6 true)
  (.ret 6 (a1.F_Scale !=r1.1)))
  fun j6=> .iteB 1 41 (j6)
  (.ret 7 false)
  (.len 6 eI a0<| .loopR 4 id ⟨_,_,_,_,_,zNK a0 a1 r1 0⟩ fun j8=> .ret 6 true))
noncomputable abbrev zTe:Fe:= .of Tryz.prog 99 zAn
theorem zRP (a0:Int) (a1:Int):HS 99 (zDq a0 a1) [.int .i64 a0, .int .i64 a1] zAn:=Tr.fn (F:=zTe)
 (.join 11 5 (γ:=Bool) ⟨fun x=>[(13,bB x)],[0,1],fun _=>[],[]⟩
  (.ite 0 8 (a1>0)
  (.ret 6 (decide (a0>(IntKind.i64.wrap (9223372036854775807-a1)))))
  (.ret 6 false))
  fun j1=> .iteB 1 14 (j1)
  (.ret 18 (0,2))
  (.ite 3 17 (a1<0)
  (.ite 7 23 (a0<(IntKind.i64.wrap ((-9223372036854775808)-a1)))
  (.ret 8 (0,2))
  (.ret 11 (IntKind.i64.wrap (a0+a1),0)))
  (.ret 18 (IntKind.i64.wrap (a0+a1),0))))
noncomputable abbrev zHE:Fe:= .of Tryz.prog 151 zAn
def zPa (a0:List Int) (x0:Int) (x1:Int):St:=⟨[(14,nI x0),(13,nI (a0.length:Int)),(12,lI a0),(4,nI x1)],[]⟩
def zPx (a0:List Int) (x:Int):St:=⟨[(4,nI x)],[]⟩
theorem zOm (a0:List Int):∀(x0:Int) (x1:Int),Ok (zBT a0 x0 x1) (LR zHE (.exit 0) (zPx a0) 151 0 (zPa a0 x0 x1)):=by
 refine zBT.partial_correctness a0 _ ?_
 intro f IH x0 x1
 exact Tr.lpR (F:=zHE) (X:=Int×Int)
  (.ite 6 15 (x0<(a0.length:Int))
   (.idx 6 eI a0 x0<| .call 6 (zKS (at' a0 x0)) zAz fun r1=> .iteN 12 24 (r1.2=0)
   (.ret 12 (.inl (0,r1.2)))
   (.call 6 (zRP x1 r1.1) zAz fun r2=> .iteN 11 33 (r2.2=0)
   (.ret 11 (.inl (0,r2.2)))
   (.again 7 (IntKind.i64.wrap (x0+1),r2.1))))
   (.ret 4 (.inr x1))) _ fun x r=>IH x.1 x.2 r
theorem zRb (a0:List Int):HS 151 (zFy a0) [.lst (List.map (D.int .i64) a0)] zAn:=Tr.fn (F:=zHE)
 (.len 9 eI a0<| .ite 2 11 ((a0.length:Int)>4096)
  (.ret 8 (0,3))
  (.len 10 eI a0<| .loopR 4 id ⟨_,_,_,_,_,zOm a0 0 0⟩ fun j3=> .ret 8 (j3,0)))
noncomputable abbrev zR9:Fe:= .of Tryz.prog 97 zAn
theorem zQp (a0:List Int):HS 97 (zFu a0) [.lst (List.map (D.int .i64) a0)] zAn:=Tr.fn (F:=zR9)
 (.len 9 eI a0<| .ite 2 8 ((a0.length:Int)=0)
  (.ret 8 (0,1))
  (.call 5 (zRb a0) zAz fun r1=> .iteN 12 15 (r1.2=0)
  (.ret 9 (0,r1.2))
  (.len 6 eI a0<| .rd 0 ((a0.length:Int)≠0) (nI (IntKind.i64.wrap (Int.tdiv r1.1 (a0.length:Int))))<| .ret 4 (IntKind.i64.wrap (Int.tdiv r1.1 (a0.length:Int)),0))))
def zIV (v:Int×Int×Int×Int×(List Bool)×Int):PV:= .tup [.d (.agg [.int .i64 v.1, .int .i64 v.2.1, .lst [], .lst [], .int .i64 v.2.2.1, .int .i64 v.2.2.2.1, .lst [], .lst (List.map D.bool v.2.2.2.2.1)]),nI v.2.2.2.2.2]
noncomputable abbrev zG7:Fe:= .of Tryz.prog 37 zIV
def zNL (a0:List Int) (r1:Int×Int) (x0:Int) (x1:List Bool):St:=⟨[(24,nI x0),(23,nI (a0.length:Int)),(22,lI a0),(6, .ptr (.s 6479) 0),(2, .ptr (.s 15) 0)],[(.s 6479,[nI 3,nI (a0.length:Int), .nils, .nils,nI r1.1,nI 0, .nils,sB (.h 0) x1]),(.s 15,[nI 0,nI 0, .nils, .nils,nI 0,nI 0, .nils, .nils])]⟩
def zOp (a0:List Int) (r1:Int×Int) (x:(List Bool)):St:=⟨[(6, .ptr (.s 6479) 0),(2, .ptr (.s 15) 0)],[(.s 6479,[nI 3,nI (a0.length:Int), .nils, .nils,nI r1.1,nI 0, .nils,sB (.h 1) x]),(.s 15,[nI 0,nI 0, .nils, .nils,nI 0,nI 0, .nils, .nils])]⟩
theorem zNa (a0:List Int) (r1:Int×Int):∀(x0:Int) (x1:List Bool),Ok (zBB a0 r1 x0 x1) (LN zG7 (.exit 0) (zOp a0 r1) 37 0 (zNL a0 r1 x0 x1)):=by
 refine zBB.partial_correctness a0 r1 _ ?_
 intro f IH x0 x1
 exact Tr.lpN (F:=zG7) (X:=Int×(List Bool))
  (.ite 6 25 (x0<(a0.length:Int))
   (.idx 6 eI a0 x0<| .app 9 eB 1 x1 [decide ((at' a0 x0)<0)]<| .let_ (x1++[decide ((at' a0 x0)<0)]:List Bool) fun y2=> .again 8 (IntKind.i64.wrap (x0+1),y2))
   (.ret 4 x1)) _ fun x r=>IH x.1 x.2 r
theorem zPX (a0:List Int):HS 37 (zEQ a0) [.lst (List.map (D.int .i64) a0)] zIV:=Tr.fn (F:=zG7)
 (.call 8 (zQp a0) zAz fun r1=> .iteN 12 15 (r1.2=0)
  (.ret 10 (0,0,0,0,[],r1.2))
  (.len 5 eI a0<| .len 9 eI a0<| .loop 4 ⟨_,_,_,_,_,zNa a0 r1 0 []⟩ fun j4=> .ret 8 (3,(a0.length:Int),r1.1,0,j4,0)))
noncomputable abbrev zU4:Fe:= .of Tryz.prog 56 zAd
theorem zTv (a0:List Int) (a1:zAc):HS 56 (zGP a0 a1) [.lst (List.map (D.int .i64) a0), .agg [.int .i64 a1.F_Scheme, .int .i64 a1.F_Dim, .lst (List.map (D.int .i64) a1.F_L), .lst (List.map (D.int .i64) a1.F_V), .int .i64 a1.F_Scale, .int .i64 a1.F_Wide, .lst (List.map (D.int .u64) a1.F_Lev), .lst (List.map D.bool a1.F_Neg)]] zAd:=Tr.fn (F:=zU4)
 (.callZ 8 (zPX a0) fun r1=> .join 12 4 (γ:=Bool) ⟨fun x=>[(18,bB x)],[],fun _=>[],[]⟩
  (.ite 0 14 (r1.2.2.2.2.2=0)
  (.call 2 (zHH (⟨r1.1,r1.2.1,[],[],r1.2.2.1,r1.2.2.2.1,[],r1.2.2.2.2.1⟩:zAc) a1) zAe fun r2=> .ret 2 r2)
  (.ret 5 false))
  fun j3=> .ret 3 j3)
noncomputable abbrev zRa:Fe:= .of Tryz.prog 29 zAd
theorem zPZ (a0:zAi) (a1:List Int) (a2:zAc):HS 29 (zEW a0 a1 a2) [.agg [.int .i64 a0.F_Scheme, .int .i64 a0.F_K, .int .i64 a0.F_Wide], .lst (List.map (D.int .i64) a1), .agg [.int .i64 a2.F_Scheme, .int .i64 a2.F_Dim, .lst (List.map (D.int .i64) a2.F_L), .lst (List.map (D.int .i64) a2.F_V), .int .i64 a2.F_Scale, .int .i64 a2.F_Wide, .lst (List.map (D.int .u64) a2.F_Lev), .lst (List.map D.bool a2.F_Neg)]] zAd:=Tr.fn (F:=zRa)
 (.len 11 eI a1<| .call 0 (zP4 a0 (a1.length:Int)) zAr fun r1=> .join 2 4 (γ:=Bool) ⟨fun x=>[(16,bB x)],[5,3,1],fun _=>[],[.s 31, .s 15]⟩
  (.iteN 0 12 (r1=0)
  (.ret 5 true)
  (.call 1 (zDg a2) zAe fun r2=> .ret 3 (!r2)))
  fun j3=> .join 1 6 (γ:=Bool) ⟨fun x=>[(23,bB x)],[5,3,1],fun _=>[],[.s 31, .s 15]⟩
  (.iteB 0 17 (j3)
  (.ret 7 true)
  (.ret 7 (a2.F_Scheme !=a0.F_Scheme)))
  fun j4=> .iteB 1 23 (j4)
  (.ret 7 false)
  (.ite 14 26 (a0.F_Scheme=1)
  (.call 7 (zTc a0.F_K a1 a2) zAe fun r5=> .ret 5 r5)
  (.ite 6 33 (a0.F_Scheme=2)
  (.join 9 4 (γ:=Bool) ⟨fun x=>[(44,bB x)],[],fun _=>[],[]⟩
  (.ite 0 40 (a2.F_Wide=a0.F_Wide)
  (.call 2 (zQ1 a1 a2) zAe fun r6=> .ret 2 r6)
  (.ret 5 false))
  fun j7=> .ret 5 j7)
  (.ite 6 45 (a0.F_Scheme=3)
  (.call 5 (zTv a1 a2) zAe fun r8=> .ret 5 r8)
  (.call 8 (zCs a2.F_V a1) zAe fun r9=> .ret 3 r9)))))
noncomputable abbrev zD3:Fe:= .of Tryz.prog 7 zAd
def zI9 (a0:zAi) (a1:List Int) (a2:zAc) (r1:Bool) (r5:(List Int)×Int) (r6:(List Int)×Int) (x0:Int) (x1:List Int):St:=⟨[(99,nI x0),(98,nI (r5.1.length:Int)),(11,nI r6.2),(10,sI (.s 11216) r6.1),(8,sI (.h 0) x1),(7,bB r1),(5, .ptr (.s 31) 0),(3, .ptr (.s 15) 0),(1,lI a1)],[(.s 31,[nI a2.F_Scheme,nI a2.F_Dim,lI a2.F_L,lI a2.F_V,nI a2.F_Scale,nI a2.F_Wide,lU a2.F_Lev,lB a2.F_Neg]),(.s 15,[nI a0.F_Scheme,nI a0.F_K,nI a0.F_Wide])]⟩
def zI0 (a0:zAi) (a1:List Int) (a2:zAc) (r1:Bool) (r5:(List Int)×Int) (r6:(List Int)×Int) (x:Unit):St:=⟨[(11,nI r6.2),(10,sI (.s 11216) r6.1),(7,bB r1),(5, .ptr (.s 31) 0),(3, .ptr (.s 15) 0),(1,lI a1)],[(.s 31,[nI a2.F_Scheme,nI a2.F_Dim,lI a2.F_L,lI a2.F_V,nI a2.F_Scale,nI a2.F_Wide,lU a2.F_Lev,lB a2.F_Neg]),(.s 15,[nI a0.F_Scheme,nI a0.F_K,nI a0.F_Wide])]⟩
theorem zIN (a0:zAi) (a1:List Int) (a2:zAc) (r1:Bool) (r5:(List Int)×Int) (r6:(List Int)×Int):∀(x0:Int) (x1:List Int),Ok (zAW a0 a1 a2 r1 r5 r6 x0 x1) (LN zD3 (.exit 0) (zI0 a0 a1 a2 r1 r5 r6) 7 0 (zI9 a0 a1 a2 r1 r5 r6 x0 x1)):=by
 refine zAW.partial_correctness a0 a1 a2 r1 r5 r6 _ ?_
 intro f IH x0 x1
 exact Tr.lpN (F:=zD3) (X:=Int×(List Int))
  (.ite 6 100 (x0<(r5.1.length:Int))
   (.idx 12 eI x1 x0<| .idx 2 eI x1 x0<| .sto 0 [8] eI x1 x0 (IntKind.i64.wrap ((at' x1 x0)+1))<| .let_ (x1.set (Int.toNat x0) (IntKind.i64.wrap ((at' x1 x0)+1)):List Int) fun y18=> .again 6 (IntKind.i64.wrap (x0+1),y18))
   (.ret 4 ())) _ fun x r=>IH x.1 x.2 r
theorem zKK (a0:zAi) (a1:List Int) (a2:zAc):HS 7 (zD8 a0 a1 a2) [.agg [.int .i64 a0.F_Scheme, .int .i64 a0.F_K, .int .i64 a0.F_Wide], .lst (List.map (D.int .i64) a1), .agg [.int .i64 a2.F_Scheme, .int .i64 a2.F_Dim, .lst (List.map (D.int .i64) a2.F_L), .lst (List.map (D.int .i64) a2.F_V), .int .i64 a2.F_Scale, .int .i64 a2.F_Wide, .lst (List.map (D.int .u64) a2.F_Lev), .lst (List.map D.bool a2.F_Neg)]] zAd:=Tr.fn (F:=zD3)
 (.call 8 zQl zAe fun r1=> .iteX 8 25 (r1)
  (.ret 7 false)
  (.call 7 (zRN [] [a1]) zAe fun r2=> .join 2 3 (γ:=Bool) ⟨fun x=>[(33,bB x)],[7,5,3,1],fun _=>[],[.s 31, .s 15]⟩
  (.iteX 0 30 (r2)
  (.ret 4 true)
  (.call 1 (zR8 a2) zAe fun r3=> .ret 2 r3))
  fun j4=> .iteB 1 33 (j4)
  (.ret 8 r1)
  (.call 5 (zIx a2) zAl fun r5=> .call 9 (zIC a2) zAl fun r6=> .call 10 (zPO a1 a2) zAl fun r7=> .call 10 (zQq a1 a2) zAl fun r8=> .call 9 (zVB a2) zAz fun r9=> .call 9 (zPR a2) zAz fun r10=> .call 11 (zCs r5.1 r6.1) zAe fun r11=> .join 2 4 (γ:=Bool) ⟨fun x=>[(75,bB x)],[19,18,17,16,15,14,13,12,11,10,8,7,5,3,1],fun _=>[],[.s 31, .s 15]⟩
  (.iteX 0 71 (r11)
  (.ret 5 true)
  (.ret 5 (r5.2 !=r6.2)))
  fun j12=> .join 1 5 (γ:=Bool) ⟨fun x=>[(81,bB x)],[19,18,17,16,15,13,11,10,8,7,5,3,1],fun _=>[],[.s 31, .s 15]⟩
  (.iteB 0 76 (j12)
  (.ret 6 true)
  (.call 2 (zCs r7.1 r8.1) zAe fun r13=> .ret 3 (!r13)))
  fun j14=> .join 1 4 (γ:=Bool) ⟨fun x=>[(86,bB x)],[19,18,17,16,11,10,8,7,5,3,1],fun _=>[],[.s 31, .s 15]⟩
  (.iteB 0 82 (j14)
  (.ret 5 true)
  (.ret 5 (r7.2 !=r8.2)))
  fun j15=> .join 1 4 (γ:=Bool) ⟨fun x=>[(91,bB x)],[19,17,11,10,8,7,5,3,1],fun _=>[],[.s 31, .s 15]⟩
  (.iteB 0 87 (j15)
  (.ret 5 true)
  (.ret 5 (r9.1 !=r10.1)))
  fun j16=> .join 1 4 (γ:=Bool) ⟨fun x=>[(96,bB x)],[11,10,8,7,5,3,1],fun _=>[],[.s 31, .s 15]⟩
  (.iteB 0 92 (j16)
  (.ret 5 true)
  (.ret 5 (r9.2 !=r10.2)))
  fun j17=> .iteB 1 96 (j17)
  (.ret 7 false)
  (.len 6 eI r5.1<| .loop 4 ⟨_,_,_,_,_,zIN a0 a1 a2 r1 r5 r6 0 r5.1⟩ fun j20=> .call 4 (zIx a2) zAl fun r21=> .iteB 10 115 (r1)
  (.call 2 (zCs r21.1 r6.1) zAe fun r22=> .iteB 2 120 (r22)
  (.ite 5 125 (r21.2=r6.2)
  (.call 6 (zVP a0 a1 a2) zAe fun r23=> .hold 1 []<| .call 0 (zPZ a0 a1 a2) zAe fun r24=> .ret 6 (r23==r24))
  (.hold 8 []<| .ret 7 false))
  (.hold 13 []<| .ret 7 false))
  (.hold 18 []<| .ret 7 false)))))
end Go.Proofs.YtdgdgfckcnjpfaaGreat.Abs
