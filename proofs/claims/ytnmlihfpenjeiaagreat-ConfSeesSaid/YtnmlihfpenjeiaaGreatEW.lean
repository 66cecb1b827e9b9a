/- Walks of functions, printed by a program. Conditions: none. -/
import Derived.Test.YtnmlihfpenjeiaaGreatProg
import Derived.Test.YtnmlihfpenjeiaaGreatAbsG8
import Derived.Test.YtnmlihfpenjeiaaGreatEM
namespace Go.Proofs.YtnmlihfpenjeiaaGreat.Abs
open Go Go.RowKit
set_option linter.unusedVariables false
set_option maxRecDepth 100000
open Z
def zAc.e:Enc zAc:=⟨zAc.en,5,fun _=>rfl⟩
def zBb.e:Enc zBb:=⟨zBb.en,3,fun _=>rfl⟩
def zAa.e:Enc zAa:=⟨zAa.en,2,fun _=>rfl⟩
def zAl.e:Enc zAl:=⟨zAl.en,16,fun _=>rfl⟩
def zAv.e:Enc zAv:=⟨zAv.en,5,fun _=>rfl⟩
def zAx.e:Enc zAx:=⟨zAx.en,5,fun _=>rfl⟩
def zAD.e:Enc zAD:=⟨zAD.en,5,fun _=>rfl⟩
def zBv.e:Enc zBv:=⟨zBv.en,2,fun _=>rfl⟩
def zEG.e:Enc zEG:=⟨zEG.en,1,fun _=>rfl⟩
def zBf.e:Enc zBf:=⟨zBf.en,3,fun _=>rfl⟩
abbrev HS {ρ:Type} (n:Nat) (m:Option ρ) (ds:List D) (en:ρ→PV):Prop:=Sg.Holds (P:=Tryz.prog) ⟨n,m,ds,en⟩
abbrev HG {ρ:Type} (n:Nat) (m:Option ρ) (ps:List PV) (bx:List (Tg×List PV)) (en:ρ→PV) (bx':ρ→List (Tg×List PV)):Prop:=SgG.Holds (P:=Tryz.prog) ⟨n,m,ps,bx,en,bx'⟩
def zAd (v:Bool):PV:=bB v
noncomputable abbrev zNy:Fe:= .of Tryz.prog 24 zAd
theorem zAg:∀v,(zAd v).noLst:=fun _=>trivial
theorem zBy (a0:Int) (a1:Int) (a2:Int):HS 24 (zBc a0 a1 a2) [.int .i64 a0, .int .i64 a1, .int .i64 a2] zAd:=Tr.fn (F:=zNy)
 (.join 10 4 (γ:=Bool) ⟨fun x=>[(14,bB x)],[],fun _=>[],[]⟩
  (.ite 0 10 (a0≥a1)
  (.ret 5 (decide (a0≤a2)))
  (.ret 5 false))
  fun j1=> .ret 3 j1)
def zAk (v:Int×Int):PV:= .tup [nI v.1,nI v.2]
noncomputable abbrev zTC:Fe:= .of Tryz.prog 17 zAk
theorem zAe:∀v,(zAk v).noLst:=fun _=>⟨trivial,trivial,trivial⟩
theorem zSm (a0:Int) (a1:Int) (a2:Int) (a3:Int):HS 17 (zDN a0 a1 a2 a3) [.int .i64 a0, .int .i64 a1, .int .i64 a2, .int .i64 a3] zAk:=Tr.fn (F:=zTC)
 (.call 10 (zBy a0 1 4096) zAg fun r1=> .join 2 5 (γ:=Bool) ⟨fun x=>[(19,bB x)],[0,1,2,3],fun _=>[],[]⟩
  (.iteX 0 14 (r1)
  (.ret 6 true)
  (.call 2 (zBy a1 0 a0) zAg fun r2=> .ret 3 (!r2)))
  fun j3=> .join 1 4 (γ:=Bool) ⟨fun x=>[(24,bB x)],[0,1,2,3],fun _=>[],[]⟩
  (.iteB 0 20 (j3)
  (.ret 5 true)
  (.call 1 (zBy a2 0 1048576) zAg fun r4=> .ret 3 (!r4)))
  fun j5=> .join 1 4 (γ:=Bool) ⟨fun x=>[(29,bB x)],[0,1,2,3],fun _=>[],[]⟩
  (.iteB 0 25 (j5)
  (.ret 5 true)
  (.call 1 (zBy a3 0 1073741824) zAg fun r6=> .ret 3 (!r6)))
  fun j7=> .iteB 2 10 (j7)
  (.ret 9 (0,1))
  (.ite 8 30 (a3≥a2)
  (.ret 10 (a1,0))
  (.rd 12 (a2≠0) (nI (IntKind.i64.wrap (Int.tdiv (IntKind.i64.wrap ((IntKind.i64.wrap (a0-a1))*a3)) a2)))<| .ret 5 (IntKind.i64.wrap (a0-(IntKind.i64.wrap (Int.tdiv (IntKind.i64.wrap ((IntKind.i64.wrap (a0-a1))*a3)) a2))),0))))
noncomputable abbrev zS6:Fe:= .of Tryz.prog 216 zAk
theorem zFL (a0:Int):HS 216 (zD2 a0) [.int .i64 a0] zAk:=Tr.fn (F:=zS6)
 (.join 11 3 (γ:=Bool) ⟨fun x=>[(9,bB x)],[0],fun _=>[],[]⟩
  (.ite 0 6 (a0<1)
  (.ret 4 true)
  (.ret 4 (decide (a0>16))))
  fun j1=> .iteB 1 9 (j1)
  (.ret 8 (0,1))
  (.ret 10 (IntKind.i64.wrap (a0+1),0)))
noncomputable abbrev zI6:Fe:= .of Tryz.prog 212 zAk
theorem zCG (a0:zAv):HS 212 (zBi a0) [.agg [.int .i64 a0.F_Model.F_Kind, .int .i64 a0.F_Model.F_In, .int .i64 a0.F_Model.F_Out, .int .i64 a0.F_Model.F_Hid, .int .i64 a0.F_Model.F_Frac]] zAk:=Tr.fn (F:=zI6)
 (.call 11 (zFL a0.F_Model.F_In) zAe fun r1=> .ret 6 (r1.1,r1.2))
noncomputable abbrev zQQ:Fe:= .of Tryz.prog 248 zAd
theorem zKo (a0:Int):HS 248 (zFe a0) [.int .i64 a0] zAd:=Tr.fn (F:=zQQ)
 (.join 9 3 (γ:=Bool) ⟨fun x=>[(8,bB x)],[],fun _=>[],[]⟩
  (.ite 0 5 (a0>1)
  (.ret 4 (decide (a0≤8)))
  (.ret 4 false))
  fun j1=> .ret 3 j1)
noncomputable abbrev zVq:Fe:= .of Tryz.prog 245 zAk
theorem zNY (a0:Int) (a1:Int):HS 245 (zHT a0 a1) [.int .i64 a0, .int .i64 a1] zAk:=Tr.fn (F:=zVq)
 (.call 8 (zFL a0) zAe fun r1=> .join 12 4 (γ:=Bool) ⟨fun x=>[(19,bB x)],[6,1],fun _=>[],[]⟩
  (.iteN 0 15 (r1.2=0)
  (.ret 5 true)
  (.call 1 (zKo a1) zAg fun r2=> .ret 3 (!r2)))
  fun j3=> .iteB 1 19 (j3)
  (.ret 8 (0,1))
  (.ret 11 (IntKind.i64.wrap (r1.1*a1),0)))
noncomputable abbrev zJq:Fe:= .of Tryz.prog 241 zAk
theorem zCR (a0:zAx):HS 241 (zBn a0) [.agg [.int .i64 a0.F_Model.F_Kind, .int .i64 a0.F_Model.F_In, .int .i64 a0.F_Model.F_Out, .int .i64 a0.F_Model.F_Hid, .int .i64 a0.F_Model.F_Frac]] zAk:=Tr.fn (F:=zJq)
 (.call 14 (zNY a0.F_Model.F_In a0.F_Model.F_Out) zAe fun r1=> .ret 6 (r1.1,r1.2))
noncomputable abbrev zTX:Fe:= .of Tryz.prog 275 zAd
theorem zMQ (a0:Int):HS 275 (zG6 a0) [.int .i64 a0] zAd:=Tr.fn (F:=zTX)
 (.join 9 3 (γ:=Bool) ⟨fun x=>[(8,bB x)],[],fun _=>[],[]⟩
  (.ite 0 5 (a0>0)
  (.ret 4 (decide (a0≤8)))
  (.ret 4 false))
  fun j1=> .ret 3 j1)
noncomputable abbrev zWj:Fe:= .of Tryz.prog 272 zAk
theorem zLI (a0:Int) (a1:Int):HS 272 (zHx a0 a1) [.int .i64 a0, .int .i64 a1] zAk:=Tr.fn (F:=zWj)
 (.call 8 (zFL a0) zAe fun r1=> .join 12 4 (γ:=Bool) ⟨fun x=>[(19,bB x)],[6,1],fun _=>[],[]⟩
  (.iteN 0 15 (r1.2=0)
  (.ret 5 true)
  (.call 1 (zMQ a1) zAg fun r2=> .ret 3 (!r2)))
  fun j3=> .iteB 1 19 (j3)
  (.ret 8 (0,1))
  (.ret 14 (IntKind.i64.wrap ((IntKind.i64.wrap ((IntKind.i64.wrap (a1*r1.1))+a1))+1),0)))
noncomputable abbrev zJ9:Fe:= .of Tryz.prog 268 zAk
theorem zDf (a0:zAD):HS 268 (zBr a0) [.agg [.int .i64 a0.F_Model.F_Kind, .int .i64 a0.F_Model.F_In, .int .i64 a0.F_Model.F_Out, .int .i64 a0.F_Model.F_Hid, .int .i64 a0.F_Model.F_Frac]] zAk:=Tr.fn (F:=zJ9)
 (.call 14 (zLI a0.F_Model.F_In a0.F_Model.F_Hid) zAe fun r1=> .ret 6 (r1.1,r1.2))
def zKX:zAq→PV
 | .inl v=> .tup [.d (.nilif),nI v.1,nI v.2]
 | .inr (.inl v)=> .tup [.ifc 78 (.agg [nI v.1,nI v.2.1,nI v.2.2.1,nI v.2.2.2.1,nI v.2.2.2.2.1]),nI v.2.2.2.2.2.1,nI v.2.2.2.2.2.2]
 | .inr (.inr (.inl v))=> .tup [.ifc 79 (.agg [nI v.1,nI v.2.1,nI v.2.2.1,nI v.2.2.2.1,nI v.2.2.2.2.1]),nI v.2.2.2.2.2.1,nI v.2.2.2.2.2.2]
 | .inr (.inr (.inr v))=> .tup [.ifc 80 (.agg [nI v.1,nI v.2.1,nI v.2.2.1,nI v.2.2.2.1,nI v.2.2.2.2.1]),nI v.2.2.2.2.2.1,nI v.2.2.2.2.2.2]
noncomputable abbrev zVL:Fe:= .of Tryz.prog 29 zKX
theorem zKO:∀v,(zKX v).noLst
 | .inl _=>⟨trivial,trivial,trivial,trivial⟩
 | .inr (.inl _)=>⟨⟨trivial,trivial,trivial,trivial,trivial,trivial⟩,trivial,trivial,trivial⟩
 | .inr (.inr (.inl _))=>⟨⟨trivial,trivial,trivial,trivial,trivial,trivial⟩,trivial,trivial,trivial⟩
 | .inr (.inr (.inr _))=>⟨⟨trivial,trivial,trivial,trivial,trivial,trivial⟩,trivial,trivial,trivial⟩
theorem zK2 (a0:zAc):HS 29 (zFx a0) [.agg [.int .i64 a0.F_Kind, .int .i64 a0.F_In, .int .i64 a0.F_Out, .int .i64 a0.F_Hid, .int .i64 a0.F_Frac]] zKX:=Tr.fn (F:=zVL)
 (.look 30<| .lk a0.F_Kind 0
  (.join 17 4 (γ:=Bool) ⟨fun x=>[(39,bB x)],[6,1],fun _=>[],[.s 15]⟩
  (.ite 0 35 (a0.F_Frac<0)
  (.ret 5 true)
  (.ret 5 (decide (a0.F_Frac>30))))
  fun j1=> .iteB 1 40 (j1)
  (.ret 29 (.inl (0,1):zAq))
  (.iteN 4 44 (a0.F_Kind=1)
  (.iteN 6 50 (a0.F_Out=0)
  (.ret 19 (.inl (0,1):zAq))
  (.iteN 4 54 (a0.F_Kind=2)
  (.iteN 6 59 (a0.F_Hid=0)
  (.ret 9 (.inl (0,1):zAq))
  (.call 5 (zCG (⟨a0⟩:zAv)) zAe fun r2=> .ret 16 (.inr (.inl (a0.F_Kind,a0.F_In,a0.F_Out,a0.F_Hid,a0.F_Frac,r2.1,r2.2)):zAq)))
  (.call 11 (zCG (⟨a0⟩:zAv)) zAe fun r3=> .ret 16 (.inr (.inl (a0.F_Kind,a0.F_In,a0.F_Out,a0.F_Hid,a0.F_Frac,r3.1,r3.2)):zAq))))
  (.iteN 10 54 (a0.F_Kind=2)
  (.iteN 6 59 (a0.F_Hid=0)
  (.ret 9 (.inl (0,1):zAq))
  (.call 5 (zCG (⟨a0⟩:zAv)) zAe fun r4=> .ret 16 (.inr (.inl (a0.F_Kind,a0.F_In,a0.F_Out,a0.F_Hid,a0.F_Frac,r4.1,r4.2)):zAq)))
  (.call 11 (zCG (⟨a0⟩:zAv)) zAe fun r5=> .ret 16 (.inr (.inl (a0.F_Kind,a0.F_In,a0.F_Out,a0.F_Hid,a0.F_Frac,r5.1,r5.2)):zAq)))))
  (.lk a0.F_Kind 1
  (.join 17 4 (γ:=Bool) ⟨fun x=>[(39,bB x)],[6,1],fun _=>[],[.s 15]⟩
  (.ite 0 35 (a0.F_Frac<0)
  (.ret 5 true)
  (.ret 5 (decide (a0.F_Frac>30))))
  fun j6=> .iteB 1 40 (j6)
  (.ret 29 (.inl (0,1):zAq))
  (.iteN 4 44 (a0.F_Kind=1)
  (.iteN 6 50 (a0.F_Out=0)
  (.ret 19 (.inl (0,1):zAq))
  (.iteN 4 54 (a0.F_Kind=2)
  (.iteN 6 59 (a0.F_Hid=0)
  (.ret 9 (.inl (0,1):zAq))
  (.call 5 (zCR (⟨a0⟩:zAx)) zAe fun r7=> .ret 16 (.inr (.inr (.inl (a0.F_Kind,a0.F_In,a0.F_Out,a0.F_Hid,a0.F_Frac,r7.1,r7.2))):zAq)))
  (.call 11 (zCR (⟨a0⟩:zAx)) zAe fun r8=> .ret 16 (.inr (.inr (.inl (a0.F_Kind,a0.F_In,a0.F_Out,a0.F_Hid,a0.F_Frac,r8.1,r8.2))):zAq))))
  (.iteN 10 54 (a0.F_Kind=2)
  (.iteN 6 59 (a0.F_Hid=0)
  (.ret 9 (.inl (0,1):zAq))
  (.call 5 (zCR (⟨a0⟩:zAx)) zAe fun r9=> .ret 16 (.inr (.inr (.inl (a0.F_Kind,a0.F_In,a0.F_Out,a0.F_Hid,a0.F_Frac,r9.1,r9.2))):zAq)))
  (.call 11 (zCR (⟨a0⟩:zAx)) zAe fun r10=> .ret 16 (.inr (.inr (.inl (a0.F_Kind,a0.F_In,a0.F_Out,a0.F_Hid,a0.F_Frac,r10.1,r10.2))):zAq)))))
  (.lk a0.F_Kind 2
  (.join 17 4 (γ:=Bool) ⟨fun x=>[(39,bB x)],[6,1],fun _=>[],[.s 15]⟩
  (.ite 0 35 (a0.F_Frac<0)
  (.ret 5 true)
  (.ret 5 (decide (a0.F_Frac>30))))
  fun j11=> .iteB 1 40 (j11)
  (.ret 29 (.inl (0,1):zAq))
  (.iteN 4 44 (a0.F_Kind=1)
  (.iteN 6 50 (a0.F_Out=0)
  (.ret 19 (.inl (0,1):zAq))
  (.iteN 4 54 (a0.F_Kind=2)
  (.iteN 6 59 (a0.F_Hid=0)
  (.ret 9 (.inl (0,1):zAq))
  (.call 5 (zDf (⟨a0⟩:zAD)) zAe fun r12=> .ret 16 (.inr (.inr (.inr (a0.F_Kind,a0.F_In,a0.F_Out,a0.F_Hid,a0.F_Frac,r12.1,r12.2))):zAq)))
  (.call 11 (zDf (⟨a0⟩:zAD)) zAe fun r13=> .ret 16 (.inr (.inr (.inr (a0.F_Kind,a0.F_In,a0.F_Out,a0.F_Hid,a0.F_Frac,r13.1,r13.2))):zAq))))
  (.iteN 10 54 (a0.F_Kind=2)
  (.iteN 6 59 (a0.F_Hid=0)
  (.ret 9 (.inl (0,1):zAq))
  (.call 5 (zDf (⟨a0⟩:zAD)) zAe fun r14=> .ret 16 (.inr (.inr (.inr (a0.F_Kind,a0.F_In,a0.F_Out,a0.F_Hid,a0.F_Frac,r14.1,r14.2))):zAq)))
  (.call 11 (zDf (⟨a0⟩:zAD)) zAe fun r15=> .ret 16 (.inr (.inr (.inr (a0.F_Kind,a0.F_In,a0.F_Out,a0.F_Hid,a0.F_Frac,r15.1,r15.2))):zAq)))))
  (.lk0<| .ret 51 (.inl (0,1):zAq)))))
noncomputable abbrev zUh:Fe:= .of Tryz.prog 11 zAk
theorem zME (a0:zAc):HS 11 (zFR a0) [.agg [.int .i64 a0.F_Kind, .int .i64 a0.F_In, .int .i64 a0.F_Out, .int .i64 a0.F_Hid, .int .i64 a0.F_Frac]] zAk:=Tr.fn (F:=zUh)
 (.callS4 9 (zK2 a0) zKO
  (fun r1=> .ret 16 (r1.1,r1.2))
  (fun r2=> .ret 16 (r2.2.2.2.2.2.1,r2.2.2.2.2.2.2))
  (fun r3=> .ret 16 (r3.2.2.2.2.2.1,r3.2.2.2.2.2.2))
  (fun r4=> .ret 16 (r4.2.2.2.2.2.1,r4.2.2.2.2.2.2)))
def zMa (v:Unit):PV:= .ptr (.s 14) 0
def zMe (v:Unit):List (Tg×List PV):=[(.s 14,[.d (.int .i64 0), .d (.agg [.clo (.func 40) [] [], .clo (.func 41) [] [], .clo (.func 42) [] [], .clo (.func 44) [] []]), .d (.int .i64 1), .d (.agg [.clo (.func 46) [] [], .clo (.func 47) [] [], .clo (.func 49) [] [], .clo (.func 51) [] []]), .d (.int .i64 2), .d (.agg [.clo (.func 53) [] [], .clo (.func 54) [] [], .clo (.func 56) [] [], .clo (.func 57) [] []]), .d (.int .i64 3), .d (.agg [.clo (.func 40) [] [], .clo (.func 59) [] [], .clo (.func 61) [] [], .clo (.func 62) [] []])])]
noncomputable abbrev zTh:Fe:= .of Tryz.prog 31 zMa zMe
theorem zL5:HG 31 zJO [] [] zMa zMe:=Tr.fnG (F:=zTh)
 (.ret 19 ())
noncomputable abbrev zS4:Fe:= .of Tryz.prog 40 zAd
theorem zG8 (a0:zBb) (a1:Int):HS 40 (zGi a0 a1) [.agg [.int .i64 a0.F_Scheme, .int .i64 a0.F_K, .int .i64 a0.F_Wide], .int .i64 a1] zAd:=Tr.fn (F:=zS4)
 (.join 11 4 (γ:=Bool) ⟨fun x=>[(12,bB x)],[],fun _=>[],[]⟩
  (.ite 0 8 (a0.F_K=0)
  (.ret 5 (a0.F_Wide==0))
  (.ret 5 false))
  fun j1=> .ret 3 j1)
noncomputable abbrev zQn:Fe:= .of Tryz.prog 46 zAd
theorem zKm (a0:zBb) (a1:Int):HS 46 (zH5 a0 a1) [.agg [.int .i64 a0.F_Scheme, .int .i64 a0.F_K, .int .i64 a0.F_Wide], .int .i64 a1] zAd:=Tr.fn (F:=zQn)
 (.join 11 5 (γ:=Bool) ⟨fun x=>[(13,bB x)],[2],fun _=>[],[.s 15]⟩
  (.ite 0 8 (a0.F_K≥0)
  (.ret 6 (decide (a0.F_K≤a1)))
  (.ret 6 false))
  fun j1=> .join 1 4 (γ:=Bool) ⟨fun x=>[(18,bB x)],[],fun _=>[],[]⟩
  (.iteB 0 14 (j1)
  (.ret 5 (a0.F_Wide==0))
  (.ret 5 false))
  fun j2=> .ret 3 j2)
noncomputable abbrev zQm:Fe:= .of Tryz.prog 53 zAd
theorem zKs (a0:zBb) (a1:Int):HS 53 (zH8 a0 a1) [.agg [.int .i64 a0.F_Scheme, .int .i64 a0.F_K, .int .i64 a0.F_Wide], .int .i64 a1] zAd:=Tr.fn (F:=zQm)
 (.join 11 4 (γ:=Bool) ⟨fun x=>[(12,bB x)],[2],fun _=>[],[.s 15]⟩
  (.ite 0 8 (a0.F_K=0)
  (.ret 5 (decide (a0.F_Wide>0)))
  (.ret 5 false))
  fun j1=> .join 1 4 (γ:=Bool) ⟨fun x=>[(17,bB x)],[],fun _=>[],[]⟩
  (.iteB 0 13 (j1)
  (.ret 5 (decide (a0.F_Wide≤8)))
  (.ret 5 false))
  fun j2=> .ret 3 j2)
def zAn (v:Int):PV:=nI v
noncomputable abbrev zRw:Fe:= .of Tryz.prog 13 zAn
theorem zAs:∀v,(zAn v).noLst:=fun _=>trivial
theorem zQD (a0:zBb) (a1:Int):HS 13 (zHa a0 a1) [.agg [.int .i64 a0.F_Scheme, .int .i64 a0.F_K, .int .i64 a0.F_Wide], .int .i64 a1] zAn:=Tr.fn (F:=zRw)
 (.draws 6 (.callG 2 [] [] zL5 fun r1=> .hold 1 []<| .hold 6 []<| .cas 0 12 (a0.F_Scheme=(0:Int)) (.d (.agg [.clo (.func 40) [] [], .clo (.func 41) [] [], .clo (.func 42) [] [], .clo (.func 44) [] []])) (.d (lookD a0.F_Scheme [(1, .agg [.clo (.func 46) [] [], .clo (.func 47) [] [], .clo (.func 49) [] [], .clo (.func 51) [] []]),(2, .agg [.clo (.func 53) [] [], .clo (.func 54) [] [], .clo (.func 56) [] [], .clo (.func 57) [] []]),(3, .agg [.clo (.func 40) [] [], .clo (.func 59) [] [], .clo (.func 61) [] [], .clo (.func 62) [] []])] (.agg [.nilfn, .nilfn, .nilfn, .nilfn]))) (.d (lookD a0.F_Scheme [(0, .agg [.clo (.func 40) [] [], .clo (.func 41) [] [], .clo (.func 42) [] [], .clo (.func 44) [] []]),(1, .agg [.clo (.func 46) [] [], .clo (.func 47) [] [], .clo (.func 49) [] [], .clo (.func 51) [] []]),(2, .agg [.clo (.func 53) [] [], .clo (.func 54) [] [], .clo (.func 56) [] [], .clo (.func 57) [] []]),(3, .agg [.clo (.func 40) [] [], .clo (.func 59) [] [], .clo (.func 61) [] [], .clo (.func 62) [] []])] (.agg [.nilfn, .nilfn, .nilfn, .nilfn]))) zHr zHo
  (.hold 2 []<| .join 9 3 (γ:=Bool) ⟨fun x=>[(19,bB x)],[5,2,1],fun _=>[],[.s 1727, .s 15]⟩
  (.iteX 0 16 ((hasK a0.F_Scheme [0,1,2,3]))
  (.ret 4 true)
  (.ret 4 (decide (a1<1))))
  fun j2=> .join 1 3 (γ:=Bool) ⟨fun x=>[(23,bB x)],[5,2,1],fun _=>[],[.s 1727, .s 15]⟩
  (.iteB 0 20 (j2)
  (.ret 4 true)
  (.ret 4 (decide (a1>4096))))
  fun j3=> .join 1 7 (γ:=Bool) ⟨fun x=>[(31,bB x)],[],fun _=>[],[]⟩
  (.iteB 0 24 (j3)
  (.ret 8 true)
  (.call 4 (zG8 a0 a1) zAg fun r4=> .ret 3 (!r4)))
  fun j5=> .iteB 1 31 (j5)
  (.ret 7 1)
  (.ret 7 0))
  (.cas 0 12 (a0.F_Scheme=(1:Int)) (.d (.agg [.clo (.func 46) [] [], .clo (.func 47) [] [], .clo (.func 49) [] [], .clo (.func 51) [] []])) (.d (lookD a0.F_Scheme [(2, .agg [.clo (.func 53) [] [], .clo (.func 54) [] [], .clo (.func 56) [] [], .clo (.func 57) [] []]),(3, .agg [.clo (.func 40) [] [], .clo (.func 59) [] [], .clo (.func 61) [] [], .clo (.func 62) [] []])] (.agg [.nilfn, .nilfn, .nilfn, .nilfn]))) (.d (lookD a0.F_Scheme [(1, .agg [.clo (.func 46) [] [], .clo (.func 47) [] [], .clo (.func 49) [] [], .clo (.func 51) [] []]),(2, .agg [.clo (.func 53) [] [], .clo (.func 54) [] [], .clo (.func 56) [] [], .clo (.func 57) [] []]),(3, .agg [.clo (.func 40) [] [], .clo (.func 59) [] [], .clo (.func 61) [] [], .clo (.func 62) [] []])] (.agg [.nilfn, .nilfn, .nilfn, .nilfn]))) zHr zHo
  (.hold 2 []<| .join 9 3 (γ:=Bool) ⟨fun x=>[(19,bB x)],[5,2,1],fun _=>[],[.s 1727, .s 15]⟩
  (.iteX 0 16 ((hasK a0.F_Scheme [0,1,2,3]))
  (.ret 4 true)
  (.ret 4 (decide (a1<1))))
  fun j6=> .join 1 3 (γ:=Bool) ⟨fun x=>[(23,bB x)],[5,2,1],fun _=>[],[.s 1727, .s 15]⟩
  (.iteB 0 20 (j6)
  (.ret 4 true)
  (.ret 4 (decide (a1>4096))))
  fun j7=> .join 1 7 (γ:=Bool) ⟨fun x=>[(31,bB x)],[],fun _=>[],[]⟩
  (.iteB 0 24 (j7)
  (.ret 8 true)
  (.call 4 (zKm a0 a1) zAg fun r8=> .ret 3 (!r8)))
  fun j9=> .iteB 1 31 (j9)
  (.ret 7 1)
  (.ret 7 0))
  (.cas 0 12 (a0.F_Scheme=(2:Int)) (.d (.agg [.clo (.func 53) [] [], .clo (.func 54) [] [], .clo (.func 56) [] [], .clo (.func 57) [] []])) (.d (lookD a0.F_Scheme [(3, .agg [.clo (.func 40) [] [], .clo (.func 59) [] [], .clo (.func 61) [] [], .clo (.func 62) [] []])] (.agg [.nilfn, .nilfn, .nilfn, .nilfn]))) (.d (lookD a0.F_Scheme [(2, .agg [.clo (.func 53) [] [], .clo (.func 54) [] [], .clo (.func 56) [] [], .clo (.func 57) [] []]),(3, .agg [.clo (.func 40) [] [], .clo (.func 59) [] [], .clo (.func 61) [] [], .clo (.func 62) [] []])] (.agg [.nilfn, .nilfn, .nilfn, .nilfn]))) zHr zHo
  (.hold 2 []<| .join 9 3 (γ:=Bool) ⟨fun x=>[(19,bB x)],[5,2,1],fun _=>[],[.s 1727, .s 15]⟩
  (.iteX 0 16 ((hasK a0.F_Scheme [0,1,2,3]))
  (.ret 4 true)
  (.ret 4 (decide (a1<1))))
  fun j10=> .join 1 3 (γ:=Bool) ⟨fun x=>[(23,bB x)],[5,2,1],fun _=>[],[.s 1727, .s 15]⟩
  (.iteB 0 20 (j10)
  (.ret 4 true)
  (.ret 4 (decide (a1>4096))))
  fun j11=> .join 1 7 (γ:=Bool) ⟨fun x=>[(31,bB x)],[],fun _=>[],[]⟩
  (.iteB 0 24 (j11)
  (.ret 8 true)
  (.call 4 (zKs a0 a1) zAg fun r12=> .ret 3 (!r12)))
  fun j13=> .iteB 1 31 (j13)
  (.ret 7 1)
  (.ret 7 0))
  (.cas 0 12 (a0.F_Scheme=(3:Int)) (.d (.agg [.clo (.func 40) [] [], .clo (.func 59) [] [], .clo (.func 61) [] [], .clo (.func 62) [] []])) (.d (lookD a0.F_Scheme [] (.agg [.nilfn, .nilfn, .nilfn, .nilfn]))) (.d (lookD a0.F_Scheme [(3, .agg [.clo (.func 40) [] [], .clo (.func 59) [] [], .clo (.func 61) [] [], .clo (.func 62) [] []])] (.agg [.nilfn, .nilfn, .nilfn, .nilfn]))) zHr zHo
  (.hold 2 []<| .join 9 3 (γ:=Bool) ⟨fun x=>[(19,bB x)],[5,2,1],fun _=>[],[.s 1727, .s 15]⟩
  (.iteX 0 16 ((hasK a0.F_Scheme [0,1,2,3]))
  (.ret 4 true)
  (.ret 4 (decide (a1<1))))
  fun j14=> .join 1 3 (γ:=Bool) ⟨fun x=>[(23,bB x)],[5,2,1],fun _=>[],[.s 1727, .s 15]⟩
  (.iteB 0 20 (j14)
  (.ret 4 true)
  (.ret 4 (decide (a1>4096))))
  fun j15=> .join 1 7 (γ:=Bool) ⟨fun x=>[(31,bB x)],[],fun _=>[],[]⟩
  (.iteB 0 24 (j15)
  (.ret 8 true)
  (.call 4 (zG8 a0 a1) zAg fun r16=> .ret 3 (!r16)))
  fun j17=> .iteB 1 31 (j17)
  (.ret 7 1)
  (.ret 7 0))
  (.hold 2 []<| .join 9 3 (γ:=Bool) ⟨fun x=>[(19,bB x)],[5,2,1],fun _=>[],[.s 1727, .s 15]⟩
  (.iteX 0 16 ((hasK a0.F_Scheme [0,1,2,3]))
  (.ret 4 true)
  (.ret 4 (decide (a1<1))))
  fun j18=> .join 1 3 (γ:=Bool) ⟨fun x=>[(23,bB x)],[5,2,1],fun _=>[],[.s 1727, .s 15]⟩
  (.iteB 0 20 (j18)
  (.ret 4 true)
  (.ret 4 (decide (a1>4096))))
  fun j19=> .join 1 7 (γ:=Unit) ⟨fun x=>[(31,bB true)],[],fun _=>[],[]⟩
  (.iteB 0 24 (j19)
  (.ret 8 ())
  (.halt))
  fun j20=> .ret 8 1))))) (.hold 4 []<| .callG 0 [] [] zL5 fun r1=> .hold 1 []<| .cas 4 12 (a0.F_Scheme=(0:Int)) (.d (.agg [.clo (.func 40) [] [], .clo (.func 41) [] [], .clo (.func 42) [] [], .clo (.func 44) [] []])) (.d (lookD a0.F_Scheme [(1, .agg [.clo (.func 46) [] [], .clo (.func 47) [] [], .clo (.func 49) [] [], .clo (.func 51) [] []]),(2, .agg [.clo (.func 53) [] [], .clo (.func 54) [] [], .clo (.func 56) [] [], .clo (.func 57) [] []]),(3, .agg [.clo (.func 40) [] [], .clo (.func 59) [] [], .clo (.func 61) [] [], .clo (.func 62) [] []])] (.agg [.nilfn, .nilfn, .nilfn, .nilfn]))) (.d (lookD a0.F_Scheme [(0, .agg [.clo (.func 40) [] [], .clo (.func 41) [] [], .clo (.func 42) [] [], .clo (.func 44) [] []]),(1, .agg [.clo (.func 46) [] [], .clo (.func 47) [] [], .clo (.func 49) [] [], .clo (.func 51) [] []]),(2, .agg [.clo (.func 53) [] [], .clo (.func 54) [] [], .clo (.func 56) [] [], .clo (.func 57) [] []]),(3, .agg [.clo (.func 40) [] [], .clo (.func 59) [] [], .clo (.func 61) [] [], .clo (.func 62) [] []])] (.agg [.nilfn, .nilfn, .nilfn, .nilfn]))) zHr zHo
  (.hold 2 []<| .join 9 3 (γ:=Bool) ⟨fun x=>[(19,bB x)],[5,2,1],fun _=>[],[.s 1727, .s 15]⟩
  (.iteX 0 16 ((hasK a0.F_Scheme [0,1,2,3]))
  (.ret 4 true)
  (.ret 4 (decide (a1<1))))
  fun j2=> .join 1 3 (γ:=Bool) ⟨fun x=>[(23,bB x)],[5,2,1],fun _=>[],[.s 1727, .s 15]⟩
  (.iteB 0 20 (j2)
  (.ret 4 true)
  (.ret 4 (decide (a1>4096))))
  fun j3=> .join 1 7 (γ:=Bool) ⟨fun x=>[(31,bB x)],[],fun _=>[],[]⟩
  (.iteB 0 24 (j3)
  (.ret 8 true)
  (.call 4 (zG8 a0 a1) zAg fun r4=> .ret 3 (!r4)))
  fun j5=> .iteB 1 31 (j5)
  (.ret 7 1)
  (.ret 7 0))
  (.cas 0 12 (a0.F_Scheme=(1:Int)) (.d (.agg [.clo (.func 46) [] [], .clo (.func 47) [] [], .clo (.func 49) [] [], .clo (.func 51) [] []])) (.d (lookD a0.F_Scheme [(2, .agg [.clo (.func 53) [] [], .clo (.func 54) [] [], .clo (.func 56) [] [], .clo (.func 57) [] []]),(3, .agg [.clo (.func 40) [] [], .clo (.func 59) [] [], .clo (.func 61) [] [], .clo (.func 62) [] []])] (.agg [.nilfn, .nilfn, .nilfn, .nilfn]))) (.d (lookD a0.F_Scheme [(1, .agg [.clo (.func 46) [] [], .clo (.func 47) [] [], .clo (.func 49) [] [], .clo (.func 51) [] []]),(2, .agg [.clo (.func 53) [] [], .clo (.func 54) [] [], .clo (.func 56) [] [], .clo (.func 57) [] []]),(3, .agg [.clo (.func 40) [] [], .clo (.func 59) [] [], .clo (.func 61) [] [], .clo (.func 62) [] []])] (.agg [.nilfn, .nilfn, .nilfn, .nilfn]))) zHr zHo
  (.hold 2 []<| .join 9 3 (γ:=Bool) ⟨fun x=>[(19,bB x)],[5,2,1],fun _=>[],[.s 1727, .s 15]⟩
  (.iteX 0 16 ((hasK a0.F_Scheme [0,1,2,3]))
  (.ret 4 true)
  (.ret 4 (decide (a1<1))))
  fun j6=> .join 1 3 (γ:=Bool) ⟨fun x=>[(23,bB x)],[5,2,1],fun _=>[],[.s 1727, .s 15]⟩
  (.iteB 0 20 (j6)
  (.ret 4 true)
  (.ret 4 (decide (a1>4096))))
  fun j7=> .join 1 7 (γ:=Bool) ⟨fun x=>[(31,bB x)],[],fun _=>[],[]⟩
  (.iteB 0 24 (j7)
  (.ret 8 true)
  (.call 4 (zKm a0 a1) zAg fun r8=> .ret 3 (!r8)))
  fun j9=> .iteB 1 31 (j9)
  (.ret 7 1)
  (.ret 7 0))
  (.cas 0 12 (a0.F_Scheme=(2:Int)) (.d (.agg [.clo (.func 53) [] [], .clo (.func 54) [] [], .clo (.func 56) [] [], .clo (.func 57) [] []])) (.d (lookD a0.F_Scheme [(3, .agg [.clo (.func 40) [] [], .clo (.func 59) [] [], .clo (.func 61) [] [], .clo (.func 62) [] []])] (.agg [.nilfn, .nilfn, .nilfn, .nilfn]))) (.d (lookD a0.F_Scheme [(2, .agg [.clo (.func 53) [] [], .clo (.func 54) [] [], .clo (.func 56) [] [], .clo (.func 57) [] []]),(3, .agg [.clo (.func 40) [] [], .clo (.func 59) [] [], .clo (.func 61) [] [], .clo (.func 62) [] []])] (.agg [.nilfn, .nilfn, .nilfn, .nilfn]))) zHr zHo
  (.hold 2 []<| .join 9 3 (γ:=Bool) ⟨fun x=>[(19,bB x)],[5,2,1],fun _=>[],[.s 1727, .s 15]⟩
  (.iteX 0 16 ((hasK a0.F_Scheme [0,1,2,3]))
  (.ret 4 true)
  (.ret 4 (decide (a1<1))))
  fun j10=> .join 1 3 (γ:=Bool) ⟨fun x=>[(23,bB x)],[5,2,1],fun _=>[],[.s 1727, .s 15]⟩
  (.iteB 0 20 (j10)
  (.ret 4 true)
  (.ret 4 (decide (a1>4096))))
  fun j11=> .join 1 7 (γ:=Bool) ⟨fun x=>[(31,bB x)],[],fun _=>[],[]⟩
  (.iteB 0 24 (j11)
  (.ret 8 true)
  (.call 4 (zKs a0 a1) zAg fun r12=> .ret 3 (!r12)))
  fun j13=> .iteB 1 31 (j13)
  (.ret 7 1)
  (.ret 7 0))
  (.cas 0 12 (a0.F_Scheme=(3:Int)) (.d (.agg [.clo (.func 40) [] [], .clo (.func 59) [] [], .clo (.func 61) [] [], .clo (.func 62) [] []])) (.d (lookD a0.F_Scheme [] (.agg [.nilfn, .nilfn, .nilfn, .nilfn]))) (.d (lookD a0.F_Scheme [(3, .agg [.clo (.func 40) [] [], .clo (.func 59) [] [], .clo (.func 61) [] [], .clo (.func 62) [] []])] (.agg [.nilfn, .nilfn, .nilfn, .nilfn]))) zHr zHo
  (.hold 2 []<| .join 9 3 (γ:=Bool) ⟨fun x=>[(19,bB x)],[5,2,1],fun _=>[],[.s 1727, .s 15]⟩
  (.iteX 0 16 ((hasK a0.F_Scheme [0,1,2,3]))
  (.ret 4 true)
  (.ret 4 (decide (a1<1))))
  fun j14=> .join 1 3 (γ:=Bool) ⟨fun x=>[(23,bB x)],[5,2,1],fun _=>[],[.s 1727, .s 15]⟩
  (.iteB 0 20 (j14)
  (.ret 4 true)
  (.ret 4 (decide (a1>4096))))
  fun j15=> .join 1 7 (γ:=Bool) ⟨fun x=>[(31,bB x)],[],fun _=>[],[]⟩
  (.iteB 0 24 (j15)
  (.ret 8 true)
  (.call 4 (zG8 a0 a1) zAg fun r16=> .ret 3 (!r16)))
  fun j17=> .iteB 1 31 (j17)
  (.ret 7 1)
  (.ret 7 0))
  (.hold 2 []<| .join 9 3 (γ:=Bool) ⟨fun x=>[(19,bB x)],[5,2,1],fun _=>[],[.s 1727, .s 15]⟩
  (.iteX 0 16 ((hasK a0.F_Scheme [0,1,2,3]))
  (.ret 4 true)
  (.ret 4 (decide (a1<1))))
  fun j18=> .join 1 3 (γ:=Bool) ⟨fun x=>[(23,bB x)],[5,2,1],fun _=>[],[.s 1727, .s 15]⟩
  (.iteB 0 20 (j18)
  (.ret 4 true)
  (.ret 4 (decide (a1>4096))))
  fun j19=> .join 1 7 (γ:=Unit) ⟨fun x=>[(31,bB true)],[],fun _=>[],[]⟩
  (.iteB 0 24 (j19)
  (.ret 8 ())
  (.halt))
  fun j20=> .ret 8 1))))))
noncomputable abbrev zMl:Fe:= .of Tryz.prog 25 zAd
theorem zHz (a0:Int) (a1:Int) (a2:Int):HS 25 (zDF a0 a1 a2) [.int .i64 a0, .int .i64 a1, .int .i64 a2] zAd:=Tr.fn (F:=zMl)
 (.join 10 4 (γ:=Bool) ⟨fun x=>[(14,bB x)],[],fun _=>[],[]⟩
  (.ite 0 10 (a0≥a1)
  (.ret 5 (decide (a0≤a2)))
  (.ret 5 false))
  fun j1=> .ret 3 j1)
noncomputable abbrev zIc:Fe:= .of Tryz.prog 217 zAn
def zNE (a0:Int) (a2:List zAa) (x0:Int) (x1:Bool):St:=⟨[(26,nI x0),(25,nI (a2.length:Int)),(24, .d (.lst (List.map zAa.en a2))),(9,bB x1),(0,nI a0),(2, .d (.lst (List.map zAa.en a2)))],[]⟩
def zNz (a0:Int) (a2:List zAa) (x:Bool):St:=⟨[(9,bB x),(2, .d (.lst (List.map zAa.en a2)))],[]⟩
theorem zMS (a0:Int) (a2:List zAa):∀(x0:Int) (x1:Bool),Ok (zBD a0 a2 x0 x1) (LN zIc (.exit 0) (zNz a0 a2) 217 0 (zNE a0 a2 x0 x1)):=by
 refine zBD.partial_correctness a0 a2 _ ?_
 intro f IH x0 x1
 exact Tr.lpN (F:=zIc) (X:=Int×Bool)
  (.ite 6 27 (x0<(a2.length:Int))
   (.idx 6 zAa.e a2 x0<| .join 7 6 (γ:=Bool) ⟨fun x=>[(37,bB x)],[26,25,24,0,2],fun _=>[],[]⟩
   (.iteB 0 31 (x1)
   (.len 2 eI ((at' a2 x0).F_X)<| .ret 4 ((((at' a2 x0).F_X).length:Int)==a0))
   (.ret 7 false))
   fun j2=> .again 7 (IntKind.i64.wrap (x0+1),j2))
   (.ret 4 x1)) _ fun x r=>IH x.1 x.2 r
theorem zHC (a0:Int) (a1:List Int) (a2:List zAa):HS 217 (zCi a0 a1 a2) [.int .i64 a0, .lst (List.map (D.int .i64) a1), .lst (List.map zAa.en a2)] zAn:=Tr.fn (F:=zIc)
 (.call 7 (zFL a0) zAe fun r1=> .iteN 12 18 (r1.2=0)
  (.ret 8 r1.2)
  (.len 5 eI a1<| .len 8 zAa.e a2<| .loop 4 ⟨_,_,_,_,_,zMS a0 a2 0 ((a1.length:Int)==r1.1)⟩ fun j3=> .iteX 9 39 (j3)
  (.ret 8 4)
  (.len 4 zAa.e a2<| .join 2 4 (γ:=Bool) ⟨fun x=>[(50,bB x)],[],fun _=>[],[]⟩
  (.ite 0 46 ((a2.length:Int)=0)
  (.ret 5 true)
  (.len 1 zAa.e a2<| .ret 3 (decide ((a2.length:Int)>64))))
  fun j4=> .iteB 2 42 (j4)
  (.ret 8 1)
  (.ret 8 0))))
noncomputable abbrev zIL:Fe:= .of Tryz.prog 213 zAn
theorem zFc (a0:zAv) (a1:List Int) (a2:List zAa):HS 213 (zBO a0 a1 a2) [.agg [.int .i64 a0.F_Model.F_Kind, .int .i64 a0.F_Model.F_In, .int .i64 a0.F_Model.F_Out, .int .i64 a0.F_Model.F_Hid, .int .i64 a0.F_Model.F_Frac], .lst (List.map (D.int .i64) a1), .lst (List.map zAa.en a2)] zAn:=Tr.fn (F:=zIL)
 (.call 12 (zHC a0.F_Model.F_In a1 a2) zAs fun r1=> .ret 3 r1)
noncomputable abbrev zN5:Fe:= .of Tryz.prog 249 zAd
theorem zND (a0:zAa) (a1:Int):HS 249 (zFp a0 a1) [.agg [.lst (List.map (D.int .i64) a0.F_X), .int .i64 a0.F_Y], .cp [.int .i64 a1] 0] zAd:=Tr.fn (F:=zN5)
 (.len 9 eI a0.F_X<| .ret 5 ((a0.F_X.length:Int) !=a1))
noncomputable abbrev zAZ:Fe:= .of Tryz.prog 39 zAn
def zCy (a0:List zAa) (a1:Int) (x0:Int):St:=⟨[(8,nI x0),(7,nI (a0.length:Int)),(0, .d (.lst (List.map zAa.en a0))),(1, .d (.clo (.func 249) [] [.cp [.int .i64 a1] 0]))],[]⟩
def zCC (a0:List zAa) (a1:Int) (x:Unit):St:=⟨[],[]⟩
theorem zCo (a0:List zAa) (a1:Int):∀(x0:Int),Ok (zAh a0 a1 x0) (LR zAZ (.exit 0) (zCC a0 a1) 39 0 (zCy a0 a1 x0)):=by
 refine zAh.partial_correctness a0 a1 _ ?_
 intro f IH x0
 exact Tr.lpR (F:=zAZ) (X:=Int)
  (.ite 6 9 (x0<(a0.length:Int))
   (.idx 14 zAa.e a0 x0<| .call 1 (zND (at' a0 x0) a1) zAg fun r1=> .iteB 1 16 (r1)
   (.ret 10 (.inl x0))
   (.again 7 (IntKind.i64.wrap (x0+1))))
   (.ret 4 (.inr ()))) _ fun x r=>IH x r
theorem zCO (a0:List zAa) (a1:Int):HS 39 (zAL a0 a1) [.lst (List.map zAa.en a0), .clo (.func 249) [] [.cp [.int .i64 a1] 0]] zAn:=Tr.fn (F:=zAZ)
 (.len 8 zAa.e a0<| .loopR 4 id ⟨_,_,_,_,_,zCo a0 a1 0⟩ fun j2=> .ret 6 (-1))
noncomputable abbrev zCu:Fe:= .of Tryz.prog 26 zAd
theorem zCm (a0:List zAa) (a1:Int):HS 26 (zAy a0 a1) [.lst (List.map zAa.en a0), .clo (.func 249) [] [.cp [.int .i64 a1] 0]] zAd:=Tr.fn (F:=zCu)
 (.call 8 (zCO a0 a1) zAs fun r1=> .ret 4 (decide (r1≥0)))
noncomputable abbrev zOi:Fe:= .of Tryz.prog 250 zAd
theorem zNI (a0:zAa) (a1:Int):HS 250 (zFr a0 a1) [.agg [.lst (List.map (D.int .i64) a0.F_X), .int .i64 a0.F_Y], .cp [.int .i64 a1] 0] zAd:=Tr.fn (F:=zOi)
 (.join 11 5 (γ:=Bool) ⟨fun x=>[(12,bB x)],[],fun _=>[],[]⟩
  (.ite 0 7 (a0.F_Y<0)
  (.ret 6 true)
  (.ret 6 (decide (a0.F_Y≥a1))))
  fun j1=> .ret 3 j1)
noncomputable abbrev zAX:Fe:= .of Tryz.prog 39 zAn
def zCz (a0:List zAa) (a1:Int) (x0:Int):St:=⟨[(8,nI x0),(7,nI (a0.length:Int)),(0, .d (.lst (List.map zAa.en a0))),(1, .d (.clo (.func 250) [] [.cp [.int .i64 a1] 0]))],[]⟩
def zCB (a0:List zAa) (a1:Int) (x:Unit):St:=⟨[],[]⟩
theorem zCp (a0:List zAa) (a1:Int):∀(x0:Int),Ok (zAi a0 a1 x0) (LR zAX (.exit 0) (zCB a0 a1) 39 0 (zCz a0 a1 x0)):=by
 refine zAi.partial_correctness a0 a1 _ ?_
 intro f IH x0
 exact Tr.lpR (F:=zAX) (X:=Int)
  (.ite 6 9 (x0<(a0.length:Int))
   (.idx 14 zAa.e a0 x0<| .call 1 (zNI (at' a0 x0) a1) zAg fun r1=> .iteB 1 16 (r1)
   (.ret 10 (.inl x0))
   (.again 7 (IntKind.i64.wrap (x0+1))))
   (.ret 4 (.inr ()))) _ fun x r=>IH x r
theorem zCP (a0:List zAa) (a1:Int):HS 39 (zAK a0 a1) [.lst (List.map zAa.en a0), .clo (.func 250) [] [.cp [.int .i64 a1] 0]] zAn:=Tr.fn (F:=zAX)
 (.len 8 zAa.e a0<| .loopR 4 id ⟨_,_,_,_,_,zCp a0 a1 0⟩ fun j2=> .ret 6 (-1))
noncomputable abbrev zCA:Fe:= .of Tryz.prog 26 zAd
theorem zCn (a0:List zAa) (a1:Int):HS 26 (zAA a0 a1) [.lst (List.map zAa.en a0), .clo (.func 250) [] [.cp [.int .i64 a1] 0]] zAd:=Tr.fn (F:=zCA)
 (.call 8 (zCP a0 a1) zAs fun r1=> .ret 4 (decide (r1≥0)))
noncomputable abbrev zRZ:Fe:= .of Tryz.prog 246 zAn
theorem zMf (a0:Int) (a1:Int) (a2:List Int) (a3:List zAa):HS 246 (zFd a0 a1 a2 a3) [.int .i64 a0, .int .i64 a1, .lst (List.map (D.int .i64) a2), .lst (List.map zAa.en a3)] zAn:=Tr.fn (F:=zRZ)
 (.call 10 (zNY a0 a1) zAe fun r1=> .iteN 14 17 (r1.2=0)
  (.ret 9 r1.2)
  (.len 4 eI a2<| .join 3 4 (γ:=Bool) ⟨fun x=>[(30,bB x)],[5,3],fun _=>[],[.s 31]⟩
  (.iteN 0 26 ((a2.length:Int)=r1.1)
  (.ret 5 true)
  (.call 2 (zCm a3 a0) zAg fun r2=> .ret 2 r2))
  fun j3=> .iteB 2 21 (j3)
  (.ret 8 4)
  (.len 4 zAa.e a3<| .join 2 4 (γ:=Bool) ⟨fun x=>[(39,bB x)],[5,3],fun _=>[],[.s 31]⟩
  (.ite 0 35 ((a3.length:Int)=0)
  (.ret 5 true)
  (.len 1 zAa.e a3<| .ret 3 (decide ((a3.length:Int)>64))))
  fun j4=> .join 1 4 (γ:=Bool) ⟨fun x=>[(44,bB x)],[],fun _=>[],[]⟩
  (.iteB 0 40 (j4)
  (.ret 5 true)
  (.call 2 (zCn a3 a1) zAg fun r5=> .ret 2 r5))
  fun j6=> .iteB 2 31 (j6)
  (.ret 8 1)
  (.ret 8 0))))
noncomputable abbrev zI2:Fe:= .of Tryz.prog 242 zAn
theorem zFj (a0:zAx) (a1:List Int) (a2:List zAa):HS 242 (zB1 a0 a1 a2) [.agg [.int .i64 a0.F_Model.F_Kind, .int .i64 a0.F_Model.F_In, .int .i64 a0.F_Model.F_Out, .int .i64 a0.F_Model.F_Hid, .int .i64 a0.F_Model.F_Frac], .lst (List.map (D.int .i64) a1), .lst (List.map zAa.en a2)] zAn:=Tr.fn (F:=zI2)
 (.call 15 (zMf a0.F_Model.F_In a0.F_Model.F_Out a1 a2) zAs fun r1=> .ret 3 r1)
noncomputable abbrev zPC:Fe:= .of Tryz.prog 276 zAd
theorem zOA (a0:zAa) (a1:Int):HS 276 (zF3 a0 a1) [.agg [.lst (List.map (D.int .i64) a0.F_X), .int .i64 a0.F_Y], .cp [.int .i64 a1] 0] zAd:=Tr.fn (F:=zPC)
 (.len 9 eI a0.F_X<| .ret 5 ((a0.F_X.length:Int) !=a1))
noncomputable abbrev zA2:Fe:= .of Tryz.prog 39 zAn
def zCK (a0:List zAa) (a1:Int) (x0:Int):St:=⟨[(8,nI x0),(7,nI (a0.length:Int)),(0, .d (.lst (List.map zAa.en a0))),(1, .d (.clo (.func 276) [] [.cp [.int .i64 a1] 0]))],[]⟩
def zCJ (a0:List zAa) (a1:Int) (x:Unit):St:=⟨[],[]⟩
theorem zCx (a0:List zAa) (a1:Int):∀(x0:Int),Ok (zAj a0 a1 x0) (LR zA2 (.exit 0) (zCJ a0 a1) 39 0 (zCK a0 a1 x0)):=by
 refine zAj.partial_correctness a0 a1 _ ?_
 intro f IH x0
 exact Tr.lpR (F:=zA2) (X:=Int)
  (.ite 6 9 (x0<(a0.length:Int))
   (.idx 14 zAa.e a0 x0<| .call 1 (zOA (at' a0 x0) a1) zAg fun r1=> .iteB 1 16 (r1)
   (.ret 10 (.inl x0))
   (.again 7 (IntKind.i64.wrap (x0+1))))
   (.ret 4 (.inr ()))) _ fun x r=>IH x r
theorem zCT (a0:List zAa) (a1:Int):HS 39 (zAM a0 a1) [.lst (List.map zAa.en a0), .clo (.func 276) [] [.cp [.int .i64 a1] 0]] zAn:=Tr.fn (F:=zA2)
 (.len 8 zAa.e a0<| .loopR 4 id ⟨_,_,_,_,_,zCx a0 a1 0⟩ fun j2=> .ret 6 (-1))
noncomputable abbrev zCI:Fe:= .of Tryz.prog 26 zAd
theorem zCr (a0:List zAa) (a1:Int):HS 26 (zAB a0 a1) [.lst (List.map zAa.en a0), .clo (.func 276) [] [.cp [.int .i64 a1] 0]] zAd:=Tr.fn (F:=zCI)
 (.call 8 (zCT a0 a1) zAs fun r1=> .ret 4 (decide (r1≥0)))
noncomputable abbrev zTJ:Fe:= .of Tryz.prog 273 zAn
theorem zMs (a0:Int) (a1:Int) (a2:List Int) (a3:List zAa):HS 273 (zFQ a0 a1 a2 a3) [.int .i64 a0, .int .i64 a1, .lst (List.map (D.int .i64) a2), .lst (List.map zAa.en a3)] zAn:=Tr.fn (F:=zTJ)
 (.call 9 (zLI a0 a1) zAe fun r1=> .iteN 14 17 (r1.2=0)
  (.ret 9 r1.2)
  (.len 4 eI a2<| .join 3 4 (γ:=Bool) ⟨fun x=>[(30,bB x)],[3],fun _=>[],[]⟩
  (.iteN 0 26 ((a2.length:Int)=r1.1)
  (.ret 5 true)
  (.call 2 (zCr a3 a0) zAg fun r2=> .ret 2 r2))
  fun j3=> .iteB 2 21 (j3)
  (.ret 8 4)
  (.len 4 zAa.e a3<| .join 2 4 (γ:=Bool) ⟨fun x=>[(39,bB x)],[],fun _=>[],[]⟩
  (.ite 0 35 ((a3.length:Int)=0)
  (.ret 5 true)
  (.len 1 zAa.e a3<| .ret 3 (decide ((a3.length:Int)>64))))
  fun j4=> .iteB 2 31 (j4)
  (.ret 8 1)
  (.ret 8 0))))
noncomputable abbrev zJF:Fe:= .of Tryz.prog 269 zAn
theorem zFJ (a0:zAD) (a1:List Int) (a2:List zAa):HS 269 (zCa a0 a1 a2) [.agg [.int .i64 a0.F_Model.F_Kind, .int .i64 a0.F_Model.F_In, .int .i64 a0.F_Model.F_Out, .int .i64 a0.F_Model.F_Hid, .int .i64 a0.F_Model.F_Frac], .lst (List.map (D.int .i64) a1), .lst (List.map zAa.en a2)] zAn:=Tr.fn (F:=zJF)
 (.call 15 (zMs a0.F_Model.F_In a0.F_Model.F_Hid a1 a2) zAs fun r1=> .ret 3 r1)
noncomputable abbrev zR7:Fe:= .of Tryz.prog 28 zAn
theorem zRD (a0:zAc) (a1:List Int) (a2:List zAa):HS 28 (zHF a0 a1 a2) [.agg [.int .i64 a0.F_Kind, .int .i64 a0.F_In, .int .i64 a0.F_Out, .int .i64 a0.F_Hid, .int .i64 a0.F_Frac], .lst (List.map (D.int .i64) a1), .lst (List.map zAa.en a2)] zAn:=Tr.fn (F:=zR7)
 (.callS4 8 (zK2 a0) zKO
  (fun r1=> .iteN 14 17 (r1.2=0)
  (.ret 8 r1.2)
  (.halt))
  (fun r2=> .iteN 14 17 (r2.2.2.2.2.2.2=0)
  (.ret 8 r2.2.2.2.2.2.2)
  (.call 7 (zFc (⟨(⟨r2.1,r2.2.1,r2.2.2.1,r2.2.2.2.1,r2.2.2.2.2.1⟩:zAc)⟩:zAv) a1 a2) zAs fun r3=> .ret 3 r3))
  (fun r4=> .iteN 14 17 (r4.2.2.2.2.2.2=0)
  (.ret 8 r4.2.2.2.2.2.2)
  (.call 7 (zFj (⟨(⟨r4.1,r4.2.1,r4.2.2.1,r4.2.2.2.1,r4.2.2.2.2.1⟩:zAc)⟩:zAx) a1 a2) zAs fun r5=> .ret 3 r5))
  (fun r6=> .iteN 14 17 (r6.2.2.2.2.2.2=0)
  (.ret 8 r6.2.2.2.2.2.2)
  (.call 7 (zFJ (⟨(⟨r6.1,r6.2.1,r6.2.2.1,r6.2.2.2.1,r6.2.2.2.2.1⟩:zAc)⟩:zAD) a1 a2) zAs fun r7=> .ret 3 r7)))
noncomputable abbrev zMw:Fe:= .of Tryz.prog 27 zAd
theorem zMh (a0:zAa) (a1:Int) (a2:Int) (a3:Int) (a4:Int) (a5:Int) (a6:Int) (a7:Int) (a8:Int) (a9:Int) (a10:Int) (a11:Int) (a12:Int) (a13:Int) (a14:Int) (a15:Int) (a16:List zAa) (a17:List Int):HS 27 (zF6 a0 a1 a2 a3 a4 a5 a6 a7 a8 a9 a10 a11 a12 a13 a14 a15 a16 a17) [.agg [.lst (List.map (D.int .i64) a0.F_X), .int .i64 a0.F_Y], .cp [.int .i64 a1, .int .i64 a2, .int .i64 a3, .int .i64 a4, .int .i64 a5, .int .i64 a6, .int .i64 a7, .int .i64 a8, .int .i64 a9, .int .i64 a10, .int .i64 a11, .int .i64 a12, .int .i64 a13, .int .i64 a14, .int .u64 a15, .lst (List.map zAa.en a16)] 0, .cp [.lst (List.map (D.int .i64) a17)] 0] zAd:=Tr.fn (F:=zMw)
 (.call 12 (zRD (⟨a2,a3,a4,a5,a6⟩:zAc) a17 [a0]) zAs fun r1=> .ret 4 (r1 !=0))
noncomputable abbrev zAW:Fe:= .of Tryz.prog 39 zAn
def zCw (a0:List zAa) (a1:Int) (a2:Int) (a3:Int) (a4:Int) (a5:Int) (a6:Int) (a7:Int) (a8:Int) (a9:Int) (a10:Int) (a11:Int) (a12:Int) (a13:Int) (a14:Int) (a15:Int) (a16:List zAa) (a17:List Int) (x0:Int):St:=⟨[(8,nI x0),(7,nI (a0.length:Int)),(0, .d (.lst (List.map zAa.en a0))),(1, .d (.clo (.func 27) [] [.cp [.int .i64 a1, .int .i64 a2, .int .i64 a3, .int .i64 a4, .int .i64 a5, .int .i64 a6, .int .i64 a7, .int .i64 a8, .int .i64 a9, .int .i64 a10, .int .i64 a11, .int .i64 a12, .int .i64 a13, .int .i64 a14, .int .u64 a15, .lst (List.map zAa.en a16)] 0, .cp [.lst (List.map (D.int .i64) a17)] 0]))],[]⟩
def zCt (a0:List zAa) (a1:Int) (a2:Int) (a3:Int) (a4:Int) (a5:Int) (a6:Int) (a7:Int) (a8:Int) (a9:Int) (a10:Int) (a11:Int) (a12:Int) (a13:Int) (a14:Int) (a15:Int) (a16:List zAa) (a17:List Int) (x:Unit):St:=⟨[],[]⟩
theorem zCq (a0:List zAa) (a1:Int) (a2:Int) (a3:Int) (a4:Int) (a5:Int) (a6:Int) (a7:Int) (a8:Int) (a9:Int) (a10:Int) (a11:Int) (a12:Int) (a13:Int) (a14:Int) (a15:Int) (a16:List zAa) (a17:List Int):∀(x0:Int),Ok (zAp a0 a1 a2 a3 a4 a5 a6 a7 a8 a9 a10 a11 a12 a13 a14 a15 a16 a17 x0) (LR zAW (.exit 0) (zCt a0 a1 a2 a3 a4 a5 a6 a7 a8 a9 a10 a11 a12 a13 a14 a15 a16 a17) 39 0 (zCw a0 a1 a2 a3 a4 a5 a6 a7 a8 a9 a10 a11 a12 a13 a14 a15 a16 a17 x0)):=by
 refine zAp.partial_correctness a0 a1 a2 a3 a4 a5 a6 a7 a8 a9 a10 a11 a12 a13 a14 a15 a16 a17 _ ?_
 intro f IH x0
 exact Tr.lpR (F:=zAW) (X:=Int)
  (.ite 6 9 (x0<(a0.length:Int))
   (.idx 14 zAa.e a0 x0<| .call 1 (zMh (at' a0 x0) a1 a2 a3 a4 a5 a6 a7 a8 a9 a10 a11 a12 a13 a14 a15 a16 a17) zAg fun r1=> .iteB 1 16 (r1)
   (.ret 10 (.inl x0))
   (.again 7 (IntKind.i64.wrap (x0+1))))
   (.ret 4 (.inr ()))) _ fun x r=>IH x r
theorem zCM (a0:List zAa) (a1:Int) (a2:Int) (a3:Int) (a4:Int) (a5:Int) (a6:Int) (a7:Int) (a8:Int) (a9:Int) (a10:Int) (a11:Int) (a12:Int) (a13:Int) (a14:Int) (a15:Int) (a16:List zAa) (a17:List Int):HS 39 (zA0 a0 a1 a2 a3 a4 a5 a6 a7 a8 a9 a10 a11 a12 a13 a14 a15 a16 a17) [.lst (List.map zAa.en a0), .clo (.func 27) [] [.cp [.int .i64 a1, .int .i64 a2, .int .i64 a3, .int .i64 a4, .int .i64 a5, .int .i64 a6, .int .i64 a7, .int .i64 a8, .int .i64 a9, .int .i64 a10, .int .i64 a11, .int .i64 a12, .int .i64 a13, .int .i64 a14, .int .u64 a15, .lst (List.map zAa.en a16)] 0, .cp [.lst (List.map (D.int .i64) a17)] 0]] zAn:=Tr.fn (F:=zAW)
 (.len 8 zAa.e a0<| .loopR 4 id ⟨_,_,_,_,_,zCq a0 a1 a2 a3 a4 a5 a6 a7 a8 a9 a10 a11 a12 a13 a14 a15 a16 a17 0⟩ fun j2=> .ret 6 (-1))
noncomputable abbrev zCs:Fe:= .of Tryz.prog 26 zAd
theorem zCl (a0:List zAa) (a1:Int) (a2:Int) (a3:Int) (a4:Int) (a5:Int) (a6:Int) (a7:Int) (a8:Int) (a9:Int) (a10:Int) (a11:Int) (a12:Int) (a13:Int) (a14:Int) (a15:Int) (a16:List zAa) (a17:List Int):HS 26 (zAH a0 a1 a2 a3 a4 a5 a6 a7 a8 a9 a10 a11 a12 a13 a14 a15 a16 a17) [.lst (List.map zAa.en a0), .clo (.func 27) [] [.cp [.int .i64 a1, .int .i64 a2, .int .i64 a3, .int .i64 a4, .int .i64 a5, .int .i64 a6, .int .i64 a7, .int .i64 a8, .int .i64 a9, .int .i64 a10, .int .i64 a11, .int .i64 a12, .int .i64 a13, .int .i64 a14, .int .u64 a15, .lst (List.map zAa.en a16)] 0, .cp [.lst (List.map (D.int .i64) a17)] 0]] zAd:=Tr.fn (F:=zCs)
 (.call 8 (zCM a0 a1 a2 a3 a4 a5 a6 a7 a8 a9 a10 a11 a12 a13 a14 a15 a16 a17) zAs fun r1=> .ret 4 (decide (r1≥0)))
noncomputable abbrev zSR:Fe:= .of Tryz.prog 10 zAn
theorem zI8 (a0:zAl):HS 10 (zE1 a0) [.agg [.int .i64 a0.F_N, .int .i64 a0.F_M.F_Kind, .int .i64 a0.F_M.F_In, .int .i64 a0.F_M.F_Out, .int .i64 a0.F_M.F_Hid, .int .i64 a0.F_M.F_Frac, .int .i64 a0.F_H.F_Scheme, .int .i64 a0.F_H.F_K, .int .i64 a0.F_H.F_Wide, .int .i64 a0.F_Warm, .int .i64 a0.F_Rate, .int .i64 a0.F_Mom, .int .i64 a0.F_Clip, .int .i64 a0.F_Batch, .int .u64 a0.F_Seed, .lst (List.map zAa.en a0.F_L)]] zAn:=Tr.fn (F:=zSR)
 (.call 9 (zME a0.F_M) zAe fun r1=> .join 12 6 (γ:=Bool) ⟨fun x=>[(21,bB x)],[3,1],fun _=>[],[.s 15]⟩
  (.iteN 0 15 (r1.2=0)
  (.ret 7 true)
  (.call 3 (zQD a0.F_H r1.1) zAs fun r2=> .ret 3 (r2 !=0)))
  fun j3=> .iteB 1 21 (j3)
  (.ret 7 1)
  (.rd 7 (0≤a0.F_M.F_Frac) (nI (sShl .i64 1 a0.F_M.F_Frac))<| .call 7 (zBy a0.F_N 1 64) zAg fun r4=> .join 2 5 (γ:=Bool) ⟨fun x=>[(35,bB x)],[5,3,1],fun _=>[],[.s 15]⟩
  (.iteX 0 30 (r4)
  (.ret 6 true)
  (.call 2 (zBy a0.F_Warm 0 1048576) zAg fun r5=> .ret 3 (!r5)))
  fun j6=> .join 1 6 (γ:=Bool) ⟨fun x=>[(42,bB x)],[5,3,1],fun _=>[],[.s 15]⟩
  (.iteB 0 36 (j6)
  (.ret 7 true)
  (.call 3 (zHz a0.F_Rate 0 (sShl .i64 1 a0.F_M.F_Frac)) zAg fun r7=> .ret 3 (!r7)))
  fun j8=> .join 1 6 (γ:=Bool) ⟨fun x=>[(49,bB x)],[3,1],fun _=>[],[.s 15]⟩
  (.iteB 0 43 (j8)
  (.ret 7 true)
  (.call 3 (zHz a0.F_Mom 0 (sShl .i64 1 a0.F_M.F_Frac)) zAg fun r9=> .ret 3 (!r9)))
  fun j10=> .join 1 4 (γ:=Bool) ⟨fun x=>[(54,bB x)],[3,1],fun _=>[],[.s 15]⟩
  (.iteB 0 50 (j10)
  (.ret 5 true)
  (.ret 5 (decide (a0.F_Clip<0))))
  fun j11=> .iteB 1 54 (j11)
  (.ret 7 1)
  (.len 7 zAa.e a0.F_L<| .join 2 9 (γ:=Bool) ⟨fun x=>[(68,bB x)],[3,1],fun _=>[],[.s 15]⟩
  (.ite 0 59 ((a0.F_L.length:Int)>256)
  (.ret 10 true)
  (.len 4 zAa.e a0.F_L<| .let_ (if (a0.F_L.length:Int)<64 then (a0.F_L.length:Int) else 64:Int) fun y12=> .call 1 (zBy a0.F_Batch 1 y12) zAg fun r14=> .ret 3 (!r14)))
  fun j15=> .iteB 1 68 (j15)
  (.ret 7 1)
  (.mk 5 eI 8 0 r1.1 r1.1<| .let_ (List.replicate (Int.toNat r1.1) 0:List Int) fun y16=> .call 9 (zCl a0.F_L a0.F_N a0.F_M.F_Kind a0.F_M.F_In a0.F_M.F_Out a0.F_M.F_Hid a0.F_M.F_Frac a0.F_H.F_Scheme a0.F_H.F_K a0.F_H.F_Wide a0.F_Warm a0.F_Rate a0.F_Mom a0.F_Clip a0.F_Batch a0.F_Seed a0.F_L y16) zAg fun r18=> .iteB 1 74 (r18)
  (.ret 7 1)
  (.ret 7 0)))))
noncomputable abbrev zGQ:Fe:= .of Tryz.prog 8 zAd
def zLM (x0:Int):St:=⟨[(13,nI x0),(12,nI ([10,8,6,4,2,2].length:Int)),(11,sI (.s 3215) [10,8,6,4,2,2]),(1, .ptr (.s 1695) 0)],[(.s 1695,[nI 1,nI 0,nI 1,nI 0,nI 0,nI 0,nI 0,nI 0,nI 0,nI 0,nI 0,nI 0,nI 0,nI 1,nU 0, .sl (.s 1663) 2 0 (List.map zAa.en [(⟨[1],0⟩:zAa)])])]⟩
def zLX (x:Unit):St:=⟨[(1, .ptr (.s 1695) 0)],[(.s 1695,[nI 1,nI 0,nI 1,nI 0,nI 0,nI 0,nI 0,nI 0,nI 0,nI 0,nI 0,nI 0,nI 0,nI 1,nU 0, .sl (.s 1663) 2 0 (List.map zAa.en [(⟨[1],0⟩:zAa)])])]⟩
theorem zLa:∀(x0:Int),Ok (zBm x0) (LR zGQ (.exit 0) zLX 8 0 (zLM x0)):=by
 refine zBm.partial_correctness _ ?_
 intro f IH x0
 exact Tr.lpR (F:=zGQ) (X:=Int)
  (.ite 6 14 (x0<([10,8,6,4,2,2].length:Int))
   (.idx 7 eI [10,8,6,4,2,2] x0<| .call 7 (zSm 10 2 4 x0) zAe fun r1=> .join 12 3 (γ:=Bool) ⟨fun x=>[(29,bB x)],[13,12,11,1],fun _=>[],[.s 1695]⟩
   (.iteN 0 26 (r1.1=(at' [10,8,6,4,2,2] x0))
   (.ret 4 true)
   (.ret 4 (r1.2 !=0)))
   fun j2=> .iteB 1 29 (j2)
   (.ret 9 (.inl false))
   (.again 7 (IntKind.i64.wrap (x0+1))))
   (.ret 4 (.inr ()))) _ fun x r=>IH x r
theorem zMH:HS 8 zEQ [] zAd:=Tr.fn (F:=zGQ)
 (.len 18 eI [10,8,6,4,2,2]<| .loopR 4 id ⟨_,_,_,_,_,zLa 0⟩ fun j3=> .call 4 (zI8 (⟨1,(⟨0,1,0,0,0⟩:zAc),(⟨0,0,0⟩:zBb),0,0,0,0,1,0,[(⟨[1],0⟩:zAa)]⟩:zAl)) zAs fun r4=> .join 2 4 (γ:=Bool) ⟨fun x=>[(38,bB x)],[],fun _=>[],[]⟩
  (.ite 0 34 (r4=0)
  (.call 1 (zI8 (⟨0,(⟨0,0,0,0,0⟩:zAc),(⟨0,0,0⟩:zBb),0,0,0,0,0,0,[]⟩:zAl)) zAs fun r5=> .ret 3 (r5==1))
  (.ret 5 false))
  fun j6=> .ret 3 j6)
noncomputable abbrev zHl:Fe:= .of Tryz.prog 9 zAd
def zMg (a0:zAl) (x0:Int):St:=⟨[(8,nI x0),(7,nI (a0.F_L.length:Int)),(6, .d (.lst (List.map zAa.en a0.F_L))),(1, .ptr (.s 15) 0)],[(.s 15,[nI a0.F_N,nI a0.F_M.F_Kind,nI a0.F_M.F_In,nI a0.F_M.F_Out,nI a0.F_M.F_Hid,nI a0.F_M.F_Frac,nI a0.F_H.F_Scheme,nI a0.F_H.F_K,nI a0.F_H.F_Wide,nI a0.F_Warm,nI a0.F_Rate,nI a0.F_Mom,nI a0.F_Clip,nI a0.F_Batch,nU a0.F_Seed, .d (.lst (List.map zAa.en a0.F_L))])]⟩
def zMi (a0:zAl) (x:Unit):St:=⟨[(1, .ptr (.s 15) 0)],[(.s 15,[nI a0.F_N,nI a0.F_M.F_Kind,nI a0.F_M.F_In,nI a0.F_M.F_Out,nI a0.F_M.F_Hid,nI a0.F_M.F_Frac,nI a0.F_H.F_Scheme,nI a0.F_H.F_K,nI a0.F_H.F_Wide,nI a0.F_Warm,nI a0.F_Rate,nI a0.F_Mom,nI a0.F_Clip,nI a0.F_Batch,nU a0.F_Seed, .d (.lst (List.map zAa.en a0.F_L))])]⟩
theorem zLB (a0:zAl):∀(x0:Int),Ok (zB4 a0 x0) (LR zHl (.exit 0) (zMi a0) 9 0 (zMg a0 x0)):=by
 refine zB4.partial_correctness a0 _ ?_
 intro f IH x0
 exact Tr.lpR (F:=zHl) (X:=Int)
  (.ite 6 9 (x0<(a0.F_L.length:Int))
   (.idx 6 zAa.e a0.F_L x0<| .len 8 eI ((at' a0.F_L x0).F_X)<| .ite 2 15 ((((at' a0.F_L x0).F_X).length:Int)>100)
   (.ret 9 (.inl false))
   (.again 7 (IntKind.i64.wrap (x0+1))))
   (.ret 4 (.inr ()))) _ fun x r=>IH x r
theorem zNF (a0:zAl):HS 9 (zFn a0) [.agg [.int .i64 a0.F_N, .int .i64 a0.F_M.F_Kind, .int .i64 a0.F_M.F_In, .int .i64 a0.F_M.F_Out, .int .i64 a0.F_M.F_Hid, .int .i64 a0.F_M.F_Frac, .int .i64 a0.F_H.F_Scheme, .int .i64 a0.F_H.F_K, .int .i64 a0.F_H.F_Wide, .int .i64 a0.F_Warm, .int .i64 a0.F_Rate, .int .i64 a0.F_Mom, .int .i64 a0.F_Clip, .int .i64 a0.F_Batch, .int .u64 a0.F_Seed, .lst (List.map zAa.en a0.F_L)]] zAd:=Tr.fn (F:=zHl)
 (.len 10 zAa.e a0.F_L<| .loopR 4 id ⟨_,_,_,_,_,zLB a0 0⟩ fun j1=> .len 5 zAa.e a0.F_L<| .ret 4 (decide ((a0.F_L.length:Int)≤300)))
noncomputable abbrev zW8:Fe:= .of Tryz.prog 30 zAd
theorem zVb (a0:zAl) (a1:Int):HS 30 (zKA a0 a1) [.agg [.int .i64 a0.F_N, .int .i64 a0.F_M.F_Kind, .int .i64 a0.F_M.F_In, .int .i64 a0.F_M.F_Out, .int .i64 a0.F_M.F_Hid, .int .i64 a0.F_M.F_Frac, .int .i64 a0.F_H.F_Scheme, .int .i64 a0.F_H.F_K, .int .i64 a0.F_H.F_Wide, .int .i64 a0.F_Warm, .int .i64 a0.F_Rate, .int .i64 a0.F_Mom, .int .i64 a0.F_Clip, .int .i64 a0.F_Batch, .int .u64 a0.F_Seed, .lst (List.map zAa.en a0.F_L)], .int .i64 a1] zAd:=Tr.fn (F:=zW8)
 (.call 8 (zBy a1 0 1073741824) zAg fun r1=> .join 1 4 (γ:=Bool) ⟨fun x=>[(11,bB x)],[],fun _=>[],[]⟩
  (.iteB 0 7 (r1)
  (.call 1 (zI8 a0) zAs fun r2=> .ret 3 (r2==0))
  (.ret 5 false))
  fun j3=> .ret 3 j3)
def zAS (v:Int):PV:=nU v
noncomputable abbrev zKM:Fe:= .of Tryz.prog 96 zAS
theorem zAr:∀v,(zAS v).noLst:=fun _=>trivial
theorem zGD (a0:Int) (a1:Int):HS 96 (zBp a0 a1) [.int .u64 a0, .int .i64 a1] zAS:=Tr.fn (F:=zKM)
 (.ret 22 (bXor .u64 (IntKind.u64.wrap ((bXor .u64 a0 (IntKind.u64.wrap a1))*11400714819323198485)) (sShr .u64 (IntKind.u64.wrap ((bXor .u64 a0 (IntKind.u64.wrap a1))*11400714819323198485)) 29)))
noncomputable abbrev zKL:Fe:= .of Tryz.prog 95 zAS
def zQo (a1:List Int) (x0:Int) (x1:Int):St:=⟨[(11,nI x0),(10,nI (a1.length:Int)),(9,lI a1),(5,nU x1)],[]⟩
def zQw (a1:List Int) (x:Int):St:=⟨[(5,nU x)],[]⟩
theorem zQa (a1:List Int):∀(x0:Int) (x1:Int),Ok (zDL a1 x0 x1) (LN zKL (.exit 0) (zQw a1) 95 0 (zQo a1 x0 x1)):=by
 refine zDL.partial_correctness a1 _ ?_
 intro f IH x0 x1
 exact Tr.lpN (F:=zKL) (X:=Int×Int)
  (.ite 6 12 (x0<(a1.length:Int))
   (.idx 6 eI a1 x0<| .call 6 (zGD x1 (at' a1 x0)) zAr fun r1=> .again 7 (IntKind.i64.wrap (x0+1),r1))
   (.ret 4 x1)) _ fun x r=>IH x.1 x.2 r
theorem zSz (a0:Int) (a1:List Int):HS 95 (zIr a0 a1) [.int .u64 a0, .lst (List.map (D.int .i64) a1)] zAS:=Tr.fn (F:=zKL)
 (.len 13 eI a1<| .loop 4 ⟨_,_,_,_,_,zQa a1 0 a0⟩ fun j2=> .ret 7 j2)
noncomputable abbrev zK8:Fe:= .of Tryz.prog 97 zAS
theorem zKW (a0:Int):HS 97 (zCc a0) [.int .u64 a0] zAS:=Tr.fn (F:=zK8)
 (.ret 19 (bXor .u64 (IntKind.u64.wrap (a0*13787848793156543929)) (sShr .u64 (IntKind.u64.wrap (a0*13787848793156543929)) 32)))
def zAf (v:(List Int)×Int):PV:= .tup [sI (.s 0) v.1,nI v.2]
noncomputable abbrev zGe:Fe:= .of Tryz.prog 68 zAf
def zPB (a0:Int) (a1:Int) (a2:List Int) (y1:List Int) (x0:Int) (x1:List Int):St:=⟨[(23,nI x0),(22,nI (y1.length:Int)),(8,sI (.h 0) x1),(0,nI a0),(1,nU a1),(2,lI a2)],[]⟩
def zP2 (a0:Int) (a1:Int) (a2:List Int) (y1:List Int) (x:(List Int)):St:=⟨[(8,sI (.h 1) x),(0,nI a0),(1,nU a1),(2,lI a2)],[]⟩
theorem zOk (a0:Int) (a1:Int) (a2:List Int) (y1:List Int):∀(x0:Int) (x1:List Int),Ok (zBN a0 a1 a2 y1 x0 x1) (LN zGe (.exit 1) (zP2 a0 a1 a2 y1) 68 0 (zPB a0 a1 a2 y1 x0 x1)):=by
 refine zBN.partial_correctness a0 a1 a2 y1 _ ?_
 intro f IH x0 x1
 exact Tr.lpN (F:=zGe) (X:=Int×(List Int))
  (.ite 6 24 (x0<(y1.length:Int))
   (.idx 13 eI x1 x0<| .sto 0 [8] eI x1 x0 x0<| .again 6 (IntKind.i64.wrap (x0+1),x1.set (Int.toNat x0) x0))
   (.ret 4 x1)) _ fun x r=>IH x.1 x.2 r
def zP5 (r4:Int) (x0:Int) (x1:List Int):St:=⟨[(11,nI x0),(10,nU r4),(8,sI (.h 2) x1)],[]⟩
def zQc (r4:Int) (x:(List Int)):St:=⟨[(8,sI (.h 3) x)],[]⟩
theorem zOy (r4:Int):∀(x0:Int) (x1:List Int),Ok (zBq r4 x0 x1) (LN zGe (.exit 3) (zQc r4) 68 1 (zP5 r4 x0 x1)):=by
 refine zBq.partial_correctness r4 _ ?_
 intro f IH x0 x1
 exact Tr.lpN (F:=zGe) (X:=Int×(List Int))
  (.ite 7 37 (x0>0)
   (.call 8 (zGD r4 x0) zAr fun r5=> .call 0 (zKW r5) zAr fun r6=> .rd 3 (IntKind.u64.wrap (IntKind.i64.wrap (x0+1))≠0) (nU (Int.tmod r6 (IntKind.u64.wrap (IntKind.i64.wrap (x0+1)))))<| .idx 9 eI x1 (Int.tmod r6 (IntKind.u64.wrap (IntKind.i64.wrap (x0+1))))<| .idx 3 eI x1 x0<| .idx 1 eI x1 x0<| .sto 0 [56,52,50,48,8] eI x1 x0 (at' x1 (Int.tmod r6 (IntKind.u64.wrap (IntKind.i64.wrap (x0+1)))))<| .hold 1 []<| .idx 0 eI (x1.set (Int.toNat x0) (at' x1 (Int.tmod r6 (IntKind.u64.wrap (IntKind.i64.wrap (x0+1)))))) (Int.tmod r6 (IntKind.u64.wrap (IntKind.i64.wrap (x0+1))))<| .sto 0 [56,52,50,48,8] eI (x1.set (Int.toNat x0) (at' x1 (Int.tmod r6 (IntKind.u64.wrap (IntKind.i64.wrap (x0+1)))))) (Int.tmod r6 (IntKind.u64.wrap (IntKind.i64.wrap (x0+1)))) (at' x1 x0)<| .let_ ((x1.set (Int.toNat x0) (at' x1 (Int.tmod r6 (IntKind.u64.wrap (IntKind.i64.wrap (x0+1)))))).set (Int.toNat (Int.tmod r6 (IntKind.u64.wrap (IntKind.i64.wrap (x0+1))))) (at' x1 x0):List Int) fun y7=> .again 8 (IntKind.i64.wrap (x0-1),y7))
   (.ret 4 x1)) _ fun x r=>IH x.1 x.2 r
theorem zAt:∀v,(zAf v).noLst:=fun _=>⟨(zIn fun _=>trivial),trivial,trivial⟩
theorem zRn (a0:Int) (a1:Int) (a2:List Int):HS 68 (zEZ a0 a1 a2) [.int .i64 a0, .int .u64 a1, .lst (List.map (D.int .i64) a2)] zAf:=Tr.fn (F:=zGe)
 (.ite 13 13 (a0<0)
  (.ret 9 ([],1))
  (.ite 7 16 (a0>4096)
  (.ret 9 ([],3))
  (.mk 6 eI 8 0 a0 a0<| .let_ (List.replicate (Int.toNat a0) 0:List Int) fun y1=> .len 6 eI y1<| .loop 4 ⟨_,_,_,_,_,zOk a0 a1 a2 y1 0 y1⟩ fun j3=> .call 5 (zSz a1 a2) zAr fun r4=> .loop 11 ⟨_,_,_,_,_,zOy r4 (IntKind.i64.wrap (a0-1)) j3⟩ fun j9=> .ret 8 (j9,0))))
noncomputable abbrev zT6:Fe:= .of Tryz.prog 33 zAf
theorem zSA (a0:Int) (a1:Int) (a2:Int) (a3:List Int):HS 33 (zEJ a0 a1 a2 a3) [.int .i64 a0, .int .i64 a1, .int .u64 a2, .lst (List.map (D.int .i64) a3)] zAf:=Tr.fn (F:=zT6)
 (.join 11 4 (γ:=Bool) ⟨fun x=>[(18,bB x)],[0,1,2,3],fun _=>[],[]⟩
  (.ite 0 14 (a0<0)
  (.ret 5 true)
  (.ret 5 (decide (a0>a1))))
  fun j1=> .iteB 1 18 (j1)
  (.ret 8 ([],1))
  (.call 7 (zRn a1 a2 a3) zAt fun r2=> .iteN 12 27 (r2.2=0)
  (.ret 9 ([],r2.2))
  (.cut 6 eI r2.1 none (some a0)<| .ret 4 (cut' r2.1 none (some a0),0))))
noncomputable abbrev zSM:Fe:= .of Tryz.prog 15 zAf
theorem zI0 (a0:zAl) (a1:Int) (a2:Int):HS 15 (zCN a0 a1 a2) [.agg [.int .i64 a0.F_N, .int .i64 a0.F_M.F_Kind, .int .i64 a0.F_M.F_In, .int .i64 a0.F_M.F_Out, .int .i64 a0.F_M.F_Hid, .int .i64 a0.F_M.F_Frac, .int .i64 a0.F_H.F_Scheme, .int .i64 a0.F_H.F_K, .int .i64 a0.F_H.F_Wide, .int .i64 a0.F_Warm, .int .i64 a0.F_Rate, .int .i64 a0.F_Mom, .int .i64 a0.F_Clip, .int .i64 a0.F_Batch, .int .u64 a0.F_Seed, .lst (List.map zAa.en a0.F_L)], .int .i64 a1, .int .i64 a2] zAf:=Tr.fn (F:=zSM)
 (.call 11 (zVb a0 a2) zAg fun r1=> .join 2 7 (γ:=Bool) ⟨fun x=>[(19,bB x)],[3,1,2],fun _=>[],[.s 15]⟩
  (.iteX 0 12 (r1)
  (.ret 8 true)
  (.call 4 (zBy a1 0 (IntKind.i64.wrap (a0.F_N-1))) zAg fun r2=> .ret 3 (!r2)))
  fun j3=> .iteB 1 19 (j3)
  (.ret 8 ([],1))
  (.len 8 zAa.e a0.F_L<| .call 5 (zSA a0.F_Batch (a0.F_L.length:Int) a0.F_Seed [a1,a2]) zAt fun r4=> .ret 6 (r4.1,r4.2)))
noncomputable abbrev zGh:Fe:= .of Tryz.prog 20 zAd
def zLb (a0:List Int) (a1:List Int) (x0:Int):St:=⟨[(13,nI x0),(12,nI (a0.length:Int)),(0,lI a0),(1,lI a1)],[]⟩
def zLk (a0:List Int) (a1:List Int) (x:Unit):St:=⟨[],[]⟩
theorem zKQ (a0:List Int) (a1:List Int):∀(x0:Int),Ok (zDb a0 a1 x0) (LR zGh (.exit 0) (zLk a0 a1) 20 0 (zLb a0 a1 x0)):=by
 refine zDb.partial_correctness a0 a1 _ ?_
 intro f IH x0
 exact Tr.lpR (F:=zGh) (X:=Int)
  (.ite 6 14 (x0<(a0.length:Int))
   (.idx 13 eI a0 x0<| .idx 3 eI a1 x0<| .iteN 3 24 ((at' a0 x0)=(at' a1 x0))
   (.ret 9 (.inl false))
   (.again 7 (IntKind.i64.wrap (x0+1))))
   (.ret 4 (.inr ()))) _ fun x r=>IH x r
theorem zMj (a0:List Int) (a1:List Int):HS 20 (zEE a0 a1) [.lst (List.map (D.int .i64) a0), .lst (List.map (D.int .i64) a1)] zAd:=Tr.fn (F:=zGh)
 (.len 8 eI a0<| .len 1 eI a1<| .iteN 2 10 ((a0.length:Int)=(a1.length:Int))
  (.ret 7 false)
  (.len 6 eI a0<| .loopR 4 id ⟨_,_,_,_,_,zKQ a0 a1 0⟩ fun j1=> .ret 6 true))
noncomputable abbrev zVF:Fe:= .of Tryz.prog 237 zAn
theorem zNO (a0:List Int) (a1:List Int):HS 237 (zHR a0 a1) [.lst (List.map (D.int .i64) a0), .lst (List.map (D.int .i64) a1)] zAn:=Tr.fn (F:=zVF)
 (.len 9 eI a0<| .len 1 eI a1<| .ite 4 5 ((if (a1.length:Int)>(a0.length:Int) then (a1.length:Int) else (a0.length:Int))>4096)
  (.ret 8 3)
  (.len 4 eI a0<| .len 1 eI a1<| .iteN 3 12 ((a0.length:Int)=(a1.length:Int))
  (.ret 8 4)
  (.ret 8 0)))
noncomputable abbrev zTu:Fe:= .of Tryz.prog 230 zAd
theorem zL9 (a0:Int):HS 230 (zF4 a0) [.int .i64 a0] zAd:=Tr.fn (F:=zTu)
 (.join 9 3 (γ:=Bool) ⟨fun x=>[(8,bB x)],[],fun _=>[],[]⟩
  (.ite 0 5 (a0≥0)
  (.ret 4 (decide (a0≤30)))
  (.ret 4 false))
  fun j1=> .ret 3 j1)
def zD3 (v:Int×Int):PV:= .tup [nU v.1,nU v.2]
noncomputable abbrev zNC:Fe:= .of Tryz.prog 118 zD3
theorem zGl:∀v,(zD3 v).noLst:=fun _=>⟨trivial,trivial,trivial⟩
theorem zIH (a0:Int) (a1:Int):HS 118 (zDx a0 a1) [.int .u64 a0, .int .u64 a1] zD3:=Tr.fn (F:=zNC)
 (.ret 87 (IntKind.u64.wrap ((IntKind.u64.wrap ((IntKind.u64.wrap ((sShr .u64 a0 32)*(sShr .u64 a1 32)))+(sShr .u64 (IntKind.u64.wrap ((IntKind.u64.wrap ((sShr .u64 a0 32)*(bAnd .u64 a1 4294967295)))+(sShr .u64 (IntKind.u64.wrap ((bAnd .u64 a0 4294967295)*(bAnd .u64 a1 4294967295))) 32))) 32)))+(sShr .u64 (IntKind.u64.wrap ((bAnd .u64 (IntKind.u64.wrap ((IntKind.u64.wrap ((sShr .u64 a0 32)*(bAnd .u64 a1 4294967295)))+(sShr .u64 (IntKind.u64.wrap ((bAnd .u64 a0 4294967295)*(bAnd .u64 a1 4294967295))) 32))) 4294967295)+(IntKind.u64.wrap ((bAnd .u64 a0 4294967295)*(sShr .u64 a1 32))))) 32)),IntKind.u64.wrap (a0*a1)))
def zF9 (v:Int×Int):PV:= .d (.agg [.int .u64 v.1, .int .u64 v.2])
noncomputable abbrev zTP:Fe:= .of Tryz.prog 231 zF9
theorem zMF:∀v,(zF9 v).noLst:=fun _=>⟨trivial,trivial,trivial⟩
theorem zSx (a0:Int) (a1:Int):HS 231 (zIg a0 a1) [.int .i64 a0, .int .i64 a1] zF9:=Tr.fn (F:=zTP)
 (.call 10 (zIH (IntKind.u64.wrap a0) (IntKind.u64.wrap a1)) zGl fun r1=> .ite 12 16 (a0<0)
  (.ite 14 22 (a1<0)
  (.ret 16 (IntKind.u64.wrap ((IntKind.u64.wrap (r1.1-(IntKind.u64.wrap a1)))-(IntKind.u64.wrap a0)),r1.2))
  (.ret 10 (IntKind.u64.wrap (r1.1-(IntKind.u64.wrap a1)),r1.2)))
  (.ite 8 22 (a1<0)
  (.ret 16 (IntKind.u64.wrap (r1.1-(IntKind.u64.wrap a0)),r1.2))
  (.ret 10 (r1.1,r1.2))))
noncomputable abbrev zJZ:Fe:= .of Tryz.prog 232 zF9
theorem zJm (a0:zBv) (a1:Int):HS 232 (zDs a0 a1) [.agg [.int .u64 a0.F_c0, .int .u64 a0.F_c1], .int .i64 a1] zF9:=Tr.fn (F:=zJZ)
 (.ite 11 6 (a1=0)
  (.ret 8 (a0.F_c0,a0.F_c1))
  (.rd 8 (0≤a1) (nI (sShr .i64 (IntKind.i64.wrap a0.F_c0) a1))<| .rd 5 (0≤IntKind.i64.wrap (64-a1)) (nU (sShl .u64 a0.F_c0 (IntKind.i64.wrap (64-a1))))<| .rd 3 (0≤a1) (nU (sShr .u64 a0.F_c1 a1))<| .ret 5 (IntKind.u64.wrap (sShr .i64 (IntKind.i64.wrap a0.F_c0) a1),bOr .u64 (sShl .u64 a0.F_c0 (IntKind.i64.wrap (64-a1))) (sShr .u64 a0.F_c1 a1))))
noncomputable abbrev zIY:Fe:= .of Tryz.prog 233 zAk
theorem zIG (a0:zBv):HS 233 (zCX a0) [.agg [.int .u64 a0.F_c0, .int .u64 a0.F_c1]] zAk:=Tr.fn (F:=zIY)
 (.iteB 25 15 (!(([a0.F_c0,a0.F_c1]:List Int)==[IntKind.u64.wrap (sShr .i64 (IntKind.i64.wrap a0.F_c1) 63),a0.F_c1]))
  (.ret 8 (0,2))
  (.ret 9 (IntKind.i64.wrap a0.F_c1,0)))
noncomputable abbrev zWS:Fe:= .of Tryz.prog 226 zAk
theorem zJy (a0:Int) (a1:Int) (a2:Int):HS 226 (zGb a0 a1 a2) [.int .i64 a0, .int .i64 a1, .int .i64 a2] zAk:=Tr.fn (F:=zWS)
 (.call 9 (zL9 a2) zAg fun r1=> .iteX 2 10 (r1)
  (.ret 8 (0,1))
  (.call 6 (zSx a0 a1) zMF fun r2=> .call 1 (zJm (⟨r2.1,r2.2⟩:zBv) a2) zMF fun r3=> .call 0 (zIG (⟨r3.1,r3.2⟩:zBv)) zAe fun r4=> .ret 6 (r4.1,r4.2)))
noncomputable abbrev zSG:Fe:= .of Tryz.prog 224 zAn
theorem zL6 (a0:Int):HS 224 (zGr a0) [.int .i64 a0] zAn:=Tr.fn (F:=zSG)
 (.call 7 (zJy 0 0 a0) zAe fun r1=> .ret 12 r1.2)
noncomputable abbrev zNH:Fe:= .of Tryz.prog 240 zAk
theorem zMT (a0:Int) (a1:List Int) (a2:List Int) (a3:Int):HS 240 (zGL a0 a1 a2 a3) [.int .i64 a0, .cp [.lst (List.map (D.int .i64) a1)] 0, .cp [.lst (List.map (D.int .i64) a2)] 0, .cp [.int .i64 a3] 0] zAk:=Tr.fn (F:=zNH)
 (.idx 9 eI a1 a0<| .idx 3 eI a2 a0<| .call 2 (zJy (at' a1 a0) (at' a2 a0) a3) zAe fun r1=> .ret 6 (r1.1,r1.2))
noncomputable abbrev zVX:Fe:= .of Tryz.prog 169 zAk
theorem zL4 (a0:Int) (a1:Int):HS 169 (zHv a0 a1) [.int .i64 a0, .int .i64 a1] zAk:=Tr.fn (F:=zVX)
 (.ite 24 17 ((bAnd .i64 (bXor .i64 a0 (IntKind.i64.wrap (a0+a1))) (bXor .i64 a1 (IntKind.i64.wrap (a0+a1))))<0)
  (.ret 8 (0,2))
  (.ret 9 (IntKind.i64.wrap (a0+a1),0)))
noncomputable abbrev zFa:Fe:= .of Tryz.prog 145 zAk
def zJ6 (a0:Int) (a1:List Int) (a2:List Int) (a3:Int) (x0:Int) (x1:Int):St:=⟨[(10,nI x0),(9,nI a0),(4,nI x1),(1, .d (.clo (.func 240) [] [.cp [.lst (List.map (D.int .i64) a1)] 0, .cp [.lst (List.map (D.int .i64) a2)] 0, .cp [.int .i64 a3] 0]))],[]⟩
def zKa (a0:Int) (a1:List Int) (a2:List Int) (a3:Int) (x:Int):St:=⟨[(4,nI x)],[]⟩
theorem zJv (a0:Int) (a1:List Int) (a2:List Int) (a3:Int):∀(x0:Int) (x1:Int),Ok (zAU a0 a1 a2 a3 x0 x1) (LR zFa (.exit 0) (zKa a0 a1 a2 a3) 145 0 (zJ6 a0 a1 a2 a3 x0 x1)):=by
 refine zAU.partial_correctness a0 a1 a2 a3 _ ?_
 intro f IH x0 x1
 exact Tr.lpR (F:=zFa) (X:=Int×Int)
  (.ite 6 11 (x0<a0)
   (.call 13 (zMT x0 a1 a2 a3) zAe fun r1=> .ite 12 20 (r1.2=0)
   (.call 4 (zL4 x1 r1.1) zAe fun r2=> .iteN 11 28 (r2.2=0)
   (.ret 11 (.inl (0,r2.2)))
   (.again 7 (IntKind.i64.wrap (x0+1),r2.1)))
   (.iteN 7 28 (r1.2=0)
   (.ret 11 (.inl (0,r1.2)))
   (.again 7 (IntKind.i64.wrap (x0+1),x1))))
   (.ret 4 (.inr x1))) _ fun x r=>IH x.1 x.2 r
theorem zKZ (a0:Int) (a1:List Int) (a2:List Int) (a3:Int):HS 145 (zE8 a0 a1 a2 a3) [.int .i64 a0, .clo (.func 240) [] [.cp [.lst (List.map (D.int .i64) a1)] 0, .cp [.lst (List.map (D.int .i64) a2)] 0, .cp [.int .i64 a3] 0]] zAk:=Tr.fn (F:=zFa)
 (.loopR 13 id ⟨_,_,_,_,_,zJv a0 a1 a2 a3 0 0⟩ fun j3=> .ret 8 (j3,0))
noncomputable abbrev zXd:Fe:= .of Tryz.prog 236 zAk
theorem zVf (a0:List Int) (a1:List Int) (a2:Int):HS 236 (zKD a0 a1 a2) [.lst (List.map (D.int .i64) a0), .lst (List.map (D.int .i64) a1), .int .i64 a2] zAk:=Tr.fn (F:=zXd)
 (.call 12 (zNO a0 a1) zAs fun r1=> .join 8 0 (γ:=Int) ⟨fun x=>[(8,nI x)],[5,4,3],fun _=>[],[.s 47, .s 31, .s 15]⟩
  (.ite 0 13 (r1=0)
  (.call 3 (zL6 a2) zAs fun r2=> .ret 2 r2)
  (.ret 2 r1))
  fun j3=> .iteN 6 17 (j3=0)
  (.ret 9 (0,j3))
  (.len 5 eI a0<| .call 1 (zKZ (a0.length:Int) a0 a1 a2) zAe fun r4=> .ret 6 (r4.1,r4.2)))
noncomputable abbrev zRs:Fe:= .of Tryz.prog 229 zAk
theorem zGA (a0:List Int) (a1:List Int) (a2:Int):HS 229 (zCW a0 a1 a2) [.lst (List.map (D.int .i64) a0), .lst (List.map (D.int .i64) a1), .int .i64 a2] zAk:=Tr.fn (F:=zRs)
 (.len 8 eI a1<| .call 10 (zHC (a1.length:Int) a0 [(⟨a1,0⟩:zAa)]) zAs fun r1=> .iteN 7 21 (r1=0)
  (.ret 9 (0,r1))
  (.cut 6 eI a0 none (some (a1.length:Int))<| .let_ (cut' a0 none (some (a1.length:Int)):List Int) fun y2=> .call 2 (zVf y2 a1 a2) zAe fun r4=> .iteN 12 33 (r4.2=0)
  (.ret 9 (0,r4.2))
  (.idx 7 eI a0 (a1.length:Int)<| .call 1 (zL4 r4.1 (at' a0 (a1.length:Int))) zAe fun r5=> .ret 6 (r5.1,r5.2))))
noncomputable abbrev zWx:Fe:= .of Tryz.prog 167 zAk
theorem zGv (a0:Int) (a1:Int):HS 167 (zEH a0 a1) [.int .i64 a0, .int .i64 a1] zAk:=Tr.fn (F:=zWx)
 (.ite 24 17 ((bAnd .i64 (bXor .i64 a0 a1) (bXor .i64 a0 (IntKind.i64.wrap (a0-a1))))<0)
  (.ret 8 (0,2))
  (.ret 9 (IntKind.i64.wrap (a0-a1),0)))
noncomputable abbrev zSW:Fe:= .of Tryz.prog 223 zAk
theorem zRr (a0:List Int) (a1:zAa) (a2:Int):HS 223 (zHQ a0 a1 a2) [.lst (List.map (D.int .i64) a0), .agg [.lst (List.map (D.int .i64) a1.F_X), .int .i64 a1.F_Y], .int .i64 a2] zAk:=Tr.fn (F:=zSW)
 (.call 12 (zGA a0 a1.F_X a2) zAe fun r1=> .iteN 12 19 (r1.2=0)
  (.ret 9 (0,r1.2))
  (.call 7 (zGv r1.1 a1.F_Y) zAe fun r2=> .ret 6 (r2.1,r2.2)))
noncomputable abbrev zTO:Fe:= .of Tryz.prog 99 zAn
theorem zF8 (a0:List Int):HS 99 (zDO a0) [.lst (List.map (D.int .i64) a0)] zAn:=Tr.fn (F:=zTO)
 (.len 8 eI a0<| .ite 2 5 ((a0.length:Int)>4096)
  (.ret 7 3)
  (.ret 7 0))
noncomputable abbrev zMk:Fe:= .of Tryz.prog 225 zAk
theorem zLL (a0:Int) (a1:List Int) (a2:Int) (a3:Int):HS 225 (zFW a0 a1 a2 a3) [.int .i64 a0, .cp [.lst (List.map (D.int .i64) a1)] 0, .cp [.int .i64 a2] 0, .cp [.int .i64 a3] 0] zAk:=Tr.fn (F:=zMk)
 (.idx 9 eI a1 a0<| .call 3 (zJy (at' a1 a0) a2 a3) zAe fun r1=> .ret 6 (r1.1,r1.2))
noncomputable abbrev zEO:Fe:= .of Tryz.prog 101 zAf
def zJs (a1:List Int) (a2:Int) (a3:Int) (y1:List Int) (x0:Int) (x1:List Int):St:=⟨[(13,nI x0),(12,nI (y1.length:Int)),(6,sI (.h 0) x1),(1, .d (.clo (.func 225) [] [.cp [.lst (List.map (D.int .i64) a1)] 0, .cp [.int .i64 a2] 0, .cp [.int .i64 a3] 0]))],[]⟩
def zJe (a1:List Int) (a2:Int) (a3:Int) (y1:List Int) (x:(List Int)):St:=⟨[(6,sI (.h 1) x)],[]⟩
theorem zIZ (a1:List Int) (a2:Int) (a3:Int) (y1:List Int):∀(x0:Int) (x1:List Int),Ok (zA4 a1 a2 a3 y1 x0 x1) (LR zEO (.exit 0) (zJe a1 a2 a3 y1) 101 0 (zJs a1 a2 a3 y1 x0 x1)):=by
 refine zA4.partial_correctness a1 a2 a3 y1 _ ?_
 intro f IH x0 x1
 exact Tr.lpR (F:=zEO) (X:=Int×(List Int))
  (.ite 6 14 (x0<(y1.length:Int))
   (.call 19 (zLL x0 a1 a2 a3) zAe fun r3=> .idx 3 eI x1 x0<| .sto 0 [6] eI x1 x0 r3.1<| .let_ (x1.set (Int.toNat x0) r3.1:List Int) fun y4=> .iteN 7 26 (r3.2=0)
   (.ret 11 (.inl ([],r3.2)))
   (.again 7 (IntKind.i64.wrap (x0+1),y4)))
   (.ret 4 (.inr x1))) _ fun x r=>IH x.1 x.2 r
theorem zKg (a0:Int) (a1:List Int) (a2:Int) (a3:Int):HS 101 (zEL a0 a1 a2 a3) [.int .i64 a0, .clo (.func 225) [] [.cp [.lst (List.map (D.int .i64) a1)] 0, .cp [.int .i64 a2] 0, .cp [.int .i64 a3] 0]] zAf:=Tr.fn (F:=zEO)
 (.mk 8 eI 8 0 a0 a0<| .let_ (List.replicate (Int.toNat a0) 0:List Int) fun y1=> .len 6 eI y1<| .loopR 4 id ⟨_,_,_,_,_,zIZ a1 a2 a3 y1 0 y1⟩ fun j6=> .ret 8 (j6,0))
noncomputable abbrev zTN:Fe:= .of Tryz.prog 221 zAf
theorem zKc (a0:List Int) (a1:Int) (a2:Int):HS 221 (zFV a0 a1 a2) [.lst (List.map (D.int .i64) a0), .int .i64 a1, .int .i64 a2] zAf:=Tr.fn (F:=zTN)
 (.call 11 (zF8 a0) zAs fun r1=> .join 8 0 (γ:=Int) ⟨fun x=>[(8,nI x)],[5,4,3],fun _=>[],[.s 47, .s 31, .s 15]⟩
  (.ite 0 12 (r1=0)
  (.call 3 (zL6 a2) zAs fun r2=> .ret 2 r2)
  (.ret 2 r1))
  fun j3=> .iteN 6 16 (j3=0)
  (.ret 9 ([],j3))
  (.len 5 eI a0<| .call 1 (zKg (a0.length:Int) a0 a1 a2) zAt fun r4=> .ret 6 (r4.1,r4.2)))
def zGX (v:Int×Int×(List (List Int))):PV:=nI v.1
def zGZ (v:Int×Int×(List (List Int))):List (Tg×List PV):=[(.up (.s 0),[nI v.2.1]),(.up (.s 1),[.sl (.s 0) 1 0 (List.map (enL (D.int .i64)) v.2.2)])]
noncomputable abbrev zLn:Fe:= .of Tryz.prog 220 zGX zGZ
theorem zG1 (a0:zAa) (a1:Int) (a2:Int) (a3:List (List Int)):HG 220 (zD5 a0 a1 a2 a3) [.d (.agg [.lst (List.map (D.int .i64) a0.F_X), .int .i64 a0.F_Y]),nI a1, .ptr (.up (.s 0)) 0, .ptr (.up (.s 1)) 0] [(.up (.s 0),[nI a2]),(.up (.s 1),[.sl (.h 0) 1 0 (List.map (enL (D.int .i64)) a3)])] zGX zGZ:=Tr.fnG (F:=zLn)
 (.call 11 (zKc a0.F_X a1 a2) zAt fun r1=> .hold 13 []<| .app 0 eI 8 r1.1 [a1]<| .hold 1 []<| .hold 2 []<| .app 0 (eL eI) 24 a3 [r1.1++[a1]]<| .ret 9 (r1.2,a2,a3++[r1.1++[a1]]))
def zE9 (v:Int×Int×(List (List Int))):PV:=nI v.1
def zE5 (v:Int×Int×(List (List Int))):List (Tg×List PV):=[(.up (.s 0),[nI v.2.1]),(.up (.s 1),[.sl (.s 0) 1 0 (List.map (enL (D.int .i64)) v.2.2)])]
noncomputable abbrev zDS:Fe:= .of Tryz.prog 219 zE9 zE5
def zHW (a0:List Int) (a1:Int) (a2:List zAa) (x0:Int) (x1:Int) (x2:Int) (x3:List (List Int)):St:=⟨[(21,nI x0),(20,nI (a2.length:Int)),(19, .d (.lst (List.map zAa.en a2))),(9,nI x1),(0,lI a0),(1,nI a1),(3, .clo (.func 220) [] [.ptr (.up (.s 0)) 0, .ptr (.up (.s 1)) 0])],[(.up (.s 0),[nI x2]),(.up (.s 1),[.sl (.h 1) 1 0 (List.map (enL (D.int .i64)) x3)])]⟩
def zHY (a0:List Int) (a1:Int) (a2:List zAa) (x:Int×Int×(List (List Int))):St:=⟨[(9,nI x.1)],[(.up (.s 0),[nI x.2.1]),(.up (.s 1),[.sl (.h 2) 1 0 (List.map (enL (D.int .i64)) x.2.2)])]⟩
theorem zHy (a0:List Int) (a1:Int) (a2:List zAa):∀(x0:Int) (x1:Int) (x2:Int) (x3:List (List Int)),Ok (zAu a0 a1 a2 x0 x1 x2 x3) (LN zDS (.exit 0) (zHY a0 a1 a2) 219 0 (zHW a0 a1 a2 x0 x1 x2 x3)):=by
 refine zAu.partial_correctness a0 a1 a2 _ ?_
 intro f IH x0 x1 x2 x3
 exact Tr.lpN (F:=zDS) (X:=Int×Int×Int×(List (List Int)))
  (.ite 6 22 (x0<(a2.length:Int))
   (.idx 6 zAa.e a2 x0<| .ite 14 26 (x1=0)
   (.call 5 (zRr a0 (at' a2 x0) a1) zAe fun r2=> .ite 11 35 (r2.2=0)
   (.callG 5 [(.up (.s 0), .up (.s 0)),(.up (.s 1), .up (.s 1)),(.h 0, .h 1)] [] (zG1 (at' a2 x0) r2.1 x2 x3) fun r3=> .again 7 (IntKind.i64.wrap (x0+1),r3.1,r3.2.1,r3.2.2))
   (.again 7 (IntKind.i64.wrap (x0+1),r2.2,x2,x3)))
   (.ite 7 35 (x1=0)
   (.callG 5 [(.up (.s 0), .up (.s 0)),(.up (.s 1), .up (.s 1)),(.h 0, .h 1)] [] (zG1 (at' a2 x0) 0 x2 x3) fun r4=> .again 7 (IntKind.i64.wrap (x0+1),r4.1,r4.2.1,r4.2.2))
   (.again 7 (IntKind.i64.wrap (x0+1),x1,x2,x3))))
   (.ret 4 (x1,x2,x3))) _ fun x r=>IH x.1 x.2.1 x.2.2.1 x.2.2.2 r
theorem zH2 (a0:List Int) (a1:Int) (a2:List zAa) (a3:Int) (a4:List (List Int)):HG 219 (zD0 a0 a1 a2 a3 a4) [lI a0,nI a1, .d (.lst (List.map zAa.en a2)), .clo (.func 220) [] [.ptr (.up (.s 0)) 0, .ptr (.up (.s 1)) 0]] [(.up (.s 0),[nI a3]),(.up (.s 1),[.sl (.h 0) 1 0 (List.map (enL (D.int .i64)) a4)])] zE9 zE5:=Tr.fnG (F:=zDS)
 (.len 7 eI a0<| .call 3 (zHC (IntKind.i64.wrap ((a0.length:Int)-1)) a0 a2) zAs fun r1=> .len 6 zAa.e a2<| .loop 4 ⟨_,_,_,_,_,zHy a0 a1 a2 0 r1 a3 a4⟩ fun j5=> .ret 7 (j5.1,j5.2.1,j5.2.2))
def zDY (v:(List Int)):PV:=sI (.s 0) v
noncomputable abbrev zIV:Fe:= .of Tryz.prog 43 zDY
theorem zDR:∀v,(zDY v).noLst:=fun _=>(zIn fun _=>trivial)
theorem zDT (a0 : List Int) : HS 43 (zBk a0) [.lst (List.map (D.int .i64) a0)] zDY := Tr.fn (F := zIV)
 (.nilq 8 eI.f a0
  (    if room 8 ([] ++ a0).length then
       some ([] ++ a0)
     else none)
  (    some [])
  (fun h => by (try obtain rfl := List.eq_nil_of_length_eq_zero h); first | rfl | (simp [h]; done))
  (.app 7 eI 8 [] a0 <| .ret 3 ([] ++ a0))
  (.ret 8 []))
noncomputable abbrev zO3:Fe:= .of Tryz.prog 238 zAk
theorem zOs (a0:Int) (a1:List Int) (a2:List Int):HS 238 (zHA a0 a1 a2) [.int .i64 a0, .cp [.lst (List.map (D.int .i64) a1)] 0, .cp [.lst (List.map (D.int .i64) a2)] 0] zAk:=Tr.fn (F:=zO3)
 (.idx 9 eI a1 a0<| .idx 3 eI a2 a0<| .call 1 (zL4 (at' a1 a0) (at' a2 a0)) zAe fun r1=> .ret 6 (r1.1,r1.2))
noncomputable abbrev zFI:Fe:= .of Tryz.prog 101 zAf
def zKf (a1:List Int) (a2:List Int) (y1:List Int) (x0:Int) (x1:List Int):St:=⟨[(13,nI x0),(12,nI (y1.length:Int)),(6,sI (.h 0) x1),(1, .d (.clo (.func 238) [] [.cp [.lst (List.map (D.int .i64) a1)] 0, .cp [.lst (List.map (D.int .i64) a2)] 0]))],[]⟩
def zKh (a1:List Int) (a2:List Int) (y1:List Int) (x:(List Int)):St:=⟨[(6,sI (.h 1) x)],[]⟩
theorem zJQ (a1:List Int) (a2:List Int) (y1:List Int):∀(x0:Int) (x1:List Int),Ok (zBa a1 a2 y1 x0 x1) (LR zFI (.exit 0) (zKh a1 a2 y1) 101 0 (zKf a1 a2 y1 x0 x1)):=by
 refine zBa.partial_correctness a1 a2 y1 _ ?_
 intro f IH x0 x1
 exact Tr.lpR (F:=zFI) (X:=Int×(List Int))
  (.ite 6 14 (x0<(y1.length:Int))
   (.call 19 (zOs x0 a1 a2) zAe fun r3=> .idx 3 eI x1 x0<| .sto 0 [6] eI x1 x0 r3.1<| .let_ (x1.set (Int.toNat x0) r3.1:List Int) fun y4=> .iteN 7 26 (r3.2=0)
   (.ret 11 (.inl ([],r3.2)))
   (.again 7 (IntKind.i64.wrap (x0+1),y4)))
   (.ret 4 (.inr x1))) _ fun x r=>IH x.1 x.2 r
theorem zLo (a0:Int) (a1:List Int) (a2:List Int):HS 101 (zFv a0 a1 a2) [.int .i64 a0, .clo (.func 238) [] [.cp [.lst (List.map (D.int .i64) a1)] 0, .cp [.lst (List.map (D.int .i64) a2)] 0]] zAf:=Tr.fn (F:=zFI)
 (.mk 8 eI 8 0 a0 a0<| .let_ (List.replicate (Int.toNat a0) 0:List Int) fun y1=> .len 6 eI y1<| .loopR 4 id ⟨_,_,_,_,_,zJQ a1 a2 y1 0 y1⟩ fun j6=> .ret 8 (j6,0))
noncomputable abbrev zWi:Fe:= .of Tryz.prog 234 zAf
theorem zVx (a0:List Int) (a1:List Int):HS 234 (zKl a0 a1) [.lst (List.map (D.int .i64) a0), .lst (List.map (D.int .i64) a1)] zAf:=Tr.fn (F:=zWi)
 (.call 12 (zNO a0 a1) zAs fun r1=> .iteN 7 11 (r1=0)
  (.ret 9 ([],r1))
  (.len 5 eI a0<| .call 1 (zLo (a0.length:Int) a0 a1) zAt fun r2=> .ret 6 (r2.1,r2.2)))
noncomputable abbrev zMZ:Fe:= .of Tryz.prog 227 zAf
def zTq (a0:List (List Int)) (x0:Int) (x1:List Int):St:=⟨[(8,nI x0),(7,nI (a0.length:Int)),(6, .d (.lst (List.map (enL (D.int .i64)) a0))),(2,sI (.h 0) x1)],[]⟩
def zTr (a0:List (List Int)) (x:(List Int)):St:=⟨[(2,sI (.h 1) x)],[]⟩
theorem zRu (a0:List (List Int)):∀(x0:Int) (x1:List Int),Ok (zCQ a0 x0 x1) (LR zMZ (.exit 0) (zTr a0) 227 0 (zTq a0 x0 x1)):=by
 refine zCQ.partial_correctness a0 _ ?_
 intro f IH x0 x1
 exact Tr.lpR (F:=zMZ) (X:=Int×(List Int))
  (.ite 6 9 (x0<(a0.length:Int))
   (.idx 7 (eL eI) a0 x0<| .ite 10 14 (x0=0)
   (.call 3 (zDT (at' a0 x0)) zDR fun r1=> .call 1 (zF8 (at' a0 x0)) zAs fun r2=> .iteN 8 26 (r2=0)
   (.ret 11 (.inl ([],r2)))
   (.again 7 (IntKind.i64.wrap (x0+1),r1)))
   (.call 4 (zVx x1 (at' a0 x0)) zAt fun r3=> .iteN 11 26 (r3.2=0)
   (.ret 11 (.inl ([],r3.2)))
   (.again 7 (IntKind.i64.wrap (x0+1),r3.1))))
   (.ret 4 (.inr x1))) _ fun x r=>IH x.1 x.2 r
theorem zVu (a0:List (List Int)):HS 227 (zIJ a0) [.lst (List.map (enL (D.int .i64)) a0)] zAf:=Tr.fn (F:=zMZ)
 (.len 9 (eL eI) a0<| .loopR 4 id ⟨_,_,_,_,_,zRu a0 0 []⟩ fun j4=> .ret 8 (j4,0))
noncomputable abbrev zVB:Fe:= .of Tryz.prog 239 zAS
theorem zKV (a0:Int):HS 239 (zGC a0) [.int .i64 a0] zAS:=Tr.fn (F:=zVB)
 (.ite 10 4 (a0<0)
  (.ret 10 (IntKind.u64.wrap (0-(IntKind.u64.wrap a0))))
  (.ret 9 (IntKind.u64.wrap a0)))
noncomputable abbrev zNB:Fe:= .of Tryz.prog 166 zAn
theorem zMx (a0:Int):HS 166 (zET a0) [.int .u64 a0] zAn:=Tr.fn (F:=zNB)
 (.join 10 0 (γ:=Int×Int) ⟨fun x=>[(2,nI x.1),(0,nU x.2)],[],fun _=>[],[]⟩
  (.ite 0 4 (a0≥4294967296)
  (.ret 10 (32,sShr .u64 a0 32))
  (.ret 2 (0,a0)))
  fun j1=> .join 6 0 (γ:=Int×Int) ⟨fun x=>[(2,nI x.1),(0,nU x.2)],[],fun _=>[],[]⟩
  (.ite 0 8 (j1.2≥65536)
  (.ret 12 (IntKind.i64.wrap (j1.1+16),sShr .u64 j1.2 16))
  (.ret 2 (j1.1,j1.2)))
  fun j2=> .ite 6 14 (j2.2≥256)
  (.rd 17 (0≤(IntKind.u8.wrap (sShr .u64 j2.2 8))∧(IntKind.u8.wrap (sShr .u64 j2.2 8))<((ByteArray.mk #[0,1,2,2,3,3,3,3,4,4,4,4,4,4,4,4,5,5,5,5,5,5,5,5,5,5,5,5,5,5,5,5,6,6,6,6,6,6,6,6,6,6,6,6,6,6,6,6,6,6,6,6,6,6,6,6,6,6,6,6,6,6,6,6,7,7,7,7,7,7,7,7,7,7,7,7,7,7,7,7,7,7,7,7,7,7,7,7,7,7,7,7,7,7,7,7,7,7,7,7,7,7,7,7,7,7,7,7,7,7,7,7,7,7,7,7,7,7,7,7,7,7,7,7,7,7,7,7,8,8,8,8,8,8,8,8,8,8,8,8,8,8,8,8,8,8,8,8,8,8,8,8,8,8,8,8,8,8,8,8,8,8,8,8,8,8,8,8,8,8,8,8,8,8,8,8,8,8,8,8,8,8,8,8,8,8,8,8,8,8,8,8,8,8,8,8,8,8,8,8,8,8,8,8,8,8,8,8,8,8,8,8,8,8,8,8,8,8,8,8,8,8,8,8,8,8,8,8,8,8,8,8,8,8,8,8,8,8,8,8,8,8,8,8,8,8,8,8,8,8,8,8,8,8,8,8]).size:Int)) (nY (((ByteArray.mk #[0,1,2,2,3,3,3,3,4,4,4,4,4,4,4,4,5,5,5,5,5,5,5,5,5,5,5,5,5,5,5,5,6,6,6,6,6,6,6,6,6,6,6,6,6,6,6,6,6,6,6,6,6,6,6,6,6,6,6,6,6,6,6,6,7,7,7,7,7,7,7,7,7,7,7,7,7,7,7,7,7,7,7,7,7,7,7,7,7,7,7,7,7,7,7,7,7,7,7,7,7,7,7,7,7,7,7,7,7,7,7,7,7,7,7,7,7,7,7,7,7,7,7,7,7,7,7,7,8,8,8,8,8,8,8,8,8,8,8,8,8,8,8,8,8,8,8,8,8,8,8,8,8,8,8,8,8,8,8,8,8,8,8,8,8,8,8,8,8,8,8,8,8,8,8,8,8,8,8,8,8,8,8,8,8,8,8,8,8,8,8,8,8,8,8,8,8,8,8,8,8,8,8,8,8,8,8,8,8,8,8,8,8,8,8,8,8,8,8,8,8,8,8,8,8,8,8,8,8,8,8,8,8,8,8,8,8,8,8,8,8,8,8,8,8,8,8,8,8,8,8,8,8,8,8,8]).data.getD (Int.toNat (IntKind.u8.wrap (sShr .u64 j2.2 8))) 0).toNat:Int))<| .ret 5 (IntKind.i64.wrap ((IntKind.i64.wrap (j2.1+8))+(IntKind.i64.wrap (((ByteArray.mk #[0,1,2,2,3,3,3,3,4,4,4,4,4,4,4,4,5,5,5,5,5,5,5,5,5,5,5,5,5,5,5,5,6,6,6,6,6,6,6,6,6,6,6,6,6,6,6,6,6,6,6,6,6,6,6,6,6,6,6,6,6,6,6,6,7,7,7,7,7,7,7,7,7,7,7,7,7,7,7,7,7,7,7,7,7,7,7,7,7,7,7,7,7,7,7,7,7,7,7,7,7,7,7,7,7,7,7,7,7,7,7,7,7,7,7,7,7,7,7,7,7,7,7,7,7,7,7,7,8,8,8,8,8,8,8,8,8,8,8,8,8,8,8,8,8,8,8,8,8,8,8,8,8,8,8,8,8,8,8,8,8,8,8,8,8,8,8,8,8,8,8,8,8,8,8,8,8,8,8,8,8,8,8,8,8,8,8,8,8,8,8,8,8,8,8,8,8,8,8,8,8,8,8,8,8,8,8,8,8,8,8,8,8,8,8,8,8,8,8,8,8,8,8,8,8,8,8,8,8,8,8,8,8,8,8,8,8,8,8,8,8,8,8,8,8,8,8,8,8,8,8,8,8,8,8,8]).data.getD (Int.toNat (IntKind.u8.wrap (sShr .u64 j2.2 8))) 0).toNat:Int)))))
  (.rd 7 (0≤(IntKind.u8.wrap j2.2)∧(IntKind.u8.wrap j2.2)<((ByteArray.mk #[0,1,2,2,3,3,3,3,4,4,4,4,4,4,4,4,5,5,5,5,5,5,5,5,5,5,5,5,5,5,5,5,6,6,6,6,6,6,6,6,6,6,6,6,6,6,6,6,6,6,6,6,6,6,6,6,6,6,6,6,6,6,6,6,7,7,7,7,7,7,7,7,7,7,7,7,7,7,7,7,7,7,7,7,7,7,7,7,7,7,7,7,7,7,7,7,7,7,7,7,7,7,7,7,7,7,7,7,7,7,7,7,7,7,7,7,7,7,7,7,7,7,7,7,7,7,7,7,8,8,8,8,8,8,8,8,8,8,8,8,8,8,8,8,8,8,8,8,8,8,8,8,8,8,8,8,8,8,8,8,8,8,8,8,8,8,8,8,8,8,8,8,8,8,8,8,8,8,8,8,8,8,8,8,8,8,8,8,8,8,8,8,8,8,8,8,8,8,8,8,8,8,8,8,8,8,8,8,8,8,8,8,8,8,8,8,8,8,8,8,8,8,8,8,8,8,8,8,8,8,8,8,8,8,8,8,8,8,8,8,8,8,8,8,8,8,8,8,8,8,8,8,8,8,8,8]).size:Int)) (nY (((ByteArray.mk #[0,1,2,2,3,3,3,3,4,4,4,4,4,4,4,4,5,5,5,5,5,5,5,5,5,5,5,5,5,5,5,5,6,6,6,6,6,6,6,6,6,6,6,6,6,6,6,6,6,6,6,6,6,6,6,6,6,6,6,6,6,6,6,6,7,7,7,7,7,7,7,7,7,7,7,7,7,7,7,7,7,7,7,7,7,7,7,7,7,7,7,7,7,7,7,7,7,7,7,7,7,7,7,7,7,7,7,7,7,7,7,7,7,7,7,7,7,7,7,7,7,7,7,7,7,7,7,7,8,8,8,8,8,8,8,8,8,8,8,8,8,8,8,8,8,8,8,8,8,8,8,8,8,8,8,8,8,8,8,8,8,8,8,8,8,8,8,8,8,8,8,8,8,8,8,8,8,8,8,8,8,8,8,8,8,8,8,8,8,8,8,8,8,8,8,8,8,8,8,8,8,8,8,8,8,8,8,8,8,8,8,8,8,8,8,8,8,8,8,8,8,8,8,8,8,8,8,8,8,8,8,8,8,8,8,8,8,8,8,8,8,8,8,8,8,8,8,8,8,8,8,8,8,8,8,8]).data.getD (Int.toNat (IntKind.u8.wrap j2.2)) 0).toNat:Int))<| .ret 5 (IntKind.i64.wrap (j2.1+(IntKind.i64.wrap (((ByteArray.mk #[0,1,2,2,3,3,3,3,4,4,4,4,4,4,4,4,5,5,5,5,5,5,5,5,5,5,5,5,5,5,5,5,6,6,6,6,6,6,6,6,6,6,6,6,6,6,6,6,6,6,6,6,6,6,6,6,6,6,6,6,6,6,6,6,7,7,7,7,7,7,7,7,7,7,7,7,7,7,7,7,7,7,7,7,7,7,7,7,7,7,7,7,7,7,7,7,7,7,7,7,7,7,7,7,7,7,7,7,7,7,7,7,7,7,7,7,7,7,7,7,7,7,7,7,7,7,7,7,8,8,8,8,8,8,8,8,8,8,8,8,8,8,8,8,8,8,8,8,8,8,8,8,8,8,8,8,8,8,8,8,8,8,8,8,8,8,8,8,8,8,8,8,8,8,8,8,8,8,8,8,8,8,8,8,8,8,8,8,8,8,8,8,8,8,8,8,8,8,8,8,8,8,8,8,8,8,8,8,8,8,8,8,8,8,8,8,8,8,8,8,8,8,8,8,8,8,8,8,8,8,8,8,8,8,8,8,8,8,8,8,8,8,8,8,8,8,8,8,8,8,8,8,8,8,8,8]).data.getD (Int.toNat (IntKind.u8.wrap j2.2)) 0).toNat:Int))))))
noncomputable abbrev zI4:Fe:= .of Tryz.prog 139 zAn
theorem zII (a0:Int):HS 139 (zC0 a0) [.int .u64 a0] zAn:=Tr.fn (F:=zI4)
 (.call 7 (zMx a0) zAs fun r1=> .ret 4 (IntKind.i64.wrap (64-r1)))
noncomputable abbrev zEf:Fe:= .of Tryz.prog 119 zD3
def zLS (a1:Int) (a2:Int) (r3:Int) (y4:Int) (x0:Int) (x1:Int):St:=⟨[(16,nU x0),(15,nU x1),(14,nU (bAnd .u64 (sShl .u64 a1 (IntKind.u64.wrap r3)) 4294967295)),(13,nU (sShr .u64 (sShl .u64 a1 (IntKind.u64.wrap r3)) 32)),(11,nU y4),(10,nU (bAnd .u64 (sShl .u64 a2 (IntKind.u64.wrap r3)) 4294967295)),(9,nU (sShr .u64 (sShl .u64 a2 (IntKind.u64.wrap r3)) 32)),(2,nU (sShl .u64 a2 (IntKind.u64.wrap r3))),(8,nU (IntKind.u64.wrap r3))],[]⟩
def zL1 (a1:Int) (a2:Int) (r3:Int) (y4:Int) (x:Int):St:=⟨[(15,nU x),(14,nU (bAnd .u64 (sShl .u64 a1 (IntKind.u64.wrap r3)) 4294967295)),(13,nU (sShr .u64 (sShl .u64 a1 (IntKind.u64.wrap r3)) 32)),(11,nU y4),(10,nU (bAnd .u64 (sShl .u64 a2 (IntKind.u64.wrap r3)) 4294967295)),(9,nU (sShr .u64 (sShl .u64 a2 (IntKind.u64.wrap r3)) 32)),(2,nU (sShl .u64 a2 (IntKind.u64.wrap r3))),(8,nU (IntKind.u64.wrap r3))],[]⟩
theorem zK3 (a1:Int) (a2:Int) (r3:Int) (y4:Int):∀(x0:Int) (x1:Int),Ok (zBR a1 a2 r3 y4 x0 x1) (LN zEf (.exit 0) (zL1 a1 a2 r3 y4) 119 0 (zLS a1 a2 r3 y4 x0 x1)):=by
 refine zBR.partial_correctness a1 a2 r3 y4 _ ?_
 intro f IH x0 x1
 exact Tr.lpN (F:=zEf) (X:=Int×Int)
  (.join 7 9 (γ:=Bool) ⟨fun x=>[(78,bB x)],[16,15,14,13,11,10,9,2,8],fun _=>[],[]⟩
   (.ite 0 69 (x1≥4294967296)
   (.ret 10 true)
   (.ret 10 (decide ((IntKind.u64.wrap (x1*(bAnd .u64 (sShl .u64 a2 (IntKind.u64.wrap r3)) 4294967295)))>(IntKind.u64.wrap ((IntKind.u64.wrap (4294967296*x0))+(sShr .u64 (sShl .u64 a1 (IntKind.u64.wrap r3)) 32)))))))
   fun j10=> .iteB 1 78 (j10)
   (.let_ (IntKind.u64.wrap (x0+(sShr .u64 (sShl .u64 a2 (IntKind.u64.wrap r3)) 32)):Int) fun y11=> .ite 21 85 (y11≥4294967296)
   (.ret 4 (IntKind.u64.wrap (x1-1)))
   (.again 3 (y11,IntKind.u64.wrap (x1-1))))
   (.ret 4 x1)) _ fun x r=>IH x.1 x.2 r
def zLK (a1:Int) (a2:Int) (r3:Int) (j13:Int) (y14:Int) (x0:Int) (x1:Int):St:=⟨[(16,nU x0),(18,nU x1),(17,nU y14),(15,nU j13),(14,nU (bAnd .u64 (sShl .u64 a1 (IntKind.u64.wrap r3)) 4294967295)),(10,nU (bAnd .u64 (sShl .u64 a2 (IntKind.u64.wrap r3)) 4294967295)),(9,nU (sShr .u64 (sShl .u64 a2 (IntKind.u64.wrap r3)) 32)),(2,nU (sShl .u64 a2 (IntKind.u64.wrap r3))),(8,nU (IntKind.u64.wrap r3))],[]⟩
def zLv (a1:Int) (a2:Int) (r3:Int) (j13:Int) (y14:Int) (x:Int):St:=⟨[(18,nU x),(17,nU y14),(15,nU j13),(14,nU (bAnd .u64 (sShl .u64 a1 (IntKind.u64.wrap r3)) 4294967295)),(2,nU (sShl .u64 a2 (IntKind.u64.wrap r3))),(8,nU (IntKind.u64.wrap r3))],[]⟩
theorem zLe (a1:Int) (a2:Int) (r3:Int) (j13:Int) (y14:Int):∀(x0:Int) (x1:Int),Ok (zBU a1 a2 r3 j13 y14 x0 x1) (LN zEf (.exit 2) (zLv a1 a2 r3 j13 y14) 119 1 (zLK a1 a2 r3 j13 y14 x0 x1)):=by
 refine zBU.partial_correctness a1 a2 r3 j13 y14 _ ?_
 intro f IH x0 x1
 exact Tr.lpN (F:=zEf) (X:=Int×Int)
  (.join 7 9 (γ:=Bool) ⟨fun x=>[(113,bB x)],[16,18,17,15,14,10,9,2,8],fun _=>[],[]⟩
   (.ite 0 104 (x1≥4294967296)
   (.ret 10 true)
   (.ret 10 (decide ((IntKind.u64.wrap (x1*(bAnd .u64 (sShl .u64 a2 (IntKind.u64.wrap r3)) 4294967295)))>(IntKind.u64.wrap ((IntKind.u64.wrap (4294967296*x0))+(bAnd .u64 (sShl .u64 a1 (IntKind.u64.wrap r3)) 4294967295)))))))
   fun j20=> .iteB 1 113 (j20)
   (.let_ (IntKind.u64.wrap (x0+(sShr .u64 (sShl .u64 a2 (IntKind.u64.wrap r3)) 32)):Int) fun y21=> .ite 21 120 (y21≥4294967296)
   (.ret 4 (IntKind.u64.wrap (x1-1)))
   (.again 3 (y21,IntKind.u64.wrap (x1-1))))
   (.ret 4 x1)) _ fun x r=>IH x.1 x.2 r
theorem zMV (a0:Int) (a1:Int) (a2:Int):HS 119 (zEe a0 a1 a2) [.int .u64 a0, .int .u64 a1, .int .u64 a2] zD3:=Tr.fn (F:=zEf)
 (.join 11 0 (γ:=Unit) ⟨fun _=>[],[0,1,2],fun _=>[],[]⟩
  (.ite 0 20 (a2=0)
  (.halt)
  (.ret 2 ()))
  fun j1=> .join 7 0 (γ:=Unit) ⟨fun _=>[],[0,1,2],fun _=>[],[]⟩
  (.ite 0 24 (a2≤a0)
  (.halt)
  (.ret 2 ()))
  fun j2=> .ite 6 27 (a0=0)
  (.rd 5 (a2≠0) (nU (IntKind.u64.wrap (Int.tdiv a1 a2)))<| .rd 2 (a2≠0) (nU (Int.tmod a1 a2))<| .ret 5 (IntKind.u64.wrap (Int.tdiv a1 a2),Int.tmod a1 a2))
  (.call 5 (zII a2) zAs fun r3=> .rd 7 (0≤IntKind.u64.wrap r3) (nU (sShl .u64 a2 (IntKind.u64.wrap r3)))<| .rd 18 (0≤IntKind.u64.wrap r3) (nU (sShl .u64 a0 (IntKind.u64.wrap r3)))<| .rd 3 (0≤IntKind.u64.wrap (64-(IntKind.u64.wrap r3))) (nU (sShr .u64 a1 (IntKind.u64.wrap (64-(IntKind.u64.wrap r3)))))<| .let_ (bOr .u64 (sShl .u64 a0 (IntKind.u64.wrap r3)) (sShr .u64 a1 (IntKind.u64.wrap (64-(IntKind.u64.wrap r3)))):Int) fun y4=> .rd 7 (0≤IntKind.u64.wrap r3) (nU (sShl .u64 a1 (IntKind.u64.wrap r3)))<| .rd 18 (sShr .u64 (sShl .u64 a2 (IntKind.u64.wrap r3)) 32≠0) (nU (IntKind.u64.wrap (Int.tdiv y4 (sShr .u64 (sShl .u64 a2 (IntKind.u64.wrap r3)) 32))))<| .let_ (IntKind.u64.wrap (Int.tdiv y4 (sShr .u64 (sShl .u64 a2 (IntKind.u64.wrap r3)) 32)):Int) fun y6=> .let_ (IntKind.u64.wrap (y4-(IntKind.u64.wrap (y6*(sShr .u64 (sShl .u64 a2 (IntKind.u64.wrap r3)) 32)))):Int) fun y8=> .loop 14 ⟨_,_,_,_,_,zK3 a1 a2 r3 y4 y8 y6⟩ fun j13=> .let_ (IntKind.u64.wrap ((IntKind.u64.wrap ((IntKind.u64.wrap (y4*4294967296))+(sShr .u64 (sShl .u64 a1 (IntKind.u64.wrap r3)) 32)))-(IntKind.u64.wrap (j13*(sShl .u64 a2 (IntKind.u64.wrap r3))))):Int) fun y14=> .rd 17 (sShr .u64 (sShl .u64 a2 (IntKind.u64.wrap r3)) 32≠0) (nU (IntKind.u64.wrap (Int.tdiv y14 (sShr .u64 (sShl .u64 a2 (IntKind.u64.wrap r3)) 32))))<| .let_ (IntKind.u64.wrap (Int.tdiv y14 (sShr .u64 (sShl .u64 a2 (IntKind.u64.wrap r3)) 32)):Int) fun y16=> .let_ (IntKind.u64.wrap (y14-(IntKind.u64.wrap (y16*(sShr .u64 (sShl .u64 a2 (IntKind.u64.wrap r3)) 32)))):Int) fun y18=> .loop 14 ⟨_,_,_,_,_,zLe a1 a2 r3 j13 y14 y18 y16⟩ fun j23=> .let_ (IntKind.u64.wrap ((IntKind.u64.wrap (j13*4294967296))+j23):Int) fun y24=> .let_ (IntKind.u64.wrap ((IntKind.u64.wrap ((IntKind.u64.wrap (y14*4294967296))+(bAnd .u64 (sShl .u64 a1 (IntKind.u64.wrap r3)) 4294967295)))-(IntKind.u64.wrap (j23*(sShl .u64 a2 (IntKind.u64.wrap r3))))):Int) fun y26=> .rd 16 (0≤IntKind.u64.wrap r3) (nU (sShr .u64 y26 (IntKind.u64.wrap r3)))<| .ret 4 (y24,sShr .u64 y26 (IntKind.u64.wrap r3))))
noncomputable abbrev zV9:Fe:= .of Tryz.prog 235 zAk
theorem zJi (a0:Int) (a1:Int) (a2:Int):HS 235 (zGp a0 a1 a2) [.int .i64 a0, .int .i64 a1, .int .i64 a2] zAk:=Tr.fn (F:=zV9)
 (.call 9 (zL9 a2) zAg fun r1=> .join 2 3 (γ:=Bool) ⟨fun x=>[(19,bB x)],[0,1,2],fun _=>[],[]⟩
  (.iteX 0 16 (r1)
  (.ret 4 true)
  (.ret 4 (a1==0)))
  fun j2=> .iteB 1 19 (j2)
  (.ret 8 (0,1))
  (.rd 6 (0≤a2) (nU (sShl .u64 1 a2))<| .call 0 (zKV a0) zAr fun r3=> .hold 1 [.c, .rd (0≤a2) (nU (sShl .u64 1 a2)) 0]<| .call 0 (zIH r3 (sShl .u64 1 a2)) zGl fun r4=> .call 12 (zKV a1) zAr fun r5=> .ite 2 31 (r4.1≥r5)
  (.ret 8 (0,2))
  (.call 7 (zKV a1) zAr fun r6=> .call 0 (zMV r4.1 r4.2 r6) zGl fun r7=> .iteN 19 44 ((decide (a0<0))=(decide (a1<0)))
  (.ite 13 48 (r7.2>0)
  (.ite 8 51 (r7.1≥(IntKind.u64.wrap (9223372036854775807+1)))
  (.ret 10 (0,2))
  (.ite 14 56 ((IntKind.u64.wrap (r7.1+1))>(IntKind.u64.wrap (9223372036854775807+1)))
  (.ret 9 (0,2))
  (.ret 12 (IntKind.i64.wrap (IntKind.u64.wrap (0-(IntKind.u64.wrap (r7.1+1)))),0))))
  (.ite 9 56 (r7.1>(IntKind.u64.wrap (9223372036854775807+1)))
  (.ret 9 (0,2))
  (.ret 12 (IntKind.i64.wrap (IntKind.u64.wrap (0-r7.1)),0))))
  (.ite 9 62 (r7.1>9223372036854775807)
  (.ret 8 (0,2))
  (.ret 10 (IntKind.i64.wrap r7.1,0))))))
noncomputable abbrev zVg:Fe:= .of Tryz.prog 228 zAk
theorem zTB (a0:Int) (a1:Int):HS 228 (zJp a0 a1) [.int .i64 a0, .int .i64 a1] zAk:=Tr.fn (F:=zVg)
 (.call 9 (zJi a0 a1 0) zAe fun r1=> .ret 6 (r1.1,r1.2))
noncomputable abbrev zI3:Fe:= .of Tryz.prog 222 zAf
def zOa (a0:Int) (r1:(List Int)×Int) (x0:Int) (x1:List Int):St:=⟨[(22,nI x0),(21,nI (r1.1.length:Int)),(20,sI (.h 0) x1),(6,sI (.h 0) x1),(0,nI a0)],[]⟩
def zOx (a0:Int) (r1:(List Int)×Int) (x:(List Int)):St:=⟨[(6,sI (.h 1) x)],[]⟩
theorem zNA (a0:Int) (r1:(List Int)×Int):∀(x0:Int) (x1:List Int),Ok (zC1 a0 r1 x0 x1) (LR zI3 (.exit 0) (zOx a0 r1) 222 0 (zOa a0 r1 x0 x1)):=by
 refine zC1.partial_correctness a0 r1 _ ?_
 intro f IH x0 x1
 exact Tr.lpR (F:=zI3) (X:=Int×(List Int))
  (.ite 6 23 (x0<(r1.1.length:Int))
   (.idx 7 eI x1 x0<| .call 10 (zTB (at' x1 x0) a0) zAe fun r2=> .idx 3 eI x1 x0<| .sto 0 [20,6] eI x1 x0 r2.1<| .let_ (x1.set (Int.toNat x0) r2.1:List Int) fun y3=> .iteN 7 37 (r2.2=0)
   (.ret 11 (.inl ([],r2.2)))
   (.again 7 (IntKind.i64.wrap (x0+1),y3)))
   (.ret 4 (.inr x1))) _ fun x r=>IH x.1 x.2 r
theorem zIe (a0:Int) (a1:List (List Int)):HS 222 (zEa a0 a1) [.int .i64 a0, .lst (List.map (enL (D.int .i64)) a1)] zAf:=Tr.fn (F:=zI3)
 (.ite 11 11 (a0<1)
  (.ret 8 ([],1))
  (.call 5 (zVu a1) zAt fun r1=> .iteN 12 18 (r1.2=0)
  (.ret 9 ([],r1.2))
  (.len 6 eI r1.1<| .loopR 4 id ⟨_,_,_,_,_,zNA a0 r1 0 r1.1⟩ fun j5=> .ret 8 (j5,0))))
noncomputable abbrev zRx:Fe:= .of Tryz.prog 218 zAf
theorem zQE (a0:List Int) (a1:Int) (a2:List zAa):HS 218 (zG7 a0 a1 a2) [.lst (List.map (D.int .i64) a0), .int .i64 a1, .lst (List.map zAa.en a2)] zAf:=Tr.fn (F:=zRx)
 (.callG 16 [(.up (.s 0), .s 15),(.up (.s 1), .s 1615)] [] (zH2 a0 a1 a2 a1 []) fun r1=> .iteN 8 16 (r1.1=0)
  (.ret 9 ([],r1.1))
  (.len 5 zAa.e a2<| .call 1 (zIe (a2.length:Int) r1.2.2) zAt fun r2=> .ret 6 (r2.1,r2.2)))
noncomputable abbrev zIB:Fe:= .of Tryz.prog 214 zAf
theorem zE6 (a0:zAv) (a1:List Int) (a2:List zAa):HS 214 (zCE a0 a1 a2) [.agg [.int .i64 a0.F_Model.F_Kind, .int .i64 a0.F_Model.F_In, .int .i64 a0.F_Model.F_Out, .int .i64 a0.F_Model.F_Hid, .int .i64 a0.F_Model.F_Frac], .lst (List.map (D.int .i64) a1), .lst (List.map zAa.en a2)] zAf:=Tr.fn (F:=zIB)
 (.call 13 (zQE a1 a0.F_Model.F_Frac a2) zAt fun r1=> .ret 6 (r1.1,r1.2))
def zFh (v:(List Int)×Int):PV:= .d (.clo (.func 259) [] [.cp [.lst (List.map (D.int .i64) v.1)] 0, .cp [.int .i64 v.2] 0])
noncomputable abbrev zIW:Fe:= .of Tryz.prog 256 zFh
theorem zFk (a0:List Int) (a1:Int):HS 256 (zB0 a0 a1) [.lst (List.map (D.int .i64) a0), .int .i64 a1] zFh:=Tr.fn (F:=zIW)
 (.ite 12 6 (a1<1)
  (.halt)
  (.box 8 (.s 15) [.lst (List.map (D.int .i64) a0)]<| .box 0 (.s 31) [.int .i64 a1]<| .ret 0 (a0,a1)))
def zMJ (v:(List (List Int))×Int):PV:= .tup [.sl (.s 0) 1 0 (List.map (enL (D.int .i64)) v.1),nI v.2]
noncomputable abbrev zTE:Fe:= .of Tryz.prog 254 zMJ
theorem zM1 (a0:Int) (a1:List Int):HS 254 (zGW a0 a1) [.int .i64 a0, .lst (List.map (D.int .i64) a1)] zMJ:=Tr.fn (F:=zTE)
 (.call 9 (zKo a0) zAg fun r1=> .iteX 2 13 (r1)
  (.ret 8 ([],1))
  (.len 5 eI a1<| .rd 1 (a0≠0) (nI (IntKind.i64.wrap (Int.tdiv (a1.length:Int) a0)))<| .let_ (IntKind.i64.wrap ((IntKind.i64.wrap (Int.tdiv (a1.length:Int) a0))-1):Int) fun y2=> .call 7 (zFL y2) zAe fun r4=> .join 11 7 (γ:=Bool) ⟨fun x=>[(33,bB x)],[6,1],fun _=>[],[]⟩
  (.iteN 0 26 (r4.2=0)
  (.ret 8 true)
  (.let_ (IntKind.i64.wrap ((IntKind.i64.wrap (Int.tdiv (a1.length:Int) a0))*a0):Int) fun y5=> .len 4 eI a1<| .ret 3 (y5 !=(a1.length:Int))))
  fun j7=> .iteB 1 33 (j7)
  (.ret 8 ([],4))
  (.callZ 11 (zFk a1 (IntKind.i64.wrap (Int.tdiv (a1.length:Int) a0))) fun r8=> .rng 2 eI r8.1 r8.2 zNP ⟨fun _=>[],[9],fun x_9=>[(.s 11215,[.sl (.h 0) 1 0 (List.map (enL (D.int .i64)) x_9)])],[]⟩ []
  (fun (x_9:(List (List Int))) c_10=> .call 2 (zDT c_10) zDR fun r11=> .hold 1 []<| .hold 2 []<| .app 0 (eL eI) 24 x_9 [r11]<| .ret 3 (x_9++[r11]))
  fun j12=> .ret 8 (j12,0))))
noncomputable abbrev zTT:Fe:= .of Tryz.prog 251 zAn
theorem zR2 (a0:Int) (a1:List Int) (a2:List zAa):HS 251 (zKH a0 a1 a2) [.int .i64 a0, .lst (List.map (D.int .i64) a1), .lst (List.map zAa.en a2)] zAn:=Tr.fn (F:=zTT)
 (.callZ 8 (zM1 a0 a1) fun r1=> .iteN 12 16 (r1.2=0)
  (.ret 8 r1.2)
  (.idx 5 (eL eI) r1.1 0<| .len 1 eI (at' r1.1 0)<| .call 4 (zMf (IntKind.i64.wrap (((at' r1.1 0).length:Int)-1)) a0 a1 a2) zAs fun r2=> .ret 3 r2))
noncomputable abbrev zJT:Fe:= .of Tryz.prog 257 zAf
def zO2 (a2:List Int) (a3:Int) (r1:(List (List Int))×Int) (x0:Int) (x1:List Int):St:=⟨[(45,nI x0),(44,nI (r1.1.length:Int)),(43, .sl (.s 1632) 1 0 (List.map (enL (D.int .i64)) r1.1)),(12,sI (.h 0) x1),(2,lI a2),(3,nI a3)],[]⟩
def zP6 (a2:List Int) (a3:Int) (r1:(List (List Int))×Int) (x:(List Int)):St:=⟨[(12,sI (.h 1) x)],[]⟩
theorem zOu (a2:List Int) (a3:Int) (r1:(List (List Int))×Int):∀(x0:Int) (x1:List Int),Ok (zB8 a2 a3 r1 x0 x1) (LR zJT (.exit 1) (zP6 a2 a3 r1) 257 0 (zO2 a2 a3 r1 x0 x1)):=by
 refine zB8.partial_correctness a2 a3 r1 _ ?_
 intro f IH x0 x1
 exact Tr.lpR (F:=zJT) (X:=Int×(List Int))
  (.ite 6 46 (x0<(r1.1.length:Int))
   (.idx 7 (eL eI) r1.1 x0<| .call 11 (zGA (at' r1.1 x0) a2 a3) zAe fun r5=> .idx 3 eI x1 x0<| .sto 0 [12] eI x1 x0 r5.1<| .let_ (x1.set (Int.toNat x0) r5.1:List Int) fun y6=> .iteN 7 61 (r5.2=0)
   (.ret 11 (.inl ([],r5.2)))
   (.again 7 (IntKind.i64.wrap (x0+1),y6)))
   (.ret 4 (.inr x1))) _ fun x r=>IH x.1 x.2 r
theorem zRm (a0:Int) (a1:List Int) (a2:List Int) (a3:Int):HS 257 (zHE a0 a1 a2 a3) [.int .i64 a0, .lst (List.map (D.int .i64) a1), .lst (List.map (D.int .i64) a2), .int .i64 a3] zAf:=Tr.fn (F:=zJT)
 (.callZ 9 (zM1 a0 a1) fun r1=> .iteN 14 21 (r1.2=0)
  (.ret 10 ([],r1.2))
  (.idx 4 (eL eI) r1.1 0<| .len 1 eI (at' r1.1 0)<| .len 2 eI a2<| .iteN 3 25 ((IntKind.i64.wrap (((at' r1.1 0).length:Int)-1))=(a2.length:Int))
  (.ret 9 ([],4))
  (.join 6 3 (γ:=Bool) ⟨fun x=>[(40,bB x)],[10,0,2,3],fun _=>[],[]⟩
  (.ite 0 37 (a3<0)
  (.ret 4 true)
  (.ret 4 (decide (a3>30))))
  fun j2=> .iteB 2 34 (j2)
  (.ret 9 ([],1))
  (.mk 6 eI 8 0 a0 a0<| .let_ (List.replicate (Int.toNat a0) 0:List Int) fun y3=> .len 6 (eL eI) r1.1<| .loopR 4 id ⟨_,_,_,_,_,zOu a2 a3 r1 0 y3⟩ fun j8=> .ret 8 (j8,0)))))
noncomputable abbrev zEn:Fe:= .of Tryz.prog 263 zAn
def zIC (a0:List Int) (x0:Int) (x1:Int):St:=⟨[(4,nI x0),(3,nI x1),(0,lI a0)],[]⟩
def zIN (a0:List Int) (x:Int):St:=⟨[(3,nI x)],[]⟩
theorem zH6 (a0:List Int):∀(x0:Int) (x1:Int),Ok (zBg a0 x0 x1) (LN zEn (.exit 0) (zIN a0) 263 0 (zIC a0 x0 x1)):=by
 refine zBg.partial_correctness a0 _ ?_
 intro f IH x0 x1
 exact Tr.lpN (F:=zEn) (X:=Int×Int)
  (.len 6 eI a0<| .ite 2 15 (x0<(a0.length:Int))
   (.idx 8 eI a0 x0<| .again 10 (IntKind.i64.wrap (x0+1),if (at' a0 x0)>x1 then at' a0 x0 else x1))
   (.ret 4 x1)) _ fun x r=>IH x.1 x.2 r
theorem zJC (a0:List Int):HS 263 (zEs a0) [.lst (List.map (D.int .i64) a0)] zAn:=Tr.fn (F:=zEn)
 (.len 8 eI a0<| .join 2 0 (γ:=Unit) ⟨fun _=>[],[0],fun _=>[],[]⟩
  (.ite 0 7 ((a0.length:Int)<1)
  (.halt)
  (.ret 2 ()))
  fun j1=> .idx 3 eI a0 0<| .loop 10 ⟨_,_,_,_,_,zH6 a0 1 (at' a0 0)⟩ fun j2=> .ret 7 j2)
noncomputable abbrev zEb:Fe:= .of Tryz.prog 262 zAn
def zH0 (a0:List Int) (a1:Int) (x0:Int):St:=⟨[(8,nI x0),(7,nI (a0.length:Int)),(0,lI a0),(1,nI a1)],[]⟩
def zH1 (a0:List Int) (a1:Int) (x:Unit):St:=⟨[],[]⟩
theorem zHS (a0:List Int) (a1:Int):∀(x0:Int),Ok (zBl a0 a1 x0) (LR zEb (.exit 0) (zH1 a0 a1) 262 0 (zH0 a0 a1 x0)):=by
 refine zBl.partial_correctness a0 a1 _ ?_
 intro f IH x0
 exact Tr.lpR (F:=zEb) (X:=Int)
  (.ite 6 9 (x0<(a0.length:Int))
   (.idx 14 eI a0 x0<| .ite 3 16 (a1=(at' a0 x0))
   (.ret 10 (.inl x0))
   (.again 7 (IntKind.i64.wrap (x0+1))))
   (.ret 4 (.inr ()))) _ fun x r=>IH x r
theorem zIQ (a0:List Int) (a1:Int):HS 262 (zD9 a0 a1) [.lst (List.map (D.int .i64) a0), .int .i64 a1] zAn:=Tr.fn (F:=zEb)
 (.len 8 eI a0<| .loopR 4 id ⟨_,_,_,_,_,zHS a0 a1 0⟩ fun j1=> .ret 6 (-1))
noncomputable abbrev zSl:Fe:= .of Tryz.prog 260 zAk
theorem zRk (a0:List Int):HS 260 (zGc a0) [.lst (List.map (D.int .i64) a0)] zAk:=Tr.fn (F:=zSl)
 (.len 9 eI a0<| .ite 2 7 ((a0.length:Int)=0)
  (.ret 8 (0,1))
  (.call 6 (zF8 a0) zAs fun r1=> .iteN 7 11 (r1=0)
  (.ret 9 (0,r1))
  (.call 6 (zJC a0) zAs fun r2=> .call 0 (zIQ a0 r2) zAs fun r3=> .ret 4 (r3,0))))
noncomputable abbrev zV4:Fe:= .of Tryz.prog 138 zAk
theorem zVK (a0:Int):HS 138 (zKp a0) [.int .i64 a0] zAk:=Tr.fn (F:=zV4)
 (.call 8 (zGv 0 a0) zAe fun r1=> .ret 6 (r1.1,r1.2))
noncomputable def zUk (a0:Nat):Sg Tryz.prog Nat:=⟨266,zG5 a0,[.flt .f64 a0],zHO⟩
theorem zSg (a0:Nat):(zUk a0).Holds:=zTb a0
theorem zRQ:∀v,(zHO v).noLst:=fun _=>trivial
noncomputable abbrev zGd:Fe:= .of Tryz.prog 265 zAS
def zPR (a0:Int) (x0:Int):St:=⟨[(3,nU x0),(0,nU a0)],[]⟩
def zPQ (a0:Int) (x:Int):St:=⟨[(3,nU x),(0,nU a0)],[]⟩
theorem zOH (a0:Int):∀(x0:Int),Ok (zEB a0 x0) (LN zGd (.exit 0) (zPQ a0) 265 0 (zPR a0 x0)):=by
 refine zEB.partial_correctness a0 _ ?_
 intro f IH x0
 exact Tr.lpN (F:=zGd) (X:=Int)
  (.ite 10 14 ((IntKind.u64.wrap (x0*x0))>a0)
   (.again 9 (IntKind.u64.wrap (x0-1)))
   (.ret 4 x0)) _ fun x r=>IH x r
def zPH (a0:Int) (x0:Int):St:=⟨[(3,nU x0),(0,nU a0)],[]⟩
def zO1 (a0:Int) (x:Int):St:=⟨[(3,nU x)],[]⟩
theorem zOh (a0:Int):∀(x0:Int),Ok (zED a0 x0) (LN zGd (.exit 2) (zO1 a0) 265 1 (zPH a0 x0)):=by
 refine zED.partial_correctness a0 _ ?_
 intro f IH x0
 exact Tr.lpN (F:=zGd) (X:=Int)
  (.join 7 8 (γ:=Bool) ⟨fun x=>[(27,bB x)],[3,0],fun _=>[],[]⟩
   (.ite 0 19 (x0<4294967295)
   (.ret 9 (decide ((IntKind.u64.wrap ((IntKind.u64.wrap (x0+1))*(IntKind.u64.wrap (x0+1))))≤a0)))
   (.ret 9 false))
   fun j5=> .iteB 1 27 (j5)
   (.again 9 (IntKind.u64.wrap (x0+1)))
   (.ret 4 x0)) _ fun x r=>IH x r
theorem zBj (a0:Int):HS 265 (zAz a0) [.int .u64 a0] zAS:=Tr.fn (F:=zGd)
 (.call 8 (zSg (floatOfInt .f64 a0)) zRQ fun r1=> .rd 0 ((floatToIntVal .f64 r1 .u64).isSome=true) (nU ((floatToIntVal .f64 r1 .u64).getD 0))<| .let_ (if (4294967295:Int)<((floatToIntVal .f64 r1 .u64).getD 0) then 4294967295 else (floatToIntVal .f64 r1 .u64).getD 0:Int) fun y2=> .loop 11 ⟨_,_,_,_,_,zOH a0 y2⟩ fun j4=> .loop 4 ⟨_,_,_,_,_,zOh a0 j4⟩ fun j6=> .ret 7 j6)
def zI1 (v:Int×Int×Int×Int×Int×Int×Int×Int×Int×Int×Int×Int×Int×Int×Int×Int×Int):PV:= .d (.agg [.int .u64 v.1, .int .u64 v.2.1, .int .u64 v.2.2.1, .int .u64 v.2.2.2.1, .int .u64 v.2.2.2.2.1, .int .u64 v.2.2.2.2.2.1, .int .u64 v.2.2.2.2.2.2.1, .int .u64 v.2.2.2.2.2.2.2.1, .int .u64 v.2.2.2.2.2.2.2.2.1, .int .u64 v.2.2.2.2.2.2.2.2.2.1, .int .u64 v.2.2.2.2.2.2.2.2.2.2.1, .int .u64 v.2.2.2.2.2.2.2.2.2.2.2.1, .int .u64 v.2.2.2.2.2.2.2.2.2.2.2.2.1, .int .u64 v.2.2.2.2.2.2.2.2.2.2.2.2.2.1, .int .u64 v.2.2.2.2.2.2.2.2.2.2.2.2.2.2.1, .int .u64 v.2.2.2.2.2.2.2.2.2.2.2.2.2.2.2.1, .int .u64 v.2.2.2.2.2.2.2.2.2.2.2.2.2.2.2.2])
noncomputable abbrev zS8:Fe:= .of Tryz.prog 264 zI1
theorem zRq:∀v,(zI1 v).noLst:=fun _=>⟨trivial,trivial,trivial,trivial,trivial,trivial,trivial,trivial,trivial,trivial,trivial,trivial,trivial,trivial,trivial,trivial,trivial,trivial⟩
theorem zRv:HS 264 zHG [] zI1:=Tr.fn (F:=zS8)
 (.call 60 (zBj 576460752303423488) zAr fun r1=> .hold 1 []<| .call 72 (zBj (IntKind.u64.wrap (1073741824*r1))) zAr fun r2=> .hold 1 []<| .call 36 (zBj (IntKind.u64.wrap (r1*536870912))) zAr fun r3=> .hold 1 []<| .call 72 (zBj (IntKind.u64.wrap (1073741824*r2))) zAr fun r4=> .hold 1 []<| .call 36 (zBj (IntKind.u64.wrap (r2*r1))) zAr fun r5=> .hold 1 []<| .call 36 (zBj (IntKind.u64.wrap (r1*r3))) zAr fun r6=> .hold 1 []<| .call 36 (zBj (IntKind.u64.wrap (r3*536870912))) zAr fun r7=> .hold 1 []<| .call 72 (zBj (IntKind.u64.wrap (1073741824*r4))) zAr fun r8=> .hold 1 []<| .call 36 (zBj (IntKind.u64.wrap (r4*r2))) zAr fun r9=> .hold 1 []<| .call 36 (zBj (IntKind.u64.wrap (r2*r5))) zAr fun r10=> .hold 1 []<| .call 36 (zBj (IntKind.u64.wrap (r5*r1))) zAr fun r11=> .hold 1 []<| .call 36 (zBj (IntKind.u64.wrap (r1*r6))) zAr fun r12=> .hold 1 []<| .call 36 (zBj (IntKind.u64.wrap (r6*r3))) zAr fun r13=> .hold 1 []<| .call 36 (zBj (IntKind.u64.wrap (r3*r7))) zAr fun r14=> .hold 1 []<| .call 36 (zBj (IntKind.u64.wrap (r7*536870912))) zAr fun r15=> .hold 1 []<| .ret 48 (1073741824,r8,r4,r9,r2,r10,r5,r11,r1,r12,r6,r13,r3,r14,r7,r15,536870912))
noncomputable abbrev zTL:Fe:= .of Tryz.prog 261 zAk
theorem zJ1 (a0:Int) (a1:Int):HS 261 (zFM a0 a1) [.int .i64 a0, .int .i64 a1] zAk:=Tr.fn (F:=zTL)
 (.join 11 3 (γ:=Bool) ⟨fun x=>[(15,bB x)],[0,1],fun _=>[],[]⟩
  (.ite 0 12 (a1<0)
  (.ret 4 true)
  (.ret 4 (decide (a1>30))))
  fun j1=> .join 1 3 (γ:=Bool) ⟨fun x=>[(19,bB x)],[0,1],fun _=>[],[]⟩
  (.iteB 0 16 (j1)
  (.ret 4 true)
  (.ret 4 (decide (a0>0))))
  fun j2=> .iteB 1 19 (j2)
  (.ret 8 (0,1))
  (.call 5 (zVK a0) zAe fun r3=> .iteN 12 26 (r3.2=0)
  (.ret 9 (0,r3.2))
  (.rd 6 (0≤a1) (nI (sShl .i64 1 a1))<| .let_ (sShl .i64 (bAnd .i64 r3.1 (IntKind.i64.wrap ((sShl .i64 1 a1)-1))) 4:Int) fun y4=> .rd 4 (0≤a1) (nI (sShr .i64 y4 a1))<| .call 4 zRv zRq fun r6=> .rd 6 (0≤sShr .i64 y4 a1∧sShr .i64 y4 a1<((17:Nat):Int)) (.ptr (.s 11231) (0+Int.toNat (sShr .i64 y4 a1)*1))<| .ldA 0 .u64 ([r6.1,r6.2.1,r6.2.2.1,r6.2.2.2.1,r6.2.2.2.2.1,r6.2.2.2.2.2.1,r6.2.2.2.2.2.2.1,r6.2.2.2.2.2.2.2.1,r6.2.2.2.2.2.2.2.2.1,r6.2.2.2.2.2.2.2.2.2.1,r6.2.2.2.2.2.2.2.2.2.2.1,r6.2.2.2.2.2.2.2.2.2.2.2.1,r6.2.2.2.2.2.2.2.2.2.2.2.2.1,r6.2.2.2.2.2.2.2.2.2.2.2.2.2.1,r6.2.2.2.2.2.2.2.2.2.2.2.2.2.2.1,r6.2.2.2.2.2.2.2.2.2.2.2.2.2.2.2.1,r6.2.2.2.2.2.2.2.2.2.2.2.2.2.2.2.2]:List Int) (sShr .i64 y4 a1) 0<| .rd 2 (0≤a1) (nI (sShr .i64 r3.1 a1))<| .rd 6 (0≤if (63:Int)<(IntKind.u64.wrap ((IntKind.u64.wrap (sShr .i64 r3.1 a1))+(IntKind.u64.wrap (IntKind.i64.wrap (30-a1))))) then 63 else IntKind.u64.wrap ((IntKind.u64.wrap (sShr .i64 r3.1 a1))+(IntKind.u64.wrap (IntKind.i64.wrap (30-a1))))) (nU (sShr .u64 (at' ([r6.1,r6.2.1,r6.2.2.1,r6.2.2.2.1,r6.2.2.2.2.1,r6.2.2.2.2.2.1,r6.2.2.2.2.2.2.1,r6.2.2.2.2.2.2.2.1,r6.2.2.2.2.2.2.2.2.1,r6.2.2.2.2.2.2.2.2.2.1,r6.2.2.2.2.2.2.2.2.2.2.1,r6.2.2.2.2.2.2.2.2.2.2.2.1,r6.2.2.2.2.2.2.2.2.2.2.2.2.1,r6.2.2.2.2.2.2.2.2.2.2.2.2.2.1,r6.2.2.2.2.2.2.2.2.2.2.2.2.2.2.1,r6.2.2.2.2.2.2.2.2.2.2.2.2.2.2.2.1,r6.2.2.2.2.2.2.2.2.2.2.2.2.2.2.2.2]:List Int) (sShr .i64 y4 a1)) (if (63:Int)<(IntKind.u64.wrap ((IntKind.u64.wrap (sShr .i64 r3.1 a1))+(IntKind.u64.wrap (IntKind.i64.wrap (30-a1))))) then 63 else IntKind.u64.wrap ((IntKind.u64.wrap (sShr .i64 r3.1 a1))+(IntKind.u64.wrap (IntKind.i64.wrap (30-a1)))))))<| .ret 5 (IntKind.i64.wrap (sShr .u64 (at' ([r6.1,r6.2.1,r6.2.2.1,r6.2.2.2.1,r6.2.2.2.2.1,r6.2.2.2.2.2.1,r6.2.2.2.2.2.2.1,r6.2.2.2.2.2.2.2.1,r6.2.2.2.2.2.2.2.2.1,r6.2.2.2.2.2.2.2.2.2.1,r6.2.2.2.2.2.2.2.2.2.2.1,r6.2.2.2.2.2.2.2.2.2.2.2.1,r6.2.2.2.2.2.2.2.2.2.2.2.2.1,r6.2.2.2.2.2.2.2.2.2.2.2.2.2.1,r6.2.2.2.2.2.2.2.2.2.2.2.2.2.2.1,r6.2.2.2.2.2.2.2.2.2.2.2.2.2.2.2.1,r6.2.2.2.2.2.2.2.2.2.2.2.2.2.2.2.2]:List Int) (sShr .i64 y4 a1)) (if (63:Int)<(IntKind.u64.wrap ((IntKind.u64.wrap (sShr .i64 r3.1 a1))+(IntKind.u64.wrap (IntKind.i64.wrap (30-a1))))) then 63 else IntKind.u64.wrap ((IntKind.u64.wrap (sShr .i64 r3.1 a1))+(IntKind.u64.wrap (IntKind.i64.wrap (30-a1)))))),0))))
noncomputable abbrev zBI:Fe:= .of Tryz.prog 258 zAf
def zPY (a0:Int) (a1:List Int) (r1:Int×Int) (x0:Int) (x1:Int) (x2:List Int):St:=⟨[(39,nI x0),(38,nI (a1.length:Int)),(37,lI a1),(9,nI x1),(8,sI (.h 0) x2),(6,nI r1.1),(0,nI a0),(1,lI a1)],[]⟩
def zPW (a0:Int) (a1:List Int) (r1:Int×Int) (x:Int×(List Int)):St:=⟨[(9,nI x.1),(8,sI (.h 1) x.2),(0,nI a0)],[]⟩
theorem zOg (a0:Int) (a1:List Int) (r1:Int×Int):∀(x0:Int) (x1:Int) (x2:List Int),Ok (zEF a0 a1 r1 x0 x1 x2) (LR zBI (.exit 0) (zPW a0 a1 r1) 258 0 (zPY a0 a1 r1 x0 x1 x2)):=by
 refine zEF.partial_correctness a0 a1 r1 _ ?_
 intro f IH x0 x1 x2
 exact Tr.lpR (F:=zBI) (X:=Int×Int×(List Int))
  (.ite 6 40 (x0<(a1.length:Int))
   (.idx 7 eI a1 x0<| .idx 9 eI a1 r1.1<| .call 1 (zGv (at' a1 x0) (at' a1 r1.1)) zAe fun r4=> .ite 12 54 (r4.2=0)
   (.call 6 (zJ1 r4.1 a0) zAe fun r5=> .idx 3 eI x2 x0<| .sto 0 [8] eI x2 x0 r5.1<| .let_ (x2.set (Int.toNat x0) r5.1:List Int) fun y6=> .iteN 8 65 (r5.2=0)
   (.ret 12 (.inl ([],r5.2)))
   (.idx 6 eI y6 x0<| .again 9 (IntKind.i64.wrap (x0+1),IntKind.i64.wrap (x1+(at' y6 x0)),y6)))
   (.iteN 8 65 (r4.2=0)
   (.ret 12 (.inl ([],r4.2)))
   (.idx 6 eI x2 x0<| .again 9 (IntKind.i64.wrap (x0+1),IntKind.i64.wrap (x1+(at' x2 x0)),x2))))
   (.ret 4 (.inr (x1,x2)))) _ fun x r=>IH x.1 x.2.1 x.2.2 r
def zPa (a0:Int) (j8:Int×(List Int)) (x0:Int) (x1:List Int):St:=⟨[(76,nI x0),(75,nI (j8.2.length:Int)),(74,sI (.h 2) x1),(9,nI j8.1),(8,sI (.h 2) x1),(0,nI a0)],[]⟩
def zPg (a0:Int) (j8:Int×(List Int)) (x:(List Int)):St:=⟨[(8,sI (.h 3) x)],[]⟩
theorem zN8 (a0:Int) (j8:Int×(List Int)):∀(x0:Int) (x1:List Int),Ok (zFX a0 j8 x0 x1) (LR zBI (.exit 2) (zPg a0 j8) 258 1 (zPa a0 j8 x0 x1)):=by
 refine zFX.partial_correctness a0 j8 _ ?_
 intro f IH x0 x1
 exact Tr.lpR (F:=zBI) (X:=Int×(List Int))
  (.ite 6 77 (x0<(j8.2.length:Int))
   (.idx 7 eI x1 x0<| .call 11 (zJi (at' x1 x0) j8.1 a0) zAe fun r9=> .idx 3 eI x1 x0<| .sto 0 [74,8] eI x1 x0 r9.1<| .let_ (x1.set (Int.toNat x0) r9.1:List Int) fun y10=> .iteN 7 92 (r9.2=0)
   (.ret 11 (.inl ([],r9.2)))
   (.again 7 (IntKind.i64.wrap (x0+1),y10)))
   (.ret 4 (.inr x1))) _ fun x r=>IH x.1 x.2 r
def zOS (a0:Int) (a1:List Int) (r1:Int×Int) (x0:Int) (x1:Int) (x2:List Int):St:=⟨[(39,nI x0),(38,nI (a1.length:Int)),(37,lI a1),(9,nI x1),(8,sI (.h 0) x2),(6,nI r1.1),(0,nI a0),(1,lI a1)],[]⟩
def zQd (a0:Int) (a1:List Int) (r1:Int×Int) (x:Int×(List Int)):St:=⟨[(9,nI x.1),(8,sI (.h 1) x.2),(0,nI a0)],[]⟩
theorem zN2 (a0:Int) (a1:List Int) (r1:Int×Int):∀(x0:Int) (x1:Int) (x2:List Int),Ok (zCD a0 a1 r1 x0 x1 x2) (LR zBI (.exit 0) (zQd a0 a1 r1) 258 0 (zOS a0 a1 r1 x0 x1 x2)):=by
 refine zCD.partial_correctness a0 a1 r1 _ ?_
 intro f IH x0 x1 x2
 exact Tr.lpR (F:=zBI) (X:=Int×Int×(List Int))
  (.ite 6 40 (x0<(a1.length:Int))
   (.idx 7 eI a1 x0<| .idx 9 eI a1 r1.1<| .call 1 (zGv (at' a1 x0) (at' a1 r1.1)) zAe fun r16=> .ite 12 54 (r16.2=0)
   (.call 6 (zJ1 r16.1 a0) zAe fun r17=> .idx 3 eI x2 x0<| .sto 0 [8] eI x2 x0 r17.1<| .let_ (x2.set (Int.toNat x0) r17.1:List Int) fun y18=> .iteN 8 65 (r17.2=0)
   (.ret 12 (.inl ([],r17.2)))
   (.idx 6 eI y18 x0<| .again 9 (IntKind.i64.wrap (x0+1),IntKind.i64.wrap (x1+(at' y18 x0)),y18)))
   (.iteN 8 65 (r16.2=0)
   (.ret 12 (.inl ([],r16.2)))
   (.idx 6 eI x2 x0<| .again 9 (IntKind.i64.wrap (x0+1),IntKind.i64.wrap (x1+(at' x2 x0)),x2))))
   (.ret 4 (.inr (x1,x2)))) _ fun x r=>IH x.1 x.2.1 x.2.2 r
def zQf (a0:Int) (j20:Int×(List Int)) (x0:Int) (x1:List Int):St:=⟨[(76,nI x0),(75,nI (j20.2.length:Int)),(74,sI (.h 2) x1),(9,nI j20.1),(8,sI (.h 2) x1),(0,nI a0)],[]⟩
def zPe (a0:Int) (j20:Int×(List Int)) (x:(List Int)):St:=⟨[(8,sI (.h 3) x)],[]⟩
theorem zOd (a0:Int) (j20:Int×(List Int)):∀(x0:Int) (x1:List Int),Ok (zCH a0 j20 x0 x1) (LR zBI (.exit 2) (zPe a0 j20) 258 1 (zQf a0 j20 x0 x1)):=by
 refine zCH.partial_correctness a0 j20 _ ?_
 intro f IH x0 x1
 exact Tr.lpR (F:=zBI) (X:=Int×(List Int))
  (.ite 6 77 (x0<(j20.2.length:Int))
   (.idx 7 eI x1 x0<| .call 11 (zJi (at' x1 x0) j20.1 a0) zAe fun r21=> .idx 3 eI x1 x0<| .sto 0 [74,8] eI x1 x0 r21.1<| .let_ (x1.set (Int.toNat x0) r21.1:List Int) fun y22=> .iteN 7 92 (r21.2=0)
   (.ret 11 (.inl ([],r21.2)))
   (.again 7 (IntKind.i64.wrap (x0+1),y22)))
   (.ret 4 (.inr x1))) _ fun x r=>IH x.1 x.2 r
def zOT (a0:Int) (a1:List Int) (r1:Int×Int) (x0:Int) (x1:Int) (x2:List Int):St:=⟨[(39,nI x0),(38,nI (a1.length:Int)),(37,lI a1),(9,nI x1),(8,sI (.h 0) x2),(6,nI r1.1),(0,nI a0),(1,lI a1)],[]⟩
def zP8 (a0:Int) (a1:List Int) (r1:Int×Int) (x:Int×(List Int)):St:=⟨[(9,nI x.1),(8,sI (.h 1) x.2),(0,nI a0)],[]⟩
theorem zN6 (a0:Int) (a1:List Int) (r1:Int×Int):∀(x0:Int) (x1:Int) (x2:List Int),Ok (zEz a0 a1 r1 x0 x1 x2) (LR zBI (.exit 0) (zP8 a0 a1 r1) 258 0 (zOT a0 a1 r1 x0 x1 x2)):=by
 refine zEz.partial_correctness a0 a1 r1 _ ?_
 intro f IH x0 x1 x2
 exact Tr.lpR (F:=zBI) (X:=Int×Int×(List Int))
  (.ite 6 40 (x0<(a1.length:Int))
   (.idx 7 eI a1 x0<| .idx 9 eI a1 r1.1<| .call 1 (zGv (at' a1 x0) (at' a1 r1.1)) zAe fun r27=> .ite 12 54 (r27.2=0)
   (.call 6 (zJ1 r27.1 a0) zAe fun r28=> .idx 3 eI x2 x0<| .sto 0 [8] eI x2 x0 r28.1<| .let_ (x2.set (Int.toNat x0) r28.1:List Int) fun y29=> .iteN 8 65 (r28.2=0)
   (.ret 12 (.inl ([],r28.2)))
   (.idx 6 eI y29 x0<| .again 9 (IntKind.i64.wrap (x0+1),IntKind.i64.wrap (x1+(at' y29 x0)),y29)))
   (.iteN 8 65 (r27.2=0)
   (.ret 12 (.inl ([],r27.2)))
   (.idx 6 eI x2 x0<| .again 9 (IntKind.i64.wrap (x0+1),IntKind.i64.wrap (x1+(at' x2 x0)),x2))))
   (.ret 4 (.inr (x1,x2)))) _ fun x r=>IH x.1 x.2.1 x.2.2 r
def zPK (a0:Int) (j31:Int×(List Int)) (x0:Int) (x1:List Int):St:=⟨[(76,nI x0),(75,nI (j31.2.length:Int)),(74,sI (.h 2) x1),(9,nI j31.1),(8,sI (.h 2) x1),(0,nI a0)],[]⟩
def zOL (a0:Int) (j31:Int×(List Int)) (x:(List Int)):St:=⟨[(8,sI (.h 3) x)],[]⟩
theorem zN4 (a0:Int) (j31:Int×(List Int)):∀(x0:Int) (x1:List Int),Ok (zFZ a0 j31 x0 x1) (LR zBI (.exit 2) (zOL a0 j31) 258 1 (zPK a0 j31 x0 x1)):=by
 refine zFZ.partial_correctness a0 j31 _ ?_
 intro f IH x0 x1
 exact Tr.lpR (F:=zBI) (X:=Int×(List Int))
  (.ite 6 77 (x0<(j31.2.length:Int))
   (.idx 7 eI x1 x0<| .call 11 (zJi (at' x1 x0) j31.1 a0) zAe fun r32=> .idx 3 eI x1 x0<| .sto 0 [74,8] eI x1 x0 r32.1<| .let_ (x1.set (Int.toNat x0) r32.1:List Int) fun y33=> .iteN 7 92 (r32.2=0)
   (.ret 11 (.inl ([],r32.2)))
   (.again 7 (IntKind.i64.wrap (x0+1),y33)))
   (.ret 4 (.inr x1))) _ fun x r=>IH x.1 x.2 r
theorem zRl (a0:Int) (a1:List Int):HS 258 (zHM a0 a1) [.int .i64 a0, .lst (List.map (D.int .i64) a1)] zAf:=Tr.fn (F:=zBI)
 (.call 8 (zRk a1) zAe fun r1=> .ite 12 23 (r1.2=0)
  (.ite 3 26 (a0<0)
  (.iteN 15 32 (1=0)
  (.ret 9 ([],1))
  (.len 5 eI a1<| .mk 0 eI 8 0 (a1.length:Int) (a1.length:Int)<| .let_ (List.replicate (Int.toNat (a1.length:Int)) 0:List Int) fun y2=> .len 10 eI a1<| .loopR 4 id ⟨_,_,_,_,_,zOg a0 a1 r1 0 0 y2⟩ fun j8=> .len 5 eI j8.2<| .loopR 4 id ⟨_,_,_,_,_,zN8 a0 j8 0 j8.2⟩ fun j12=> .ret 8 (j12,0)))
  (.join 5 0 (γ:=Int) ⟨fun x=>[(7,nI x)],[6,0,1],fun _=>[],[]⟩
  (.ite 0 30 (a0>30)
  (.ret 4 1)
  (.ret 2 r1.2))
  fun j13=> .iteN 6 32 (j13=0)
  (.ret 9 ([],j13))
  (.len 5 eI a1<| .mk 0 eI 8 0 (a1.length:Int) (a1.length:Int)<| .let_ (List.replicate (Int.toNat (a1.length:Int)) 0:List Int) fun y14=> .len 10 eI a1<| .loopR 4 id ⟨_,_,_,_,_,zN2 a0 a1 r1 0 0 y14⟩ fun j20=> .len 5 eI j20.2<| .loopR 4 id ⟨_,_,_,_,_,zOd a0 j20 0 j20.2⟩ fun j24=> .ret 8 (j24,0))))
  (.iteN 16 32 (r1.2=0)
  (.ret 9 ([],r1.2))
  (.len 5 eI a1<| .mk 0 eI 8 0 (a1.length:Int) (a1.length:Int)<| .let_ (List.replicate (Int.toNat (a1.length:Int)) 0:List Int) fun y25=> .len 10 eI a1<| .loopR 4 id ⟨_,_,_,_,_,zN6 a0 a1 r1 0 0 y25⟩ fun j31=> .len 5 eI j31.2<| .loopR 4 id ⟨_,_,_,_,_,zN4 a0 j31 0 j31.2⟩ fun j35=> .ret 8 (j35,0))))
noncomputable abbrev zTK:Fe:= .of Tryz.prog 255 zAf
theorem zSf (a0:Int) (a1:List Int) (a2:List Int) (a3:Int):HS 255 (zG0 a0 a1 a2 a3) [.int .i64 a0, .lst (List.map (D.int .i64) a1), .lst (List.map (D.int .i64) a2), .int .i64 a3] zAf:=Tr.fn (F:=zTK)
 (.call 11 (zRm a0 a1 a2 a3) zAt fun r1=> .iteN 12 21 (r1.2=0)
  (.ret 9 ([],r1.2))
  (.call 6 (zRl a3 r1.1) zAt fun r2=> .ret 6 (r2.1,r2.2)))
noncomputable abbrev zVH:Fe:= .of Tryz.prog 252 zAf
theorem zTF (a0:Int) (a1:List Int) (a2:zAa) (a3:Int):HS 252 (zHX a0 a1 a2 a3) [.int .i64 a0, .lst (List.map (D.int .i64) a1), .agg [.lst (List.map (D.int .i64) a2.F_X), .int .i64 a2.F_Y], .int .i64 a3] zAf:=Tr.fn (F:=zVH)
 (.call 13 (zSf a0 a1 a2.F_X a3) zAt fun r1=> .ite 12 23 (r1.2=0)
  (.ite 4 27 (a2.F_Y<0)
  (.iteN 17 35 (1=0)
  (.ret 9 ([],1))
  (.idx 7 eI r1.1 a2.F_Y<| .rd 2 (0≤a3) (nI (sShl .i64 1 a3))<| .idx 1 eI r1.1 a2.F_Y<| .sto 0 [37,10] eI r1.1 a2.F_Y (IntKind.i64.wrap ((at' r1.1 a2.F_Y)-(sShl .i64 1 a3)))<| .ret 8 (r1.1.set (Int.toNat a2.F_Y) (IntKind.i64.wrap ((at' r1.1 a2.F_Y)-(sShl .i64 1 a3))),0)))
  (.join 7 0 (γ:=Int) ⟨fun x=>[(11,nI x)],[10,6,3],fun _=>[],[.s 15]⟩
  (.ite 0 33 (a2.F_Y≥a0)
  (.ret 4 1)
  (.ret 2 r1.2))
  fun j2=> .iteN 6 35 (j2=0)
  (.ret 9 ([],j2))
  (.idx 7 eI r1.1 a2.F_Y<| .rd 2 (0≤a3) (nI (sShl .i64 1 a3))<| .idx 1 eI r1.1 a2.F_Y<| .sto 0 [37,10] eI r1.1 a2.F_Y (IntKind.i64.wrap ((at' r1.1 a2.F_Y)-(sShl .i64 1 a3)))<| .ret 8 (r1.1.set (Int.toNat a2.F_Y) (IntKind.i64.wrap ((at' r1.1 a2.F_Y)-(sShl .i64 1 a3))),0))))
  (.iteN 19 35 (r1.2=0)
  (.ret 9 ([],r1.2))
  (.idx 7 eI r1.1 a2.F_Y<| .rd 2 (0≤a3) (nI (sShl .i64 1 a3))<| .idx 1 eI r1.1 a2.F_Y<| .sto 0 [37,10] eI r1.1 a2.F_Y (IntKind.i64.wrap ((at' r1.1 a2.F_Y)-(sShl .i64 1 a3)))<| .ret 8 (r1.1.set (Int.toNat a2.F_Y) (IntKind.i64.wrap ((at' r1.1 a2.F_Y)-(sShl .i64 1 a3))),0))))
noncomputable abbrev zKU:Fe:= .of Tryz.prog 253 zAf
def zQv (a0:zAa) (a1:List Int) (a2:Int) (x0:Int) (x1:List Int):St:=⟨[(14,nI x0),(13,nI (a1.length:Int)),(12,lI a1),(6,sI (.h 0) x1),(3, .ptr (.s 15) 0),(2,nI a2)],[(.s 15,[lI a0.F_X,nI a0.F_Y])]⟩
def zQB (a0:zAa) (a1:List Int) (a2:Int) (x:(List Int)):St:=⟨[(6,sI (.h 1) x)],[]⟩
theorem zPM (a0:zAa) (a1:List Int) (a2:Int):∀(x0:Int) (x1:List Int),Ok (zDJ a0 a1 a2 x0 x1) (LR zKU (.exit 0) (zQB a0 a1 a2) 253 0 (zQv a0 a1 a2 x0 x1)):=by
 refine zDJ.partial_correctness a0 a1 a2 _ ?_
 intro f IH x0 x1
 exact Tr.lpR (F:=zKU) (X:=Int×(List Int))
  (.ite 6 15 (x0<(a1.length:Int))
   (.idx 6 eI a1 x0<| .call 9 (zKc a0.F_X (at' a1 x0) a2) zAt fun r1=> .iteN 12 27 (r1.2=0)
   (.ret 12 (.inl ([],r1.2)))
   (.app 5 eI 8 x1 r1.1<| .app 2 eI 8 (x1++r1.1) [at' a1 x0]<| .let_ ((x1++r1.1)++[at' a1 x0]:List Int) fun y2=> .again 7 (IntKind.i64.wrap (x0+1),y2)))
   (.ret 4 (.inr x1))) _ fun x r=>IH x.1 x.2 r
theorem zSo (a0:zAa) (a1:List Int) (a2:Int):HS 253 (zIj a0 a1 a2) [.agg [.lst (List.map (D.int .i64) a0.F_X), .int .i64 a0.F_Y], .lst (List.map (D.int .i64) a1), .int .i64 a2] zAf:=Tr.fn (F:=zKU)
 (.len 10 eI a1<| .loopR 4 id ⟨_,_,_,_,_,zPM a0 a1 a2 0 []⟩ fun j4=> .ret 8 (j4,0))
noncomputable abbrev zKP:Fe:= .of Tryz.prog 247 zAf
def zQs (a0:Int) (a1:List Int) (a2:Int) (a3:List zAa) (x0:Int) (x1:List (List Int)) (x2:Int):St:=⟨[(22,nI x0),(21,nI (a3.length:Int)),(20, .d (.lst (List.map zAa.en a3))),(11, .sl (.h 0) 1 0 (List.map (enL (D.int .i64)) x1)),(10,nI x2),(0,nI a0),(1,lI a1),(2,nI a2),(3, .d (.lst (List.map zAa.en a3)))],[]⟩
def zQR (a0:Int) (a1:List Int) (a2:Int) (a3:List zAa) (x:(List (List Int))×Int):St:=⟨[(11, .sl (.h 1) 1 0 (List.map (enL (D.int .i64)) x.1)),(10,nI x.2),(3, .d (.lst (List.map zAa.en a3)))],[]⟩
theorem zO4 (a0:Int) (a1:List Int) (a2:Int) (a3:List zAa):∀(x0:Int) (x1:List (List Int)) (x2:Int),Ok (zBw a0 a1 a2 a3 x0 x1 x2) (LN zKP (.exit 0) (zQR a0 a1 a2 a3) 247 0 (zQs a0 a1 a2 a3 x0 x1 x2)):=by
 refine zBw.partial_correctness a0 a1 a2 a3 _ ?_
 intro f IH x0 x1 x2
 exact Tr.lpN (F:=zKP) (X:=Int×(List (List Int))×Int)
  (.ite 6 23 (x0<(a3.length:Int))
   (.idx 6 zAa.e a3 x0<| .join 15 0 (γ:=Int×(List Int)) ⟨fun x=>[(10,nI x.1),(14,sI (.h 1) x.2)],[15,13,22,21,20,11,0,1,2,3],fun _=>[],[.s 8047]⟩
   (.ite 0 27 (x2=0)
   (.call 6 (zTF a0 a1 (at' a3 x0) a2) zAt fun r2=> .ret 6 (r2.2,r2.1))
   (.ret 2 (x2,[])))
   fun j3=> .ite 6 37 (j3.1=0)
   (.call 5 (zSo (at' a3 x0) j3.2 a2) zAt fun r4=> .app 10 (eL eI) 24 x1 [r4.1]<| .again 7 (IntKind.i64.wrap (x0+1),x1++[r4.1],r4.2))
   (.app 6 (eL eI) 24 x1 [[]]<| .again 7 (IntKind.i64.wrap (x0+1),x1++[[]],j3.1)))
   (.ret 4 (x1,x2))) _ fun x r=>IH x.1 x.2.1 x.2.2 r
theorem zSp (a0:Int) (a1:List Int) (a2:Int) (a3:List zAa):HS 247 (zIi a0 a1 a2 a3) [.int .i64 a0, .lst (List.map (D.int .i64) a1), .int .i64 a2, .lst (List.map zAa.en a3)] zAf:=Tr.fn (F:=zKP)
 (.call 10 (zR2 a0 a1 a3) zAs fun r1=> .len 10 zAa.e a3<| .loop 4 ⟨_,_,_,_,_,zO4 a0 a1 a2 a3 0 [] r1⟩ fun j5=> .iteN 7 51 (j5.2=0)
  (.ret 9 ([],j5.2))
  (.len 5 zAa.e a3<| .call 1 (zIe (a3.length:Int) j5.1) zAt fun r6=> .ret 6 (r6.1,r6.2)))
noncomputable abbrev zI7:Fe:= .of Tryz.prog 243 zAf
theorem zFi (a0:zAx) (a1:List Int) (a2:List zAa):HS 243 (zCU a0 a1 a2) [.agg [.int .i64 a0.F_Model.F_Kind, .int .i64 a0.F_Model.F_In, .int .i64 a0.F_Model.F_Out, .int .i64 a0.F_Model.F_Hid, .int .i64 a0.F_Model.F_Frac], .lst (List.map (D.int .i64) a1), .lst (List.map zAa.en a2)] zAf:=Tr.fn (F:=zI7)
 (.call 16 (zSp a0.F_Model.F_Out a1 a0.F_Model.F_Frac a2) zAt fun r1=> .ret 6 (r1.1,r1.2))
def zMK (v:(List Int)×(List (List Int))×Int×Int):PV:= .tup [.d (.agg [.lst (List.map (D.int .i64) v.1), .lst (List.map (enL (D.int .i64)) v.2.1), .int .i64 v.2.2.1]),nI v.2.2.2]
noncomputable abbrev zT4:Fe:= .of Tryz.prog 277 zMK
theorem zSF (a0:Int) (a1:List Int):HS 277 (zIp a0 a1) [.int .i64 a0, .lst (List.map (D.int .i64) a1)] zMK:=Tr.fn (F:=zT4)
 (.call 9 (zMQ a0) zAg fun r1=> .iteX 2 13 (r1)
  (.ret 9 ([],[],0,1))
  (.len 5 eI a1<| .rd 2 (a0≠0) (nI (IntKind.i64.wrap (Int.tdiv (IntKind.i64.wrap ((a1.length:Int)-1)) a0)))<| .let_ (IntKind.i64.wrap ((IntKind.i64.wrap (Int.tdiv (IntKind.i64.wrap ((a1.length:Int)-1)) a0))-1):Int) fun y2=> .call 9 (zLI (IntKind.i64.wrap (y2-1)) a0) zAe fun r4=> .join 11 5 (γ:=Bool) ⟨fun x=>[(35,bB x)],[6,4,0,1],fun _=>[],[.s 15]⟩
  (.iteN 0 30 (r4.2=0)
  (.ret 6 true)
  (.len 2 eI a1<| .ret 3 (r4.1 !=(a1.length:Int))))
  fun j5=> .iteB 1 35 (j5)
  (.ret 9 ([],[],0,4))
  (.cut 8 eI a1 (some (IntKind.i64.wrap (a0*y2))) none<| .let_ (cut' a1 (some (IntKind.i64.wrap (a0*y2))) none:List Int) fun y6=> .cut 14 eI a1 none (some (IntKind.i64.wrap (a0*y2)))<| .let_ (cut' a1 none (some (IntKind.i64.wrap (a0*y2))):List Int) fun y8=> .callZ 1 (zFk y8 y2) fun r10=> .rng 2 eI r10.1 r10.2 zNP ⟨fun _=>[],[9,4],fun x_11=>[(.s 11359,[lI y6, .sl (.h 0) 1 0 (List.map (enL (D.int .i64)) x_11),nI (IntKind.i64.wrap (y2-1))])],[.s 15]⟩ []
  (fun (x_11:(List (List Int))) c_12=> .app 4 (eL eI) 24 x_11 [c_12]<| .ret 4 (x_11++[c_12]))
  fun j13=> .ret 8 (y6,j13,IntKind.i64.wrap (y2-1),0))))
noncomputable abbrev zLx:Fe:= .of Tryz.prog 282 zAf
def zRt (r2:(List Int)) (x0:Int) (x1:List Int):St:=⟨[(17,nI x0),(16,nI (r2.length:Int)),(15,sI (.h 0) x1),(5,sI (.h 0) x1)],[]⟩
def zRz (r2:(List Int)) (x:(List Int)):St:=⟨[(5,sI (.h 1) x)],[]⟩
theorem zQp (r2:(List Int)):∀(x0:Int) (x1:List Int),Ok (zEc r2 x0 x1) (LN zLx (.exit 0) (zRz r2) 282 0 (zRt r2 x0 x1)):=by
 refine zEc.partial_correctness r2 _ ?_
 intro f IH x0 x1
 exact Tr.lpN (F:=zLx) (X:=Int×(List Int))
  (.ite 6 18 (x0<(r2.length:Int))
   (.idx 7 eI x1 x0<| .idx 9 eI x1 x0<| .sto 0 [15,5] eI x1 x0 (if (0:Int)>(at' x1 x0) then 0 else at' x1 x0)<| .let_ (x1.set (Int.toNat x0) (if (0:Int)>(at' x1 x0) then 0 else at' x1 x0):List Int) fun y3=> .again 6 (IntKind.i64.wrap (x0+1),y3))
   (.ret 4 x1)) _ fun x r=>IH x.1 x.2 r
theorem zTZ (a0:List Int):HS 282 (zJG a0) [.lst (List.map (D.int .i64) a0)] zAf:=Tr.fn (F:=zLx)
 (.call 9 (zF8 a0) zAs fun r1=> .iteN 7 11 (r1=0)
  (.ret 9 ([],r1))
  (.call 5 (zDT a0) zDR fun r2=> .len 6 eI r2<| .loop 4 ⟨_,_,_,_,_,zQp r2 0 r2⟩ fun j5=> .ret 8 (j5,0)))
noncomputable abbrev zEK:Fe:= .of Tryz.prog 281 zAf
def zJn (a0:zBf) (a1:List Int) (a2:Int) (x0:Int) (x1:List Int):St:=⟨[(32,nI x0),(31,nI (a0.F_rows.length:Int)),(30, .d (.lst (List.map (enL (D.int .i64)) a0.F_rows))),(8,sI (.h 0) x1),(1,lI a1),(2,nI a2)],[]⟩
def zJd (a0:zBf) (a1:List Int) (a2:Int) (x:(List Int)):St:=⟨[(8,sI (.h 1) x)],[]⟩
theorem zIX (a0:zBf) (a1:List Int) (a2:Int):∀(x0:Int) (x1:List Int),Ok (zA3 a0 a1 a2 x0 x1) (LR zEK (.exit 1) (zJd a0 a1 a2) 281 0 (zJn a0 a1 a2 x0 x1)):=by
 refine zA3.partial_correctness a0 a1 a2 _ ?_
 intro f IH x0 x1
 exact Tr.lpR (F:=zEK) (X:=Int×(List Int))
  (.ite 6 33 (x0<(a0.F_rows.length:Int))
   (.idx 7 (eL eI) a0.F_rows x0<| .call 15 (zGA (at' a0.F_rows x0) a1 a2) zAe fun r4=> .idx 3 eI x1 x0<| .sto 0 [8] eI x1 x0 r4.1<| .let_ (x1.set (Int.toNat x0) r4.1:List Int) fun y5=> .iteN 7 48 (r4.2=0)
   (.ret 11 (.inl ([],r4.2)))
   (.again 7 (IntKind.i64.wrap (x0+1),y5)))
   (.ret 4 (.inr x1))) _ fun x r=>IH x.1 x.2 r
theorem zKi (a0:zBf) (a1:List Int) (a2:Int):HS 281 (zDP a0 a1 a2) [.agg [.lst (List.map (D.int .i64) a0.F_line.F_last), .lst (List.map (enL (D.int .i64)) a0.F_rows), .int .i64 a0.F_in], .lst (List.map (D.int .i64) a1), .int .i64 a2] zAf:=Tr.fn (F:=zEK)
 (.len 11 eI a1<| .iteN 5 12 ((a1.length:Int)=a0.F_in)
  (.ret 9 ([],4))
  (.join 6 3 (γ:=Bool) ⟨fun x=>[(24,bB x)],[3,1,2],fun _=>[],[.s 15]⟩
  (.ite 0 21 (a2<0)
  (.ret 4 true)
  (.ret 4 (decide (a2>30))))
  fun j1=> .iteB 2 18 (j1)
  (.ret 9 ([],1))
  (.len 7 (eL eI) a0.F_rows<| .mk 0 eI 8 0 (a0.F_rows.length:Int) (a0.F_rows.length:Int)<| .let_ (List.replicate (Int.toNat (a0.F_rows.length:Int)) 0:List Int) fun y2=> .len 7 (eL eI) a0.F_rows<| .loopR 4 id ⟨_,_,_,_,_,zIX a0 a1 a2 0 y2⟩ fun j7=> .call 4 (zTZ j7) zAt fun r8=> .ret 6 (r8.1,r8.2))))
def zE2 (v:(List Int)×Int×Int):PV:= .tup [sI (.s 0) v.1,nI v.2.1,nI v.2.2]
noncomputable abbrev zLu:Fe:= .of Tryz.prog 279 zE2
theorem zLr:∀v,(zE2 v).noLst:=fun _=>⟨(zIn fun _=>trivial),trivial,trivial,trivial⟩
theorem zK9 (a0:zBf) (a1:List Int) (a2:Int):HS 279 (zDr a0 a1 a2) [.agg [.lst (List.map (D.int .i64) a0.F_line.F_last), .lst (List.map (enL (D.int .i64)) a0.F_rows), .int .i64 a0.F_in], .lst (List.map (D.int .i64) a1), .int .i64 a2] zE2:=Tr.fn (F:=zLu)
 (.call 12 (zKi a0 a1 a2) zAt fun r1=> .iteN 12 20 (r1.2=0)
  (.ret 10 ([],0,r1.2))
  (.call 9 (zGA a0.F_line.F_last r1.1 a2) zAe fun r2=> .ret 16 (r1.1,r2.1,r2.2)))
def zDh (v:Int×Int×(List Int)):PV:= .tup []
def zDg (v:Int×Int×(List Int)):List (Tg×List PV):=[(.up (.s 0),[nI v.1]),(.up (.s 1),[nI v.2.1]),(.up (.s 2),[sI (.s 0) v.2.2])]
noncomputable abbrev zHK:Fe:= .of Tryz.prog 280 zDh zDg
theorem zDj:∀v,(zDh v).noLst:=fun _=>trivial
theorem zC3:∀v,zF7 (zDg v):=fun _=>⟨⟨trivial,trivial⟩,⟨trivial,trivial⟩,⟨(zIn fun _=>trivial),trivial⟩,trivial⟩
theorem zDi (a0:List Int) (a1:Int) (a2:Int) (a3:Int) (a4:List Int):HG 280 (zAN a0 a1 a2 a3 a4) [lI a0,nI a1, .ptr (.up (.s 0)) 0, .ptr (.up (.s 1)) 0, .ptr (.up (.s 2)) 0] [(.up (.s 0),[nI a2]),(.up (.s 1),[nI a3]),(.up (.s 2),[sI (.h 0) a4])] zDh zDg:=Tr.fnG (F:=zHK)
 (.ite 5 8 (a2=0)
  (.call 6 (zKc a0 a1 a3) zAt fun r1=> .app 9 eI 8 a4 r1.1<| .app 2 eI 8 (a4++r1.1) [a1]<| .ret 2 (r1.2,a3,(a4++r1.1)++[a1]))
  (.ret 2 (a2,a3,a4)))
noncomputable abbrev zFu:Fe:= .of Tryz.prog 278 zAf
def zKd (a0:zBf) (a1:zAa) (r1:(List Int)×Int×Int) (r2:Int×Int) (x0:Int) (x1:Int) (x2:List Int) (x3:Int):St:=⟨[(41,nI x0),(40,nI (r1.1.length:Int)),(39,sI (.s 1664) r1.1),(12, .clo (.func 280) [] [.ptr (.s 1759) 0, .ptr (.s 47) 0, .ptr (.s 63) 0]),(11,nI r2.1),(8,sI (.s 1664) r1.1),(10, .ptr (.s 1759) 0),(6, .ptr (.s 63) 0),(5, .ptr (.s 47) 0),(4, .ptr (.s 31) 0),(3, .ptr (.s 15) 0)],[(.s 1759,[nI x1]),(.s 63,[sI (.h 0) x2]),(.s 47,[nI x3]),(.s 31,[lI a1.F_X,nI a1.F_Y]),(.s 15,[lI a0.F_line.F_last, .d (.lst (List.map (enL (D.int .i64)) a0.F_rows)),nI a0.F_in])]⟩
def zKe (a0:zBf) (a1:zAa) (r1:(List Int)×Int×Int) (r2:Int×Int) (x:Int×(List Int)×Int):St:=⟨[(12, .clo (.func 280) [] [.ptr (.s 1759) 0, .ptr (.s 47) 0, .ptr (.s 63) 0]),(11,nI r2.1),(8,sI (.s 1664) r1.1),(10, .ptr (.s 1759) 0),(6, .ptr (.s 63) 0)],[(.s 1759,[nI x.1]),(.s 63,[sI (.h 1) x.2.1]),(.s 47,[nI x.2.2])]⟩
theorem zJ4 (a0:zBf) (a1:zAa) (r1:(List Int)×Int×Int) (r2:Int×Int):∀(x0:Int) (x1:Int) (x2:List Int) (x3:Int),Ok (zAG a0 a1 r1 r2 x0 x1 x2 x3) (LN zFu (.exit 0) (zKe a0 a1 r1 r2) 278 0 (zKd a0 a1 r1 r2 x0 x1 x2 x3)):=by
 refine zAG.partial_correctness a0 a1 r1 r2 _ ?_
 intro f IH x0 x1 x2 x3
 exact Tr.lpN (F:=zFu) (X:=Int×Int×(List Int)×Int)
  (.ite 6 42 (x0<(r1.1.length:Int))
   (.idx 7 eI r1.1 x0<| .join 14 3 (γ:=Bool) ⟨fun x=>[(51,bB x)],[15,13,41,40,39,12,11,8,10,6,5,4,3],fun _=>[],[.s 1759, .s 63, .s 47, .s 31, .s 15]⟩
   (.ite 0 48 ((at' r1.1 x0)>0)
   (.ret 4 (x1==0))
   (.ret 4 false))
   fun j3=> .iteB 1 51 (j3)
   (.idx 7 eI a0.F_line.F_last x0<| .call 2 (zJy r2.1 (at' a0.F_line.F_last x0) x3) zAe fun r4=> .callB 11 [(.up (.s 0), .s 1759),(.up (.s 1), .s 47),(.up (.s 2), .s 63),(.h 0, .h 0)] (zDi a1.F_X r4.1 r4.2 x3 x2) zDj zC3 fun r5=> .again 6 (IntKind.i64.wrap (x0+1),r5.1,r5.2.2,r5.2.1))
   (.callB 7 [(.up (.s 0), .s 1759),(.up (.s 1), .s 47),(.up (.s 2), .s 63),(.h 0, .h 0)] (zDi a1.F_X 0 x1 x3 x2) zDj zC3 fun r6=> .again 6 (IntKind.i64.wrap (x0+1),r6.1,r6.2.2,r6.2.1)))
   (.ret 4 (x1,x2,x3))) _ fun x r=>IH x.1 x.2.1 x.2.2.1 x.2.2.2 r
theorem zLf (a0:zBf) (a1:zAa) (a2:Int):HS 278 (zDn a0 a1 a2) [.agg [.lst (List.map (D.int .i64) a0.F_line.F_last), .lst (List.map (enL (D.int .i64)) a0.F_rows), .int .i64 a0.F_in], .agg [.lst (List.map (D.int .i64) a1.F_X), .int .i64 a1.F_Y], .int .i64 a2] zAf:=Tr.fn (F:=zFu)
 (.call 14 (zK9 a0 a1.F_X a2) zLr fun r1=> .iteN 15 26 (r1.2.2=0)
  (.hold 6 []<| .ret 5 ([],r1.2.2))
  (.call 7 (zGv r1.2.1 a1.F_Y) zAe fun r2=> .iteN 12 36 (r2.2=0)
  (.hold 6 []<| .ret 5 ([],r2.2))
  (.len 11 eI r1.1<| .loop 4 ⟨_,_,_,_,_,zJ4 a0 a1 r1 r2 0 r2.2 [] a2⟩ fun j7=> .callB 6 [(.up (.s 0), .s 1759),(.up (.s 1), .s 47),(.up (.s 2), .s 63),(.h 0, .h 1)] (zDi r1.1 r2.1 j7.1 j7.2.2 j7.2.1) zDj zC3 fun r8=> .iteN 7 75 (r8.1=0)
  (.hold 6 []<| .ret 5 ([],r8.1))
  (.ret 9 (r8.2.2,0)))))
noncomputable abbrev zLE:Fe:= .of Tryz.prog 274 zAf
def zRj (a2:Int) (a3:List zAa) (r1:(List Int)×(List (List Int))×Int×Int) (x0:Int) (x1:List (List Int)):St:=⟨[(36,nI x0),(35,nI (a3.length:Int)),(34, .d (.lst (List.map zAa.en a3))),(12, .sl (.h 0) 1 0 (List.map (enL (D.int .i64)) x1)),(10, .ptr (.s 1711) 0),(2,nI a2),(3, .d (.lst (List.map zAa.en a3)))],[(.s 1711,[lI r1.1, .d (.lst (List.map (enL (D.int .i64)) r1.2.1)),nI r1.2.2.1])]⟩
def zRy (a2:Int) (a3:List zAa) (r1:(List Int)×(List (List Int))×Int×Int) (x:(List (List Int))):St:=⟨[(12, .sl (.h 1) 1 0 (List.map (enL (D.int .i64)) x)),(3, .d (.lst (List.map zAa.en a3)))],[]⟩
theorem zQS (a2:Int) (a3:List zAa) (r1:(List Int)×(List (List Int))×Int×Int):∀(x0:Int) (x1:List (List Int)),Ok (zCY a2 a3 r1 x0 x1) (LR zLE (.exit 0) (zRy a2 a3 r1) 274 0 (zRj a2 a3 r1 x0 x1)):=by
 refine zCY.partial_correctness a2 a3 r1 _ ?_
 intro f IH x0 x1
 exact Tr.lpR (F:=zLE) (X:=Int×(List (List Int)))
  (.ite 6 37 (x0<(a3.length:Int))
   (.idx 6 zAa.e a3 x0<| .call 9 (zLf (⟨(⟨r1.1⟩:zEG),r1.2.1,r1.2.2.1⟩:zBf) (at' a3 x0) a2) zAt fun r4=> .iteN 12 48 (r4.2=0)
   (.ret 12 (.inl ([],r4.2)))
   (.app 6 (eL eI) 24 x1 [r4.1]<| .again 7 (IntKind.i64.wrap (x0+1),x1++[r4.1])))
   (.ret 4 (.inr x1))) _ fun x r=>IH x.1 x.2 r
theorem zTY (a0:Int) (a1:List Int) (a2:Int) (a3:List zAa):HS 274 (zJI a0 a1 a2 a3) [.int .i64 a0, .lst (List.map (D.int .i64) a1), .int .i64 a2, .lst (List.map zAa.en a3)] zAf:=Tr.fn (F:=zLE)
 (.callZ 9 (zSF a0 a1) fun r1=> .join 13 0 (γ:=Int) ⟨fun x=>[(11,nI x)],[10,2,3],fun _=>[],[.s 1711]⟩
  (.ite 0 24 (r1.2.2.2=0)
  (.call 7 (zMs r1.2.2.1 a0 a1 a3) zAs fun r2=> .ret 2 r2)
  (.ret 2 r1.2.2.2))
  fun j3=> .iteN 6 32 (j3=0)
  (.ret 9 ([],j3))
  (.len 10 zAa.e a3<| .loopR 4 id ⟨_,_,_,_,_,zQS a2 a3 r1 0 []⟩ fun j5=> .len 4 zAa.e a3<| .call 1 (zIe (a3.length:Int) j5) zAt fun r6=> .ret 6 (r6.1,r6.2)))
noncomputable abbrev zJo:Fe:= .of Tryz.prog 270 zAf
theorem zFK (a0:zAD) (a1:List Int) (a2:List zAa):HS 270 (zDe a0 a1 a2) [.agg [.int .i64 a0.F_Model.F_Kind, .int .i64 a0.F_Model.F_In, .int .i64 a0.F_Model.F_Out, .int .i64 a0.F_Model.F_Hid, .int .i64 a0.F_Model.F_Frac], .lst (List.map (D.int .i64) a1), .lst (List.map zAa.en a2)] zAf:=Tr.fn (F:=zJo)
 (.call 16 (zTY a0.F_Model.F_Hid a1 a0.F_Model.F_Frac a2) zAt fun r1=> .ret 6 (r1.1,r1.2))
noncomputable abbrev zSN:Fe:= .of Tryz.prog 73 zAf
theorem zRi (a0:zAc) (a1:List Int) (a2:List zAa):HS 73 (zHJ a0 a1 a2) [.agg [.int .i64 a0.F_Kind, .int .i64 a0.F_In, .int .i64 a0.F_Out, .int .i64 a0.F_Hid, .int .i64 a0.F_Frac], .lst (List.map (D.int .i64) a1), .lst (List.map zAa.en a2)] zAf:=Tr.fn (F:=zSN)
 (.callS4 9 (zK2 a0) zKO
  (fun r1=> .ite 14 18 (r1.2=0)
  (.halt)
  (.iteN 8 24 (r1.2=0)
  (.ret 9 ([],r1.2))
  (.halt)))
  (fun r2=> .ite 14 18 (r2.2.2.2.2.2.2=0)
  (.call 5 (zFc (⟨(⟨r2.1,r2.2.1,r2.2.2.1,r2.2.2.2.1,r2.2.2.2.2.1⟩:zAc)⟩:zAv) a1 a2) zAs fun r3=> .iteN 8 24 (r3=0)
  (.ret 9 ([],r3))
  (.call 7 (zE6 (⟨(⟨r2.1,r2.2.1,r2.2.2.1,r2.2.2.2.1,r2.2.2.2.2.1⟩:zAc)⟩:zAv) a1 a2) zAt fun r4=> .ret 6 (r4.1,r4.2)))
  (.iteN 8 24 (r2.2.2.2.2.2.2=0)
  (.ret 9 ([],r2.2.2.2.2.2.2))
  (.call 7 (zE6 (⟨(⟨r2.1,r2.2.1,r2.2.2.1,r2.2.2.2.1,r2.2.2.2.2.1⟩:zAc)⟩:zAv) a1 a2) zAt fun r5=> .ret 6 (r5.1,r5.2))))
  (fun r6=> .ite 14 18 (r6.2.2.2.2.2.2=0)
  (.call 5 (zFj (⟨(⟨r6.1,r6.2.1,r6.2.2.1,r6.2.2.2.1,r6.2.2.2.2.1⟩:zAc)⟩:zAx) a1 a2) zAs fun r7=> .iteN 8 24 (r7=0)
  (.ret 9 ([],r7))
  (.call 7 (zFi (⟨(⟨r6.1,r6.2.1,r6.2.2.1,r6.2.2.2.1,r6.2.2.2.2.1⟩:zAc)⟩:zAx) a1 a2) zAt fun r8=> .ret 6 (r8.1,r8.2)))
  (.iteN 8 24 (r6.2.2.2.2.2.2=0)
  (.ret 9 ([],r6.2.2.2.2.2.2))
  (.call 7 (zFi (⟨(⟨r6.1,r6.2.1,r6.2.2.1,r6.2.2.2.1,r6.2.2.2.2.1⟩:zAc)⟩:zAx) a1 a2) zAt fun r9=> .ret 6 (r9.1,r9.2))))
  (fun r10=> .ite 14 18 (r10.2.2.2.2.2.2=0)
  (.call 5 (zFJ (⟨(⟨r10.1,r10.2.1,r10.2.2.1,r10.2.2.2.1,r10.2.2.2.2.1⟩:zAc)⟩:zAD) a1 a2) zAs fun r11=> .iteN 8 24 (r11=0)
  (.ret 9 ([],r11))
  (.call 7 (zFK (⟨(⟨r10.1,r10.2.1,r10.2.2.1,r10.2.2.2.1,r10.2.2.2.2.1⟩:zAc)⟩:zAD) a1 a2) zAt fun r12=> .ret 6 (r12.1,r12.2)))
  (.iteN 8 24 (r10.2.2.2.2.2.2=0)
  (.ret 9 ([],r10.2.2.2.2.2.2))
  (.call 7 (zFK (⟨(⟨r10.1,r10.2.1,r10.2.2.1,r10.2.2.2.1,r10.2.2.2.2.1⟩:zAc)⟩:zAD) a1 a2) zAt fun r13=> .ret 6 (r13.1,r13.2)))))
noncomputable abbrev zVd:Fe:= .of Tryz.prog 100 zAk
theorem zNX (a0:Int) (a1:Int):HS 100 (zHP a0 a1) [.int .i64 a0, .int .i64 a1] zAk:=Tr.fn (F:=zVd)
 (.ite 11 7 (a1<0)
  (.ret 8 (0,1))
  (.ret 14 (if a1<(if (IntKind.i64.wrap (0-a1))>a0 then IntKind.i64.wrap (0-a1) else a0) then a1 else if (IntKind.i64.wrap (0-a1))>a0 then IntKind.i64.wrap (0-a1) else a0,0)))
noncomputable abbrev zOI:Fe:= .of Tryz.prog 102 zAk
theorem zNG (a0:Int) (a1:List Int) (a2:Int):HS 102 (zHk a0 a1 a2) [.int .i64 a0, .cp [.lst (List.map (D.int .i64) a1)] 0, .cp [.int .i64 a2] 0] zAk:=Tr.fn (F:=zOI)
 (.idx 9 eI a1 a0<| .call 2 (zNX (at' a1 a0) a2) zAe fun r1=> .ret 6 (r1.1,r1.2))
noncomputable abbrev zE0:Fe:= .of Tryz.prog 101 zAf
def zJP (a1:List Int) (a2:Int) (y1:List Int) (x0:Int) (x1:List Int):St:=⟨[(13,nI x0),(12,nI (y1.length:Int)),(6,sI (.h 0) x1),(1, .d (.clo (.func 102) [] [.cp [.lst (List.map (D.int .i64) a1)] 0, .cp [.int .i64 a2] 0]))],[]⟩
def zJR (a1:List Int) (a2:Int) (y1:List Int) (x:(List Int)):St:=⟨[(6,sI (.h 1) x)],[]⟩
theorem zJh (a1:List Int) (a2:Int) (y1:List Int):∀(x0:Int) (x1:List Int),Ok (zA7 a1 a2 y1 x0 x1) (LR zE0 (.exit 0) (zJR a1 a2 y1) 101 0 (zJP a1 a2 y1 x0 x1)):=by
 refine zA7.partial_correctness a1 a2 y1 _ ?_
 intro f IH x0 x1
 exact Tr.lpR (F:=zE0) (X:=Int×(List Int))
  (.ite 6 14 (x0<(y1.length:Int))
   (.call 19 (zNG x0 a1 a2) zAe fun r3=> .idx 3 eI x1 x0<| .sto 0 [6] eI x1 x0 r3.1<| .let_ (x1.set (Int.toNat x0) r3.1:List Int) fun y4=> .iteN 7 26 (r3.2=0)
   (.ret 11 (.inl ([],r3.2)))
   (.again 7 (IntKind.i64.wrap (x0+1),y4)))
   (.ret 4 (.inr x1))) _ fun x r=>IH x.1 x.2 r
theorem zKN (a0:Int) (a1:List Int) (a2:Int):HS 101 (zEW a0 a1 a2) [.int .i64 a0, .clo (.func 102) [] [.cp [.lst (List.map (D.int .i64) a1)] 0, .cp [.int .i64 a2] 0]] zAf:=Tr.fn (F:=zE0)
 (.mk 8 eI 8 0 a0 a0<| .let_ (List.replicate (Int.toNat a0) 0:List Int) fun y1=> .len 6 eI y1<| .loopR 4 id ⟨_,_,_,_,_,zJh a1 a2 y1 0 y1⟩ fun j6=> .ret 8 (j6,0))
noncomputable abbrev zVA:Fe:= .of Tryz.prog 74 zAf
theorem zUi (a0:List Int) (a1:Int):HS 74 (zJj a0 a1) [.lst (List.map (D.int .i64) a0), .int .i64 a1] zAf:=Tr.fn (F:=zVA)
 (.call 10 (zF8 a0) zAs fun r1=> .join 8 0 (γ:=Int) ⟨fun x=>[(6,nI x)],[3,2],fun _=>[],[.s 31, .s 15]⟩
  (.ite 0 10 (r1=0)
  (.call 3 (zNX 0 a1) zAe fun r2=> .ret 5 r2.2)
  (.ret 2 r1))
  fun j3=> .iteN 6 17 (j3=0)
  (.ret 9 ([],j3))
  (.len 5 eI a0<| .call 1 (zKN (a0.length:Int) a0 a1) zAt fun r4=> .ret 6 (r4.1,r4.2)))
noncomputable abbrev zSC:Fe:= .of Tryz.prog 37 zAf
theorem zRC (a0:zAc) (a1:List Int) (a2:Int) (a3:List zAa):HS 37 (zHN a0 a1 a2 a3) [.agg [.int .i64 a0.F_Kind, .int .i64 a0.F_In, .int .i64 a0.F_Out, .int .i64 a0.F_Hid, .int .i64 a0.F_Frac], .lst (List.map (D.int .i64) a1), .int .i64 a2, .lst (List.map zAa.en a3)] zAf:=Tr.fn (F:=zSC)
 (.call 11 (zRi a0 a1 a3) zAt fun r1=> .iteN 12 20 (r1.2=0)
  (.ret 9 ([],r1.2))
  (.call 6 (zUi r1.1 a2) zAt fun r2=> .ret 6 (r2.1,r2.2)))
noncomputable abbrev zK1:Fe:= .of Tryz.prog 21 zAf
def zQL (a0:zAl) (a3:List Int) (r1:(List Int)×Int) (x0:Int) (x1:List zAa):St:=⟨[(30,nI x0),(29,nI (r1.1.length:Int)),(28,sI (.s 1648) r1.1),(12, .sl (.h 0) 2 0 (List.map zAa.en x1)),(4, .ptr (.s 15) 0),(3,lI a3)],[(.s 15,[nI a0.F_N,nI a0.F_M.F_Kind,nI a0.F_M.F_In,nI a0.F_M.F_Out,nI a0.F_M.F_Hid,nI a0.F_M.F_Frac,nI a0.F_H.F_Scheme,nI a0.F_H.F_K,nI a0.F_H.F_Wide,nI a0.F_Warm,nI a0.F_Rate,nI a0.F_Mom,nI a0.F_Clip,nI a0.F_Batch,nU a0.F_Seed, .d (.lst (List.map zAa.en a0.F_L))])]⟩
def zQu (a0:zAl) (a3:List Int) (r1:(List Int)×Int) (x:(List zAa)):St:=⟨[(12, .sl (.h 1) 2 0 (List.map zAa.en x)),(4, .ptr (.s 15) 0),(3,lI a3)],[(.s 15,[nI a0.F_N,nI a0.F_M.F_Kind,nI a0.F_M.F_In,nI a0.F_M.F_Out,nI a0.F_M.F_Hid,nI a0.F_M.F_Frac,nI a0.F_H.F_Scheme,nI a0.F_H.F_K,nI a0.F_H.F_Wide,nI a0.F_Warm,nI a0.F_Rate,nI a0.F_Mom,nI a0.F_Clip,nI a0.F_Batch,nU a0.F_Seed, .d (.lst (List.map zAa.en a0.F_L))])]⟩
theorem zPX (a0:zAl) (a3:List Int) (r1:(List Int)×Int):∀(x0:Int) (x1:List zAa),Ok (zDH a0 a3 r1 x0 x1) (LN zK1 (.exit 0) (zQu a0 a3 r1) 21 0 (zQL a0 a3 r1 x0 x1)):=by
 refine zDH.partial_correctness a0 a3 r1 _ ?_
 intro f IH x0 x1
 exact Tr.lpN (F:=zK1) (X:=Int×(List zAa))
  (.ite 6 31 (x0<(r1.1.length:Int))
   (.idx 6 eI r1.1 x0<| .idx 8 zAa.e a0.F_L (at' r1.1 x0)<| .app 2 zAa.e 32 x1 [at' a0.F_L (at' r1.1 x0)]<| .let_ (x1++[at' a0.F_L (at' r1.1 x0)]:List zAa) fun y4=> .again 7 (IntKind.i64.wrap (x0+1),y4))
   (.ret 4 x1)) _ fun x r=>IH x.1 x.2 r
theorem zSr (a0:zAl) (a1:Int) (a2:Int) (a3:List Int):HS 21 (zG3 a0 a1 a2 a3) [.agg [.int .i64 a0.F_N, .int .i64 a0.F_M.F_Kind, .int .i64 a0.F_M.F_In, .int .i64 a0.F_M.F_Out, .int .i64 a0.F_M.F_Hid, .int .i64 a0.F_M.F_Frac, .int .i64 a0.F_H.F_Scheme, .int .i64 a0.F_H.F_K, .int .i64 a0.F_H.F_Wide, .int .i64 a0.F_Warm, .int .i64 a0.F_Rate, .int .i64 a0.F_Mom, .int .i64 a0.F_Clip, .int .i64 a0.F_Batch, .int .u64 a0.F_Seed, .lst (List.map zAa.en a0.F_L)], .int .i64 a1, .int .i64 a2, .lst (List.map (D.int .i64) a3)] zAf:=Tr.fn (F:=zK1)
 (.call 11 (zI0 a0 a1 a2) zAt fun r1=> .iteN 12 23 (r1.2=0)
  (.ret 9 ([],r1.2))
  (.len 5 eI r1.1<| .mk 0 zAa.e 32 (⟨[],0⟩:zAa) 0 (r1.1.length:Int)<| .let_ (List.replicate (Int.toNat 0) (⟨[],0⟩:zAa):List zAa) fun y2=> .len 6 eI r1.1<| .loop 4 ⟨_,_,_,_,_,zPX a0 a3 r1 0 y2⟩ fun j6=> .call 9 (zRC a0.F_M a3 a0.F_Clip j6) zAt fun r7=> .ret 6 (r7.1,r7.2)))
noncomputable abbrev zDa:Fe:= .of Tryz.prog 7 zAd
def zJV (a0:zAl) (a1:Int) (a2:Int) (a3:List Int) (r1:Bool) (r4:(List Int)×Int) (x0:Int) (x1:List Bool):St:=⟨[(57,nI x0),(56,nI (r4.1.length:Int)),(55,sI (.s 9648) r4.1),(12,sB (.h 0) x1),(10,sI (.s 9648) r4.1),(9,bB r1),(4, .ptr (.s 15) 0),(1,nI a1),(2,nI a2),(3,lI a3)],[(.s 15,[nI a0.F_N,nI a0.F_M.F_Kind,nI a0.F_M.F_In,nI a0.F_M.F_Out,nI a0.F_M.F_Hid,nI a0.F_M.F_Frac,nI a0.F_H.F_Scheme,nI a0.F_H.F_K,nI a0.F_H.F_Wide,nI a0.F_Warm,nI a0.F_Rate,nI a0.F_Mom,nI a0.F_Clip,nI a0.F_Batch,nU a0.F_Seed, .d (.lst (List.map zAa.en a0.F_L))])]⟩
def zJS (a0:zAl) (a1:Int) (a2:Int) (a3:List Int) (r1:Bool) (r4:(List Int)×Int) (x:Unit):St:=⟨[(10,sI (.s 9648) r4.1),(9,bB r1),(4, .ptr (.s 15) 0),(1,nI a1),(2,nI a2),(3,lI a3)],[(.s 15,[nI a0.F_N,nI a0.F_M.F_Kind,nI a0.F_M.F_In,nI a0.F_M.F_Out,nI a0.F_M.F_Hid,nI a0.F_M.F_Frac,nI a0.F_H.F_Scheme,nI a0.F_H.F_K,nI a0.F_H.F_Wide,nI a0.F_Warm,nI a0.F_Rate,nI a0.F_Mom,nI a0.F_Clip,nI a0.F_Batch,nU a0.F_Seed, .d (.lst (List.map zAa.en a0.F_L))])]⟩
theorem zJc (a0:zAl) (a1:Int) (a2:Int) (a3:List Int) (r1:Bool) (r4:(List Int)×Int):∀(x0:Int) (x1:List Bool),Ok (zBt a0 a1 a2 a3 r1 r4 x0 x1) (LR zDa (.exit 0) (zJS a0 a1 a2 a3 r1 r4) 7 0 (zJV a0 a1 a2 a3 r1 r4 x0 x1)):=by
 refine zBt.partial_correctness a0 a1 a2 a3 r1 r4 _ ?_
 intro f IH x0 x1
 exact Tr.lpR (F:=zDa) (X:=Int×(List Bool))
  (.ite 6 58 (x0<(r4.1.length:Int))
   (.idx 6 eI r4.1 x0<| .join 9 5 (γ:=Bool) ⟨fun x=>[(68,bB x)],[14,57,56,55,12,10,9,4,1,2,3],fun _=>[],[.s 15]⟩
   (.ite 0 63 ((at' r4.1 x0)<0)
   (.ret 6 true)
   (.len 2 eB x1<| .ret 3 (decide ((at' r4.1 x0)≥(x1.length:Int)))))
   fun j8=> .join 1 5 (γ:=Bool) ⟨fun x=>[(74,bB x)],[14,57,56,55,12,10,9,4,1,2,3],fun _=>[],[.s 15]⟩
   (.iteB 0 69 (j8)
   (.ret 6 true)
   (.idx 2 eB x1 (at' r4.1 x0)<| .ret 3 (at' x1 (at' r4.1 x0))))
   fun j9=> .iteB 1 74 (j9)
   (.ret 10 (.inl false))
   (.idx 5 eB x1 (at' r4.1 x0)<| .sto 0 [12] eB x1 (at' r4.1 x0) true<| .let_ (x1.set (Int.toNat (at' r4.1 x0)) true:List Bool) fun y10=> .again 6 (IntKind.i64.wrap (x0+1),y10)))
   (.ret 4 (.inr ()))) _ fun x r=>IH x.1 x.2 r
def zJ3 (a0:zAl) (r1:Bool) (r17:(List Int)×Int) (r19:Int×Int) (x0:Int):St:=⟨[(129,nI x0),(128,nI (r17.1.length:Int)),(127,sI (.s 38464) r17.1),(21,nI r19.2),(20,nI r19.1),(18,sI (.s 38464) r17.1),(9,bB r1),(4, .ptr (.s 15) 0)],[(.s 15,[nI a0.F_N,nI a0.F_M.F_Kind,nI a0.F_M.F_In,nI a0.F_M.F_Out,nI a0.F_M.F_Hid,nI a0.F_M.F_Frac,nI a0.F_H.F_Scheme,nI a0.F_H.F_K,nI a0.F_H.F_Wide,nI a0.F_Warm,nI a0.F_Rate,nI a0.F_Mom,nI a0.F_Clip,nI a0.F_Batch,nU a0.F_Seed, .d (.lst (List.map zAa.en a0.F_L))])]⟩
def zJU (a0:zAl) (r1:Bool) (r17:(List Int)×Int) (r19:Int×Int) (x:Unit):St:=⟨[(21,nI r19.2),(20,nI r19.1),(18,sI (.s 38464) r17.1),(9,bB r1)],[]⟩
theorem zJr (a0:zAl) (r1:Bool) (r17:(List Int)×Int) (r19:Int×Int):∀(x0:Int),Ok (zBs a0 r1 r17 r19 x0) (LR zDa (.exit 2) (zJU a0 r1 r17 r19) 7 1 (zJ3 a0 r1 r17 r19 x0)):=by
 refine zBs.partial_correctness a0 r1 r17 r19 _ ?_
 intro f IH x0
 exact Tr.lpR (F:=zDa) (X:=Int)
  (.ite 6 130 (x0<(r17.1.length:Int))
   (.idx 6 eI r17.1 x0<| .join 10 6 (γ:=Bool) ⟨fun x=>[(143,bB x)],[129,128,127,21,20,18,9,4],fun _=>[],[.s 15]⟩
   (.ite 0 137 ((at' r17.1 x0)>a0.F_Clip)
   (.ret 7 true)
   (.ret 7 (decide ((at' r17.1 x0)<(IntKind.i64.wrap (0-a0.F_Clip))))))
   fun j20=> .iteB 1 143 (j20)
   (.ret 9 (.inl false))
   (.again 7 (IntKind.i64.wrap (x0+1))))
   (.ret 4 (.inr ()))) _ fun x r=>IH x r
theorem zKR (a0:zAl) (a1:Int) (a2:Int) (a3:List Int):HS 7 (zFb a0 a1 a2 a3) [.agg [.int .i64 a0.F_N, .int .i64 a0.F_M.F_Kind, .int .i64 a0.F_M.F_In, .int .i64 a0.F_M.F_Out, .int .i64 a0.F_M.F_Hid, .int .i64 a0.F_M.F_Frac, .int .i64 a0.F_H.F_Scheme, .int .i64 a0.F_H.F_K, .int .i64 a0.F_H.F_Wide, .int .i64 a0.F_Warm, .int .i64 a0.F_Rate, .int .i64 a0.F_Mom, .int .i64 a0.F_Clip, .int .i64 a0.F_Batch, .int .u64 a0.F_Seed, .lst (List.map zAa.en a0.F_L)], .int .i64 a1, .int .i64 a2, .lst (List.map (D.int .i64) a3)] zAd:=Tr.fn (F:=zDa)
 (.call 7 zMH zAg fun r1=> .iteX 8 26 (r1)
  (.ret 7 false)
  (.call 6 (zNF a0) zAg fun r2=> .join 2 4 (γ:=Bool) ⟨fun x=>[(34,bB x)],[9,4,1,2,3],fun _=>[],[.s 15]⟩
  (.iteX 0 30 (r2)
  (.ret 5 true)
  (.len 1 eI a3<| .ret 3 (decide ((a3.length:Int)>500))))
  fun j3=> .iteB 1 34 (j3)
  (.ret 8 r1)
  (.call 7 (zI0 a0 a1 a2) zAt fun r4=> .iteN 12 44 (r4.2=0)
  (.join 5 4 (γ:=Bool) ⟨fun x=>[(50,bB x)],[],fun _=>[],[]⟩
  (.iteB 0 46 (r1)
  (.len 1 eI r4.1<| .ret 3 ((r4.1.length:Int)==0))
  (.ret 5 false))
  fun j5=> .ret 4 j5)
  (.len 6 zAa.e a0.F_L<| .mk 0 eB 1 false (a0.F_L.length:Int) (a0.F_L.length:Int)<| .let_ (List.replicate (Int.toNat (a0.F_L.length:Int)) false:List Bool) fun y6=> .len 6 eI r4.1<| .loopR 4 id ⟨_,_,_,_,_,zJc a0 a1 a2 a3 r1 r4 0 y6⟩ fun j12=> .call 27 (zI0 (⟨64,a0.F_M,a0.F_H,a0.F_Warm,0,a0.F_Mom,0,a0.F_Batch,a0.F_Seed,a0.F_L⟩:zAl) a1 a2) zAt fun r13=> .len 10 eI r4.1<| .join 4 3 (γ:=Bool) ⟨fun x=>[(98,bB x)],[16,10,9,4,1,2,3],fun _=>[],[.s 15]⟩
  (.iteN 0 95 ((r4.1.length:Int)=a0.F_Batch)
  (.ret 4 true)
  (.ret 4 (r13.2 !=0)))
  fun j14=> .join 1 5 (γ:=Bool) ⟨fun x=>[(104,bB x)],[9,4,1,2,3],fun _=>[],[.s 15]⟩
  (.iteB 0 99 (j14)
  (.ret 6 true)
  (.call 2 (zMj r13.1 r4.1) zAg fun r15=> .ret 3 (!r15)))
  fun j16=> .iteB 1 104 (j16)
  (.ret 7 false)
  (.call 8 (zSr a0 a1 a2 a3) zAt fun r17=> .iteN 12 114 (r17.2=0)
  (.join 5 4 (γ:=Bool) ⟨fun x=>[(120,bB x)],[],fun _=>[],[]⟩
  (.iteB 0 116 (r1)
  (.len 1 eI r17.1<| .ret 3 ((r17.1.length:Int)==0))
  (.ret 5 false))
  fun j18=> .ret 4 j18)
  (.call 6 (zME a0.F_M) zAe fun r19=> .len 10 eI r17.1<| .loopR 4 id ⟨_,_,_,_,_,zJr a0 r1 r17 r19 0⟩ fun j21=> .join 5 3 (γ:=Bool) ⟨fun x=>[(149,bB x)],[20,18],fun _=>[],[]⟩
  (.iteB 0 146 (r1)
  (.ret 4 (r19.2==0))
  (.ret 4 false))
  fun j22=> .join 1 5 (γ:=Bool) ⟨fun x=>[(155,bB x)],[],fun _=>[],[]⟩
  (.iteB 0 150 (j22)
  (.len 1 eI r17.1<| .ret 4 ((r17.1.length:Int)==r19.1))
  (.ret 6 false))
  fun j23=> .ret 3 j23))))))
end Go.Proofs.YtnmlihfpenjeiaaGreat.Abs
