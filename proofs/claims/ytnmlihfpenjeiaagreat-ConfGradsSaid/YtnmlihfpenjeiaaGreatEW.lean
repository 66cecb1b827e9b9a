/- Walks of functions, printed by a program. Conditions: none. -/
import Derived.Test.YtnmlihfpenjeiaaGreatProg
import Derived.Test.YtnmlihfpenjeiaaGreatAbsG8
import Derived.Test.YtnmlihfpenjeiaaGreatEM
namespace Go.Proofs.YtnmlihfpenjeiaaGreat.Abs
open Go Go.RowKit
set_option linter.unusedVariables false
set_option maxRecDepth 100000
open Z
def zAf.e:Enc zAf:=⟨zAf.en,5,fun _=>rfl⟩
def zBa.e:Enc zBa:=⟨zBa.en,3,fun _=>rfl⟩
def zAa.e:Enc zAa:=⟨zAa.en,2,fun _=>rfl⟩
def zAq.e:Enc zAq:=⟨zAq.en,16,fun _=>rfl⟩
def zAv.e:Enc zAv:=⟨zAv.en,5,fun _=>rfl⟩
def zAx.e:Enc zAx:=⟨zAx.en,5,fun _=>rfl⟩
def zAE.e:Enc zAE:=⟨zAE.en,5,fun _=>rfl⟩
def zBK.e:Enc zBK:=⟨zBK.en,2,fun _=>rfl⟩
def zES.e:Enc zES:=⟨zES.en,1,fun _=>rfl⟩
def zBj.e:Enc zBj:=⟨zBj.en,3,fun _=>rfl⟩
abbrev HS {ρ:Type} (n:Nat) (m:Option ρ) (ds:List D) (en:ρ→PV):Prop:=Sg.Holds (P:=Tryz.prog) ⟨n,m,ds,en⟩
abbrev HG {ρ:Type} (n:Nat) (m:Option ρ) (ps:List PV) (bx:List (Tg×List PV)) (en:ρ→PV) (bx':ρ→List (Tg×List PV)):Prop:=SgG.Holds (P:=Tryz.prog) ⟨n,m,ps,bx,en,bx'⟩
def zAi (v:Bool):PV:=bB v
noncomputable abbrev zQY:Fe:= .of Tryz.prog 24 zAi
theorem zAk:∀v,(zAi v).noLst:=fun _=>trivial
theorem zBM (a0:Int) (a1:Int) (a2:Int):HS 24 (zBd a0 a1 a2) [.int .i64 a0, .int .i64 a1, .int .i64 a2] zAi:=Tr.fn (F:=zQY)
 (.join 10 4 (γ:=Bool) ⟨fun x=>[(14,bB x)],[],fun _=>[],[]⟩
  (.ite 0 10 (a0≥a1)
  (.ret 5 (decide (a0≤a2)))
  (.ret 5 false))
  fun j1=> .ret 3 j1)
def zAe (v:Int×Int):PV:= .tup [nI v.1,nI v.2]
noncomputable abbrev zXC:Fe:= .of Tryz.prog 17 zAe
theorem zAd:∀v,(zAe v).noLst:=fun _=>⟨trivial,trivial,trivial⟩
theorem zXh (a0:Int) (a1:Int) (a2:Int) (a3:Int):HS 17 (zDQ a0 a1 a2 a3) [.int .i64 a0, .int .i64 a1, .int .i64 a2, .int .i64 a3] zAe:=Tr.fn (F:=zXC)
 (.call 10 (zBM a0 1 4096) zAk fun r1=> .join 2 5 (γ:=Bool) ⟨fun x=>[(19,bB x)],[0,1,2,3],fun _=>[],[]⟩
  (.iteX 0 14 (r1)
  (.ret 6 true)
  (.call 2 (zBM a1 0 a0) zAk fun r2=> .ret 3 (!r2)))
  fun j3=> .join 1 4 (γ:=Bool) ⟨fun x=>[(24,bB x)],[0,1,2,3],fun _=>[],[]⟩
  (.iteB 0 20 (j3)
  (.ret 5 true)
  (.call 1 (zBM a2 0 1048576) zAk fun r4=> .ret 3 (!r4)))
  fun j5=> .join 1 4 (γ:=Bool) ⟨fun x=>[(29,bB x)],[0,1,2,3],fun _=>[],[]⟩
  (.iteB 0 25 (j5)
  (.ret 5 true)
  (.call 1 (zBM a3 0 1073741824) zAk fun r6=> .ret 3 (!r6)))
  fun j7=> .iteB 2 10 (j7)
  (.ret 9 (0,1))
  (.ite 8 30 (a3≥a2)
  (.ret 10 (a1,0))
  (.rd 12 (a2≠0) (nI (IntKind.i64.wrap (Int.tdiv (IntKind.i64.wrap ((IntKind.i64.wrap (a0-a1))*a3)) a2)))<| .ret 5 (IntKind.i64.wrap (a0-(IntKind.i64.wrap (Int.tdiv (IntKind.i64.wrap ((IntKind.i64.wrap (a0-a1))*a3)) a2))),0))))
noncomputable abbrev zVY:Fe:= .of Tryz.prog 216 zAe
theorem zGm (a0:Int):HS 216 (zD0 a0) [.int .i64 a0] zAe:=Tr.fn (F:=zVY)
 (.join 11 3 (γ:=Bool) ⟨fun x=>[(9,bB x)],[0],fun _=>[],[]⟩
  (.ite 0 6 (a0<1)
  (.ret 4 true)
  (.ret 4 (decide (a0>16))))
  fun j1=> .iteB 1 9 (j1)
  (.ret 8 (0,1))
  (.ret 10 (IntKind.i64.wrap (a0+1),0)))
noncomputable abbrev zJN:Fe:= .of Tryz.prog 212 zAe
theorem zCZ (a0:zAv):HS 212 (zBt a0) [.agg [.int .i64 a0.F_Model.F_Kind, .int .i64 a0.F_Model.F_In, .int .i64 a0.F_Model.F_Out, .int .i64 a0.F_Model.F_Hid, .int .i64 a0.F_Model.F_Frac]] zAe:=Tr.fn (F:=zJN)
 (.call 11 (zGm a0.F_Model.F_In) zAd fun r1=> .ret 6 (r1.1,r1.2))
noncomputable abbrev zTT:Fe:= .of Tryz.prog 248 zAi
theorem zK8 (a0:Int):HS 248 (zFQ a0) [.int .i64 a0] zAi:=Tr.fn (F:=zTT)
 (.join 9 3 (γ:=Bool) ⟨fun x=>[(8,bB x)],[],fun _=>[],[]⟩
  (.ite 0 5 (a0>1)
  (.ret 4 (decide (a0≤8)))
  (.ret 4 false))
  fun j1=> .ret 3 j1)
noncomputable abbrev zZm:Fe:= .of Tryz.prog 245 zAe
theorem zRm (a0:Int) (a1:Int):HS 245 (zIL a0 a1) [.int .i64 a0, .int .i64 a1] zAe:=Tr.fn (F:=zZm)
 (.call 8 (zGm a0) zAd fun r1=> .join 12 4 (γ:=Bool) ⟨fun x=>[(19,bB x)],[6,1],fun _=>[],[]⟩
  (.iteN 0 15 (r1.2=0)
  (.ret 5 true)
  (.call 1 (zK8 a1) zAk fun r2=> .ret 3 (!r2)))
  fun j3=> .iteB 1 19 (j3)
  (.ret 8 (0,1))
  (.ret 11 (IntKind.i64.wrap (r1.1*a1),0)))
noncomputable abbrev zKw:Fe:= .of Tryz.prog 241 zAe
theorem zC8 (a0:zAx):HS 241 (zBz a0) [.agg [.int .i64 a0.F_Model.F_Kind, .int .i64 a0.F_Model.F_In, .int .i64 a0.F_Model.F_Out, .int .i64 a0.F_Model.F_Hid, .int .i64 a0.F_Model.F_Frac]] zAe:=Tr.fn (F:=zKw)
 (.call 14 (zRm a0.F_Model.F_In a0.F_Model.F_Out) zAd fun r1=> .ret 6 (r1.1,r1.2))
noncomputable abbrev zXm:Fe:= .of Tryz.prog 275 zAi
theorem zP2 (a0:Int):HS 275 (zHK a0) [.int .i64 a0] zAi:=Tr.fn (F:=zXm)
 (.join 9 3 (γ:=Bool) ⟨fun x=>[(8,bB x)],[],fun _=>[],[]⟩
  (.ite 0 5 (a0>0)
  (.ret 4 (decide (a0≤8)))
  (.ret 4 false))
  fun j1=> .ret 3 j1)
noncomputable abbrev zAaq:Fe:= .of Tryz.prog 272 zAe
theorem zNb (a0:Int) (a1:Int):HS 272 (zIc a0 a1) [.int .i64 a0, .int .i64 a1] zAe:=Tr.fn (F:=zAaq)
 (.call 8 (zGm a0) zAd fun r1=> .join 12 4 (γ:=Bool) ⟨fun x=>[(19,bB x)],[6,1],fun _=>[],[]⟩
  (.iteN 0 15 (r1.2=0)
  (.ret 5 true)
  (.call 1 (zP2 a1) zAk fun r2=> .ret 3 (!r2)))
  fun j3=> .iteB 1 19 (j3)
  (.ret 8 (0,1))
  (.ret 14 (IntKind.i64.wrap ((IntKind.i64.wrap ((IntKind.i64.wrap (a1*r1.1))+a1))+1),0)))
noncomputable abbrev zKF:Fe:= .of Tryz.prog 268 zAe
theorem zDp (a0:zAE):HS 268 (zBF a0) [.agg [.int .i64 a0.F_Model.F_Kind, .int .i64 a0.F_Model.F_In, .int .i64 a0.F_Model.F_Out, .int .i64 a0.F_Model.F_Hid, .int .i64 a0.F_Model.F_Frac]] zAe:=Tr.fn (F:=zKF)
 (.call 14 (zNb a0.F_Model.F_In a0.F_Model.F_Hid) zAd fun r1=> .ret 6 (r1.1,r1.2))
def zLE:zAt→PV
 | .inl v=> .tup [.d (.nilif),nI v.1,nI v.2]
 | .inr (.inl v)=> .tup [.ifc 78 (.agg [nI v.1,nI v.2.1,nI v.2.2.1,nI v.2.2.2.1,nI v.2.2.2.2.1]),nI v.2.2.2.2.2.1,nI v.2.2.2.2.2.2]
 | .inr (.inr (.inl v))=> .tup [.ifc 79 (.agg [nI v.1,nI v.2.1,nI v.2.2.1,nI v.2.2.2.1,nI v.2.2.2.2.1]),nI v.2.2.2.2.2.1,nI v.2.2.2.2.2.2]
 | .inr (.inr (.inr v))=> .tup [.ifc 80 (.agg [nI v.1,nI v.2.1,nI v.2.2.1,nI v.2.2.2.1,nI v.2.2.2.2.1]),nI v.2.2.2.2.2.1,nI v.2.2.2.2.2.2]
noncomputable abbrev zYK:Fe:= .of Tryz.prog 29 zLE
theorem zLV:∀v,(zLE v).noLst
 | .inl _=>⟨trivial,trivial,trivial,trivial⟩
 | .inr (.inl _)=>⟨⟨trivial,trivial,trivial,trivial,trivial,trivial⟩,trivial,trivial,trivial⟩
 | .inr (.inr (.inl _))=>⟨⟨trivial,trivial,trivial,trivial,trivial,trivial⟩,trivial,trivial,trivial⟩
 | .inr (.inr (.inr _))=>⟨⟨trivial,trivial,trivial,trivial,trivial,trivial⟩,trivial,trivial,trivial⟩
theorem zLD (a0:zAf):HS 29 (zFY a0) [.agg [.int .i64 a0.F_Kind, .int .i64 a0.F_In, .int .i64 a0.F_Out, .int .i64 a0.F_Hid, .int .i64 a0.F_Frac]] zLE:=Tr.fn (F:=zYK)
 (.look 30<| .lk a0.F_Kind 0
  (.join 17 4 (γ:=Bool) ⟨fun x=>[(39,bB x)],[6,1],fun _=>[],[.s 15]⟩
  (.ite 0 35 (a0.F_Frac<0)
  (.ret 5 true)
  (.ret 5 (decide (a0.F_Frac>30))))
  fun j1=> .iteB 1 40 (j1)
  (.ret 29 (.inl (0,1):zAt))
  (.iteN 4 44 (a0.F_Kind=1)
  (.iteN 6 50 (a0.F_Out=0)
  (.ret 19 (.inl (0,1):zAt))
  (.iteN 4 54 (a0.F_Kind=2)
  (.iteN 6 59 (a0.F_Hid=0)
  (.ret 9 (.inl (0,1):zAt))
  (.call 5 (zCZ (⟨a0⟩:zAv)) zAd fun r2=> .ret 16 (.inr (.inl (a0.F_Kind,a0.F_In,a0.F_Out,a0.F_Hid,a0.F_Frac,r2.1,r2.2)):zAt)))
  (.call 11 (zCZ (⟨a0⟩:zAv)) zAd fun r3=> .ret 16 (.inr (.inl (a0.F_Kind,a0.F_In,a0.F_Out,a0.F_Hid,a0.F_Frac,r3.1,r3.2)):zAt))))
  (.iteN 10 54 (a0.F_Kind=2)
  (.iteN 6 59 (a0.F_Hid=0)
  (.ret 9 (.inl (0,1):zAt))
  (.call 5 (zCZ (⟨a0⟩:zAv)) zAd fun r4=> .ret 16 (.inr (.inl (a0.F_Kind,a0.F_In,a0.F_Out,a0.F_Hid,a0.F_Frac,r4.1,r4.2)):zAt)))
  (.call 11 (zCZ (⟨a0⟩:zAv)) zAd fun r5=> .ret 16 (.inr (.inl (a0.F_Kind,a0.F_In,a0.F_Out,a0.F_Hid,a0.F_Frac,r5.1,r5.2)):zAt)))))
  (.lk a0.F_Kind 1
  (.join 17 4 (γ:=Bool) ⟨fun x=>[(39,bB x)],[6,1],fun _=>[],[.s 15]⟩
  (.ite 0 35 (a0.F_Frac<0)
  (.ret 5 true)
  (.ret 5 (decide (a0.F_Frac>30))))
  fun j6=> .iteB 1 40 (j6)
  (.ret 29 (.inl (0,1):zAt))
  (.iteN 4 44 (a0.F_Kind=1)
  (.iteN 6 50 (a0.F_Out=0)
  (.ret 19 (.inl (0,1):zAt))
  (.iteN 4 54 (a0.F_Kind=2)
  (.iteN 6 59 (a0.F_Hid=0)
  (.ret 9 (.inl (0,1):zAt))
  (.call 5 (zC8 (⟨a0⟩:zAx)) zAd fun r7=> .ret 16 (.inr (.inr (.inl (a0.F_Kind,a0.F_In,a0.F_Out,a0.F_Hid,a0.F_Frac,r7.1,r7.2))):zAt)))
  (.call 11 (zC8 (⟨a0⟩:zAx)) zAd fun r8=> .ret 16 (.inr (.inr (.inl (a0.F_Kind,a0.F_In,a0.F_Out,a0.F_Hid,a0.F_Frac,r8.1,r8.2))):zAt))))
  (.iteN 10 54 (a0.F_Kind=2)
  (.iteN 6 59 (a0.F_Hid=0)
  (.ret 9 (.inl (0,1):zAt))
  (.call 5 (zC8 (⟨a0⟩:zAx)) zAd fun r9=> .ret 16 (.inr (.inr (.inl (a0.F_Kind,a0.F_In,a0.F_Out,a0.F_Hid,a0.F_Frac,r9.1,r9.2))):zAt)))
  (.call 11 (zC8 (⟨a0⟩:zAx)) zAd fun r10=> .ret 16 (.inr (.inr (.inl (a0.F_Kind,a0.F_In,a0.F_Out,a0.F_Hid,a0.F_Frac,r10.1,r10.2))):zAt)))))
  (.lk a0.F_Kind 2
  (.join 17 4 (γ:=Bool) ⟨fun x=>[(39,bB x)],[6,1],fun _=>[],[.s 15]⟩
  (.ite 0 35 (a0.F_Frac<0)
  (.ret 5 true)
  (.ret 5 (decide (a0.F_Frac>30))))
  fun j11=> .iteB 1 40 (j11)
  (.ret 29 (.inl (0,1):zAt))
  (.iteN 4 44 (a0.F_Kind=1)
  (.iteN 6 50 (a0.F_Out=0)
  (.ret 19 (.inl (0,1):zAt))
  (.iteN 4 54 (a0.F_Kind=2)
  (.iteN 6 59 (a0.F_Hid=0)
  (.ret 9 (.inl (0,1):zAt))
  (.call 5 (zDp (⟨a0⟩:zAE)) zAd fun r12=> .ret 16 (.inr (.inr (.inr (a0.F_Kind,a0.F_In,a0.F_Out,a0.F_Hid,a0.F_Frac,r12.1,r12.2))):zAt)))
  (.call 11 (zDp (⟨a0⟩:zAE)) zAd fun r13=> .ret 16 (.inr (.inr (.inr (a0.F_Kind,a0.F_In,a0.F_Out,a0.F_Hid,a0.F_Frac,r13.1,r13.2))):zAt))))
  (.iteN 10 54 (a0.F_Kind=2)
  (.iteN 6 59 (a0.F_Hid=0)
  (.ret 9 (.inl (0,1):zAt))
  (.call 5 (zDp (⟨a0⟩:zAE)) zAd fun r14=> .ret 16 (.inr (.inr (.inr (a0.F_Kind,a0.F_In,a0.F_Out,a0.F_Hid,a0.F_Frac,r14.1,r14.2))):zAt)))
  (.call 11 (zDp (⟨a0⟩:zAE)) zAd fun r15=> .ret 16 (.inr (.inr (.inr (a0.F_Kind,a0.F_In,a0.F_Out,a0.F_Hid,a0.F_Frac,r15.1,r15.2))):zAt)))))
  (.lk0<| .ret 51 (.inl (0,1):zAt)))))
noncomputable abbrev zXL:Fe:= .of Tryz.prog 11 zAe
theorem zVx (a0:zAf):HS 11 (zHM a0) [.agg [.int .i64 a0.F_Kind, .int .i64 a0.F_In, .int .i64 a0.F_Out, .int .i64 a0.F_Hid, .int .i64 a0.F_Frac]] zAe:=Tr.fn (F:=zXL)
 (.callS4 9 (zLD a0) zLV
  (fun r1=> .ret 16 (r1.1,r1.2))
  (fun r2=> .ret 16 (r2.2.2.2.2.2.1,r2.2.2.2.2.2.2))
  (fun r3=> .ret 16 (r3.2.2.2.2.2.1,r3.2.2.2.2.2.2))
  (fun r4=> .ret 16 (r4.2.2.2.2.2.1,r4.2.2.2.2.2.2)))
def zOk (v:Unit):PV:= .ptr (.s 14) 0
def zOq (v:Unit):List (Tg×List PV):=[(.s 14,[.d (.int .i64 0), .d (.agg [.clo (.func 40) [] [], .clo (.func 41) [] [], .clo (.func 42) [] [], .clo (.func 44) [] []]), .d (.int .i64 1), .d (.agg [.clo (.func 46) [] [], .clo (.func 47) [] [], .clo (.func 49) [] [], .clo (.func 51) [] []]), .d (.int .i64 2), .d (.agg [.clo (.func 53) [] [], .clo (.func 54) [] [], .clo (.func 56) [] [], .clo (.func 57) [] []]), .d (.int .i64 3), .d (.agg [.clo (.func 40) [] [], .clo (.func 59) [] [], .clo (.func 61) [] [], .clo (.func 62) [] []])])]
noncomputable abbrev zW6:Fe:= .of Tryz.prog 31 zOk zOq
theorem zOo:HG 31 zKG [] [] zOk zOq:=Tr.fnG (F:=zW6)
 (.ret 19 ())
noncomputable abbrev zWi:Fe:= .of Tryz.prog 40 zAi
theorem zHR (a0:zBa) (a1:Int):HS 40 (zG4 a0 a1) [.agg [.int .i64 a0.F_Scheme, .int .i64 a0.F_K, .int .i64 a0.F_Wide], .int .i64 a1] zAi:=Tr.fn (F:=zWi)
 (.join 11 4 (γ:=Bool) ⟨fun x=>[(12,bB x)],[],fun _=>[],[]⟩
  (.ite 0 8 (a0.F_K=0)
  (.ret 5 (a0.F_Wide==0))
  (.ret 5 false))
  fun j1=> .ret 3 j1)
noncomputable abbrev zT1:Fe:= .of Tryz.prog 46 zAi
theorem zLq (a0:zBa) (a1:Int):HS 46 (zIW a0 a1) [.agg [.int .i64 a0.F_Scheme, .int .i64 a0.F_K, .int .i64 a0.F_Wide], .int .i64 a1] zAi:=Tr.fn (F:=zT1)
 (.join 11 5 (γ:=Bool) ⟨fun x=>[(13,bB x)],[2],fun _=>[],[.s 15]⟩
  (.ite 0 8 (a0.F_K≥0)
  (.ret 6 (decide (a0.F_K≤a1)))
  (.ret 6 false))
  fun j1=> .join 1 4 (γ:=Bool) ⟨fun x=>[(18,bB x)],[],fun _=>[],[]⟩
  (.iteB 0 14 (j1)
  (.ret 5 (a0.F_Wide==0))
  (.ret 5 false))
  fun j2=> .ret 3 j2)
noncomputable abbrev zUh:Fe:= .of Tryz.prog 53 zAi
theorem zLn (a0:zBa) (a1:Int):HS 53 (zI1 a0 a1) [.agg [.int .i64 a0.F_Scheme, .int .i64 a0.F_K, .int .i64 a0.F_Wide], .int .i64 a1] zAi:=Tr.fn (F:=zUh)
 (.join 11 4 (γ:=Bool) ⟨fun x=>[(12,bB x)],[2],fun _=>[],[.s 15]⟩
  (.ite 0 8 (a0.F_K=0)
  (.ret 5 (decide (a0.F_Wide>0)))
  (.ret 5 false))
  fun j1=> .join 1 4 (γ:=Bool) ⟨fun x=>[(17,bB x)],[],fun _=>[],[]⟩
  (.iteB 0 13 (j1)
  (.ret 5 (decide (a0.F_Wide≤8)))
  (.ret 5 false))
  fun j2=> .ret 3 j2)
def zAg (v:Int):PV:=nI v
noncomputable abbrev zU7:Fe:= .of Tryz.prog 13 zAg
theorem zAj:∀v,(zAg v).noLst:=fun _=>trivial
theorem zT2 (a0:zBa) (a1:Int):HS 13 (zHS a0 a1) [.agg [.int .i64 a0.F_Scheme, .int .i64 a0.F_K, .int .i64 a0.F_Wide], .int .i64 a1] zAg:=Tr.fn (F:=zU7)
 (.draws 6 (.callG 2 [] [] zOo fun r1=> .hold 1 []<| .hold 6 []<| .cas 0 12 (a0.F_Scheme=(0:Int)) (.d (.agg [.clo (.func 40) [] [], .clo (.func 41) [] [], .clo (.func 42) [] [], .clo (.func 44) [] []])) (.d (lookD a0.F_Scheme [(1, .agg [.clo (.func 46) [] [], .clo (.func 47) [] [], .clo (.func 49) [] [], .clo (.func 51) [] []]),(2, .agg [.clo (.func 53) [] [], .clo (.func 54) [] [], .clo (.func 56) [] [], .clo (.func 57) [] []]),(3, .agg [.clo (.func 40) [] [], .clo (.func 59) [] [], .clo (.func 61) [] [], .clo (.func 62) [] []])] (.agg [.nilfn, .nilfn, .nilfn, .nilfn]))) (.d (lookD a0.F_Scheme [(0, .agg [.clo (.func 40) [] [], .clo (.func 41) [] [], .clo (.func 42) [] [], .clo (.func 44) [] []]),(1, .agg [.clo (.func 46) [] [], .clo (.func 47) [] [], .clo (.func 49) [] [], .clo (.func 51) [] []]),(2, .agg [.clo (.func 53) [] [], .clo (.func 54) [] [], .clo (.func 56) [] [], .clo (.func 57) [] []]),(3, .agg [.clo (.func 40) [] [], .clo (.func 59) [] [], .clo (.func 61) [] [], .clo (.func 62) [] []])] (.agg [.nilfn, .nilfn, .nilfn, .nilfn]))) zH7 zIf
  (.hold 2 []<| .join 9 3 (γ:=Bool) ⟨fun x=>[(19,bB x)],[5,2,1],fun _=>[],[.s 1727, .s 15]⟩
  (.iteX 0 16 ((hasK a0.F_Scheme [0,1,2,3]))
  (.ret 4 true)
  (.ret 4 (decide (a1<1))))
  fun j2=> .join 1 3 (γ:=Bool) ⟨fun x=>[(23,bB x)],[5,2,1],fun _=>[],[.s 1727, .s 15]⟩
  (.iteB 0 20 (j2)
  (.ret 4 true)
  (.ret 4 (decide (a1>4096))))
  fun j3=> .join 1 7 (γ:=Bool) ⟨fun x=>[(31,bB x)],[],fun _=>[],[]⟩
  (.iteB 0 24 (j3)
  (.ret 8 true)
  (.call 4 (zHR a0 a1) zAk fun r4=> .ret 3 (!r4)))
  fun j5=> .iteB 1 31 (j5)
  (.ret 7 1)
  (.ret 7 0))
  (.cas 0 12 (a0.F_Scheme=(1:Int)) (.d (.agg [.clo (.func 46) [] [], .clo (.func 47) [] [], .clo (.func 49) [] [], .clo (.func 51) [] []])) (.d (lookD a0.F_Scheme [(2, .agg [.clo (.func 53) [] [], .clo (.func 54) [] [], .clo (.func 56) [] [], .clo (.func 57) [] []]),(3, .agg [.clo (.func 40) [] [], .clo (.func 59) [] [], .clo (.func 61) [] [], .clo (.func 62) [] []])] (.agg [.nilfn, .nilfn, .nilfn, .nilfn]))) (.d (lookD a0.F_Scheme [(1, .agg [.clo (.func 46) [] [], .clo (.func 47) [] [], .clo (.func 49) [] [], .clo (.func 51) [] []]),(2, .agg [.clo (.func 53) [] [], .clo (.func 54) [] [], .clo (.func 56) [] [], .clo (.func 57) [] []]),(3, .agg [.clo (.func 40) [] [], .clo (.func 59) [] [], .clo (.func 61) [] [], .clo (.func 62) [] []])] (.agg [.nilfn, .nilfn, .nilfn, .nilfn]))) zH7 zIf
  (.hold 2 []<| .join 9 3 (γ:=Bool) ⟨fun x=>[(19,bB x)],[5,2,1],fun _=>[],[.s 1727, .s 15]⟩
  (.iteX 0 16 ((hasK a0.F_Scheme [0,1,2,3]))
  (.ret 4 true)
  (.ret 4 (decide (a1<1))))
  fun j6=> .join 1 3 (γ:=Bool) ⟨fun x=>[(23,bB x)],[5,2,1],fun _=>[],[.s 1727, .s 15]⟩
  (.iteB 0 20 (j6)
  (.ret 4 true)
  (.ret 4 (decide (a1>4096))))
  fun j7=> .join 1 7 (γ:=Bool) ⟨fun x=>[(31,bB x)],[],fun _=>[],[]⟩
  (.iteB 0 24 (j7)
  (.ret 8 true)
  (.call 4 (zLq a0 a1) zAk fun r8=> .ret 3 (!r8)))
  fun j9=> .iteB 1 31 (j9)
  (.ret 7 1)
  (.ret 7 0))
  (.cas 0 12 (a0.F_Scheme=(2:Int)) (.d (.agg [.clo (.func 53) [] [], .clo (.func 54) [] [], .clo (.func 56) [] [], .clo (.func 57) [] []])) (.d (lookD a0.F_Scheme [(3, .agg [.clo (.func 40) [] [], .clo (.func 59) [] [], .clo (.func 61) [] [], .clo (.func 62) [] []])] (.agg [.nilfn, .nilfn, .nilfn, .nilfn]))) (.d (lookD a0.F_Scheme [(2, .agg [.clo (.func 53) [] [], .clo (.func 54) [] [], .clo (.func 56) [] [], .clo (.func 57) [] []]),(3, .agg [.clo (.func 40) [] [], .clo (.func 59) [] [], .clo (.func 61) [] [], .clo (.func 62) [] []])] (.agg [.nilfn, .nilfn, .nilfn, .nilfn]))) zH7 zIf
  (.hold 2 []<| .join 9 3 (γ:=Bool) ⟨fun x=>[(19,bB x)],[5,2,1],fun _=>[],[.s 1727, .s 15]⟩
  (.iteX 0 16 ((hasK a0.F_Scheme [0,1,2,3]))
  (.ret 4 true)
  (.ret 4 (decide (a1<1))))
  fun j10=> .join 1 3 (γ:=Bool) ⟨fun x=>[(23,bB x)],[5,2,1],fun _=>[],[.s 1727, .s 15]⟩
  (.iteB 0 20 (j10)
  (.ret 4 true)
  (.ret 4 (decide (a1>4096))))
  fun j11=> .join 1 7 (γ:=Bool) ⟨fun x=>[(31,bB x)],[],fun _=>[],[]⟩
  (.iteB 0 24 (j11)
  (.ret 8 true)
  (.call 4 (zLn a0 a1) zAk fun r12=> .ret 3 (!r12)))
  fun j13=> .iteB 1 31 (j13)
  (.ret 7 1)
  (.ret 7 0))
  (.cas 0 12 (a0.F_Scheme=(3:Int)) (.d (.agg [.clo (.func 40) [] [], .clo (.func 59) [] [], .clo (.func 61) [] [], .clo (.func 62) [] []])) (.d (lookD a0.F_Scheme [] (.agg [.nilfn, .nilfn, .nilfn, .nilfn]))) (.d (lookD a0.F_Scheme [(3, .agg [.clo (.func 40) [] [], .clo (.func 59) [] [], .clo (.func 61) [] [], .clo (.func 62) [] []])] (.agg [.nilfn, .nilfn, .nilfn, .nilfn]))) zH7 zIf
  (.hold 2 []<| .join 9 3 (γ:=Bool) ⟨fun x=>[(19,bB x)],[5,2,1],fun _=>[],[.s 1727, .s 15]⟩
  (.iteX 0 16 ((hasK a0.F_Scheme [0,1,2,3]))
  (.ret 4 true)
  (.ret 4 (decide (a1<1))))
  fun j14=> .join 1 3 (γ:=Bool) ⟨fun x=>[(23,bB x)],[5,2,1],fun _=>[],[.s 1727, .s 15]⟩
  (.iteB 0 20 (j14)
  (.ret 4 true)
  (.ret 4 (decide (a1>4096))))
  fun j15=> .join 1 7 (γ:=Bool) ⟨fun x=>[(31,bB x)],[],fun _=>[],[]⟩
  (.iteB 0 24 (j15)
  (.ret 8 true)
  (.call 4 (zHR a0 a1) zAk fun r16=> .ret 3 (!r16)))
  fun j17=> .iteB 1 31 (j17)
  (.ret 7 1)
  (.ret 7 0))
  (.hold 2 []<| .join 9 3 (γ:=Bool) ⟨fun x=>[(19,bB x)],[5,2,1],fun _=>[],[.s 1727, .s 15]⟩
  (.iteX 0 16 ((hasK a0.F_Scheme [0,1,2,3]))
  (.ret 4 true)
  (.ret 4 (decide (a1<1))))
  fun j18=> .join 1 3 (γ:=Bool) ⟨fun x=>[(23,bB x)],[5,2,1],fun _=>[],[.s 1727, .s 15]⟩
  (.iteB 0 20 (j18)
  (.ret 4 true)
  (.ret 4 (decide (a1>4096))))
  fun j19=> .join 1 7 (γ:=Unit) ⟨fun x=>[(31,bB true)],[],fun _=>[],[]⟩
  (.iteB 0 24 (j19)
  (.ret 8 ())
  (.halt))
  fun j20=> .ret 8 1))))) (.hold 4 []<| .callG 0 [] [] zOo fun r1=> .hold 1 []<| .cas 4 12 (a0.F_Scheme=(0:Int)) (.d (.agg [.clo (.func 40) [] [], .clo (.func 41) [] [], .clo (.func 42) [] [], .clo (.func 44) [] []])) (.d (lookD a0.F_Scheme [(1, .agg [.clo (.func 46) [] [], .clo (.func 47) [] [], .clo (.func 49) [] [], .clo (.func 51) [] []]),(2, .agg [.clo (.func 53) [] [], .clo (.func 54) [] [], .clo (.func 56) [] [], .clo (.func 57) [] []]),(3, .agg [.clo (.func 40) [] [], .clo (.func 59) [] [], .clo (.func 61) [] [], .clo (.func 62) [] []])] (.agg [.nilfn, .nilfn, .nilfn, .nilfn]))) (.d (lookD a0.F_Scheme [(0, .agg [.clo (.func 40) [] [], .clo (.func 41) [] [], .clo (.func 42) [] [], .clo (.func 44) [] []]),(1, .agg [.clo (.func 46) [] [], .clo (.func 47) [] [], .clo (.func 49) [] [], .clo (.func 51) [] []]),(2, .agg [.clo (.func 53) [] [], .clo (.func 54) [] [], .clo (.func 56) [] [], .clo (.func 57) [] []]),(3, .agg [.clo (.func 40) [] [], .clo (.func 59) [] [], .clo (.func 61) [] [], .clo (.func 62) [] []])] (.agg [.nilfn, .nilfn, .nilfn, .nilfn]))) zH7 zIf
  (.hold 2 []<| .join 9 3 (γ:=Bool) ⟨fun x=>[(19,bB x)],[5,2,1],fun _=>[],[.s 1727, .s 15]⟩
  (.iteX 0 16 ((hasK a0.F_Scheme [0,1,2,3]))
  (.ret 4 true)
  (.ret 4 (decide (a1<1))))
  fun j2=> .join 1 3 (γ:=Bool) ⟨fun x=>[(23,bB x)],[5,2,1],fun _=>[],[.s 1727, .s 15]⟩
  (.iteB 0 20 (j2)
  (.ret 4 true)
  (.ret 4 (decide (a1>4096))))
  fun j3=> .join 1 7 (γ:=Bool) ⟨fun x=>[(31,bB x)],[],fun _=>[],[]⟩
  (.iteB 0 24 (j3)
  (.ret 8 true)
  (.call 4 (zHR a0 a1) zAk fun r4=> .ret 3 (!r4)))
  fun j5=> .iteB 1 31 (j5)
  (.ret 7 1)
  (.ret 7 0))
  (.cas 0 12 (a0.F_Scheme=(1:Int)) (.d (.agg [.clo (.func 46) [] [], .clo (.func 47) [] [], .clo (.func 49) [] [], .clo (.func 51) [] []])) (.d (lookD a0.F_Scheme [(2, .agg [.clo (.func 53) [] [], .clo (.func 54) [] [], .clo (.func 56) [] [], .clo (.func 57) [] []]),(3, .agg [.clo (.func 40) [] [], .clo (.func 59) [] [], .clo (.func 61) [] [], .clo (.func 62) [] []])] (.agg [.nilfn, .nilfn, .nilfn, .nilfn]))) (.d (lookD a0.F_Scheme [(1, .agg [.clo (.func 46) [] [], .clo (.func 47) [] [], .clo (.func 49) [] [], .clo (.func 51) [] []]),(2, .agg [.clo (.func 53) [] [], .clo (.func 54) [] [], .clo (.func 56) [] [], .clo (.func 57) [] []]),(3, .agg [.clo (.func 40) [] [], .clo (.func 59) [] [], .clo (.func 61) [] [], .clo (.func 62) [] []])] (.agg [.nilfn, .nilfn, .nilfn, .nilfn]))) zH7 zIf
  (.hold 2 []<| .join 9 3 (γ:=Bool) ⟨fun x=>[(19,bB x)],[5,2,1],fun _=>[],[.s 1727, .s 15]⟩
  (.iteX 0 16 ((hasK a0.F_Scheme [0,1,2,3]))
  (.ret 4 true)
  (.ret 4 (decide (a1<1))))
  fun j6=> .join 1 3 (γ:=Bool) ⟨fun x=>[(23,bB x)],[5,2,1],fun _=>[],[.s 1727, .s 15]⟩
  (.iteB 0 20 (j6)
  (.ret 4 true)
  (.ret 4 (decide (a1>4096))))
  fun j7=> .join 1 7 (γ:=Bool) ⟨fun x=>[(31,bB x)],[],fun _=>[],[]⟩
  (.iteB 0 24 (j7)
  (.ret 8 true)
  (.call 4 (zLq a0 a1) zAk fun r8=> .ret 3 (!r8)))
  fun j9=> .iteB 1 31 (j9)
  (.ret 7 1)
  (.ret 7 0))
  (.cas 0 12 (a0.F_Scheme=(2:Int)) (.d (.agg [.clo (.func 53) [] [], .clo (.func 54) [] [], .clo (.func 56) [] [], .clo (.func 57) [] []])) (.d (lookD a0.F_Scheme [(3, .agg [.clo (.func 40) [] [], .clo (.func 59) [] [], .clo (.func 61) [] [], .clo (.func 62) [] []])] (.agg [.nilfn, .nilfn, .nilfn, .nilfn]))) (.d (lookD a0.F_Scheme [(2, .agg [.clo (.func 53) [] [], .clo (.func 54) [] [], .clo (.func 56) [] [], .clo (.func 57) [] []]),(3, .agg [.clo (.func 40) [] [], .clo (.func 59) [] [], .clo (.func 61) [] [], .clo (.func 62) [] []])] (.agg [.nilfn, .nilfn, .nilfn, .nilfn]))) zH7 zIf
  (.hold 2 []<| .join 9 3 (γ:=Bool) ⟨fun x=>[(19,bB x)],[5,2,1],fun _=>[],[.s 1727, .s 15]⟩
  (.iteX 0 16 ((hasK a0.F_Scheme [0,1,2,3]))
  (.ret 4 true)
  (.ret 4 (decide (a1<1))))
  fun j10=> .join 1 3 (γ:=Bool) ⟨fun x=>[(23,bB x)],[5,2,1],fun _=>[],[.s 1727, .s 15]⟩
  (.iteB 0 20 (j10)
  (.ret 4 true)
  (.ret 4 (decide (a1>4096))))
  fun j11=> .join 1 7 (γ:=Bool) ⟨fun x=>[(31,bB x)],[],fun _=>[],[]⟩
  (.iteB 0 24 (j11)
  (.ret 8 true)
  (.call 4 (zLn a0 a1) zAk fun r12=> .ret 3 (!r12)))
  fun j13=> .iteB 1 31 (j13)
  (.ret 7 1)
  (.ret 7 0))
  (.cas 0 12 (a0.F_Scheme=(3:Int)) (.d (.agg [.clo (.func 40) [] [], .clo (.func 59) [] [], .clo (.func 61) [] [], .clo (.func 62) [] []])) (.d (lookD a0.F_Scheme [] (.agg [.nilfn, .nilfn, .nilfn, .nilfn]))) (.d (lookD a0.F_Scheme [(3, .agg [.clo (.func 40) [] [], .clo (.func 59) [] [], .clo (.func 61) [] [], .clo (.func 62) [] []])] (.agg [.nilfn, .nilfn, .nilfn, .nilfn]))) zH7 zIf
  (.hold 2 []<| .join 9 3 (γ:=Bool) ⟨fun x=>[(19,bB x)],[5,2,1],fun _=>[],[.s 1727, .s 15]⟩
  (.iteX 0 16 ((hasK a0.F_Scheme [0,1,2,3]))
  (.ret 4 true)
  (.ret 4 (decide (a1<1))))
  fun j14=> .join 1 3 (γ:=Bool) ⟨fun x=>[(23,bB x)],[5,2,1],fun _=>[],[.s 1727, .s 15]⟩
  (.iteB 0 20 (j14)
  (.ret 4 true)
  (.ret 4 (decide (a1>4096))))
  fun j15=> .join 1 7 (γ:=Bool) ⟨fun x=>[(31,bB x)],[],fun _=>[],[]⟩
  (.iteB 0 24 (j15)
  (.ret 8 true)
  (.call 4 (zHR a0 a1) zAk fun r16=> .ret 3 (!r16)))
  fun j17=> .iteB 1 31 (j17)
  (.ret 7 1)
  (.ret 7 0))
  (.hold 2 []<| .join 9 3 (γ:=Bool) ⟨fun x=>[(19,bB x)],[5,2,1],fun _=>[],[.s 1727, .s 15]⟩
  (.iteX 0 16 ((hasK a0.F_Scheme [0,1,2,3]))
  (.ret 4 true)
  (.ret 4 (decide (a1<1))))
  fun j18=> .join 1 3 (γ:=Bool) ⟨fun x=>[(23,bB x)],[5,2,1],fun _=>[],[.s 1727, .s 15]⟩
  (.iteB 0 20 (j18)
  (.ret 4 true)
  (.ret 4 (decide (a1>4096))))
  fun j19=> .join 1 7 (γ:=Unit) ⟨fun x=>[(31,bB true)],[],fun _=>[],[]⟩
  (.iteB 0 24 (j19)
  (.ret 8 ())
  (.halt))
  fun j20=> .ret 8 1))))))
noncomputable abbrev zOv:Fe:= .of Tryz.prog 25 zAi
theorem zIw (a0:Int) (a1:Int) (a2:Int):HS 25 (zDI a0 a1 a2) [.int .i64 a0, .int .i64 a1, .int .i64 a2] zAi:=Tr.fn (F:=zOv)
 (.join 10 4 (γ:=Bool) ⟨fun x=>[(14,bB x)],[],fun _=>[],[]⟩
  (.ite 0 10 (a0≥a1)
  (.ret 5 (decide (a0≤a2)))
  (.ret 5 false))
  fun j1=> .ret 3 j1)
noncomputable abbrev zIY:Fe:= .of Tryz.prog 217 zAg
def zQZ (a0:Int) (a2:List zAa) (x0:Int) (x1:Bool):St:=⟨[(26,nI x0),(25,nI (a2.length:Int)),(24, .d (.lst (List.map zAa.en a2))),(9,bB x1),(0,nI a0),(2, .d (.lst (List.map zAa.en a2)))],[]⟩
def zQ4 (a0:Int) (a2:List zAa) (x:Bool):St:=⟨[(9,bB x),(2, .d (.lst (List.map zAa.en a2)))],[]⟩
theorem zPA (a0:Int) (a2:List zAa):∀(x0:Int) (x1:Bool),Ok (zBS a0 a2 x0 x1) (LN zIY (.exit 0) (zQ4 a0 a2) 217 0 (zQZ a0 a2 x0 x1)):=by
 refine zBS.partial_correctness a0 a2 _ ?_
 intro f IH x0 x1
 exact Tr.lpN (F:=zIY) (X:=Int×Bool)
  (.ite 6 27 (x0<(a2.length:Int))
   (.idx 6 zAa.e a2 x0<| .join 7 6 (γ:=Bool) ⟨fun x=>[(37,bB x)],[26,25,24,0,2],fun _=>[],[]⟩
   (.iteB 0 31 (x1)
   (.len 2 eI ((at' a2 x0).F_X)<| .ret 4 ((((at' a2 x0).F_X).length:Int)==a0))
   (.ret 7 false))
   fun j2=> .again 7 (IntKind.i64.wrap (x0+1),j2))
   (.ret 4 x1)) _ fun x r=>IH x.1 x.2 r
theorem zIB (a0:Int) (a1:List Int) (a2:List zAa):HS 217 (zCy a0 a1 a2) [.int .i64 a0, .lst (List.map (D.int .i64) a1), .lst (List.map zAa.en a2)] zAg:=Tr.fn (F:=zIY)
 (.call 7 (zGm a0) zAd fun r1=> .iteN 12 18 (r1.2=0)
  (.ret 8 r1.2)
  (.len 5 eI a1<| .len 8 zAa.e a2<| .loop 4 ⟨_,_,_,_,_,zPA a0 a2 0 ((a1.length:Int)==r1.1)⟩ fun j3=> .iteX 9 39 (j3)
  (.ret 8 4)
  (.len 4 zAa.e a2<| .join 2 4 (γ:=Bool) ⟨fun x=>[(50,bB x)],[],fun _=>[],[]⟩
  (.ite 0 46 ((a2.length:Int)=0)
  (.ret 5 true)
  (.len 1 zAa.e a2<| .ret 3 (decide ((a2.length:Int)>64))))
  fun j4=> .iteB 2 42 (j4)
  (.ret 8 1)
  (.ret 8 0))))
noncomputable abbrev zJy:Fe:= .of Tryz.prog 213 zAg
theorem zFF (a0:zAv) (a1:List Int) (a2:List zAa):HS 213 (zB2 a0 a1 a2) [.agg [.int .i64 a0.F_Model.F_Kind, .int .i64 a0.F_Model.F_In, .int .i64 a0.F_Model.F_Out, .int .i64 a0.F_Model.F_Hid, .int .i64 a0.F_Model.F_Frac], .lst (List.map (D.int .i64) a1), .lst (List.map zAa.en a2)] zAg:=Tr.fn (F:=zJy)
 (.call 12 (zIB a0.F_Model.F_In a1 a2) zAj fun r1=> .ret 3 r1)
noncomputable abbrev zRr:Fe:= .of Tryz.prog 249 zAi
theorem zQH (a0:zAa) (a1:Int):HS 249 (zF5 a0 a1) [.agg [.lst (List.map (D.int .i64) a0.F_X), .int .i64 a0.F_Y], .cp [.int .i64 a1] 0] zAi:=Tr.fn (F:=zRr)
 (.len 9 eI a0.F_X<| .ret 5 ((a0.F_X.length:Int) !=a1))
noncomputable abbrev zAZ:Fe:= .of Tryz.prog 39 zAg
def zCQ (a0:List zAa) (a1:Int) (x0:Int):St:=⟨[(8,nI x0),(7,nI (a0.length:Int)),(0, .d (.lst (List.map zAa.en a0))),(1, .d (.clo (.func 249) [] [.cp [.int .i64 a1] 0]))],[]⟩
def zCS (a0:List zAa) (a1:Int) (x:Unit):St:=⟨[],[]⟩
theorem zCB (a0:List zAa) (a1:Int):∀(x0:Int),Ok (zAm a0 a1 x0) (LR zAZ (.exit 0) (zCS a0 a1) 39 0 (zCQ a0 a1 x0)):=by
 refine zAm.partial_correctness a0 a1 _ ?_
 intro f IH x0
 exact Tr.lpR (F:=zAZ) (X:=Int)
  (.ite 6 9 (x0<(a0.length:Int))
   (.idx 14 zAa.e a0 x0<| .call 1 (zQH (at' a0 x0) a1) zAk fun r1=> .iteB 1 16 (r1)
   (.ret 10 (.inl x0))
   (.again 7 (IntKind.i64.wrap (x0+1))))
   (.ret 4 (.inr ()))) _ fun x r=>IH x r
theorem zC6 (a0:List zAa) (a1:Int):HS 39 (zAL a0 a1) [.lst (List.map zAa.en a0), .clo (.func 249) [] [.cp [.int .i64 a1] 0]] zAg:=Tr.fn (F:=zAZ)
 (.len 8 zAa.e a0<| .loopR 4 id ⟨_,_,_,_,_,zCB a0 a1 0⟩ fun j2=> .ret 6 (-1))
noncomputable abbrev zCK:Fe:= .of Tryz.prog 26 zAi
theorem zCE (a0:List zAa) (a1:Int):HS 26 (zAA a0 a1) [.lst (List.map zAa.en a0), .clo (.func 249) [] [.cp [.int .i64 a1] 0]] zAi:=Tr.fn (F:=zCK)
 (.call 8 (zC6 a0 a1) zAj fun r1=> .ret 4 (decide (r1≥0)))
noncomputable abbrev zR5:Fe:= .of Tryz.prog 250 zAi
theorem zQP (a0:zAa) (a1:Int):HS 250 (zFV a0 a1) [.agg [.lst (List.map (D.int .i64) a0.F_X), .int .i64 a0.F_Y], .cp [.int .i64 a1] 0] zAi:=Tr.fn (F:=zR5)
 (.join 11 5 (γ:=Bool) ⟨fun x=>[(12,bB x)],[],fun _=>[],[]⟩
  (.ite 0 7 (a0.F_Y<0)
  (.ret 6 true)
  (.ret 6 (decide (a0.F_Y≥a1))))
  fun j1=> .ret 3 j1)
noncomputable abbrev zA1:Fe:= .of Tryz.prog 39 zAg
def zCM (a0:List zAa) (a1:Int) (x0:Int):St:=⟨[(8,nI x0),(7,nI (a0.length:Int)),(0, .d (.lst (List.map zAa.en a0))),(1, .d (.clo (.func 250) [] [.cp [.int .i64 a1] 0]))],[]⟩
def zCJ (a0:List zAa) (a1:Int) (x:Unit):St:=⟨[],[]⟩
theorem zCA (a0:List zAa) (a1:Int):∀(x0:Int),Ok (zAl a0 a1 x0) (LR zA1 (.exit 0) (zCJ a0 a1) 39 0 (zCM a0 a1 x0)):=by
 refine zAl.partial_correctness a0 a1 _ ?_
 intro f IH x0
 exact Tr.lpR (F:=zA1) (X:=Int)
  (.ite 6 9 (x0<(a0.length:Int))
   (.idx 14 zAa.e a0 x0<| .call 1 (zQP (at' a0 x0) a1) zAk fun r1=> .iteB 1 16 (r1)
   (.ret 10 (.inl x0))
   (.again 7 (IntKind.i64.wrap (x0+1))))
   (.ret 4 (.inr ()))) _ fun x r=>IH x r
theorem zC7 (a0:List zAa) (a1:Int):HS 39 (zAK a0 a1) [.lst (List.map zAa.en a0), .clo (.func 250) [] [.cp [.int .i64 a1] 0]] zAg:=Tr.fn (F:=zA1)
 (.len 8 zAa.e a0<| .loopR 4 id ⟨_,_,_,_,_,zCA a0 a1 0⟩ fun j2=> .ret 6 (-1))
noncomputable abbrev zCI:Fe:= .of Tryz.prog 26 zAi
theorem zCC (a0:List zAa) (a1:Int):HS 26 (zAB a0 a1) [.lst (List.map zAa.en a0), .clo (.func 250) [] [.cp [.int .i64 a1] 0]] zAi:=Tr.fn (F:=zCI)
 (.call 8 (zC7 a0 a1) zAj fun r1=> .ret 4 (decide (r1≥0)))
noncomputable abbrev zWf:Fe:= .of Tryz.prog 246 zAg
theorem zOm (a0:Int) (a1:Int) (a2:List Int) (a3:List zAa):HS 246 (zFE a0 a1 a2 a3) [.int .i64 a0, .int .i64 a1, .lst (List.map (D.int .i64) a2), .lst (List.map zAa.en a3)] zAg:=Tr.fn (F:=zWf)
 (.call 10 (zRm a0 a1) zAd fun r1=> .iteN 14 17 (r1.2=0)
  (.ret 9 r1.2)
  (.len 4 eI a2<| .join 3 4 (γ:=Bool) ⟨fun x=>[(30,bB x)],[5,3],fun _=>[],[.s 31]⟩
  (.iteN 0 26 ((a2.length:Int)=r1.1)
  (.ret 5 true)
  (.call 2 (zCE a3 a0) zAk fun r2=> .ret 2 r2))
  fun j3=> .iteB 2 21 (j3)
  (.ret 8 4)
  (.len 4 zAa.e a3<| .join 2 4 (γ:=Bool) ⟨fun x=>[(39,bB x)],[5,3],fun _=>[],[.s 31]⟩
  (.ite 0 35 ((a3.length:Int)=0)
  (.ret 5 true)
  (.len 1 zAa.e a3<| .ret 3 (decide ((a3.length:Int)>64))))
  fun j4=> .join 1 4 (γ:=Bool) ⟨fun x=>[(44,bB x)],[],fun _=>[],[]⟩
  (.iteB 0 40 (j4)
  (.ret 5 true)
  (.call 2 (zCC a3 a1) zAk fun r5=> .ret 2 r5))
  fun j6=> .iteB 2 31 (j6)
  (.ret 8 1)
  (.ret 8 0))))
noncomputable abbrev zJW:Fe:= .of Tryz.prog 242 zAg
theorem zFU (a0:zAx) (a1:List Int) (a2:List zAa):HS 242 (zCf a0 a1 a2) [.agg [.int .i64 a0.F_Model.F_Kind, .int .i64 a0.F_Model.F_In, .int .i64 a0.F_Model.F_Out, .int .i64 a0.F_Model.F_Hid, .int .i64 a0.F_Model.F_Frac], .lst (List.map (D.int .i64) a1), .lst (List.map zAa.en a2)] zAg:=Tr.fn (F:=zJW)
 (.call 15 (zOm a0.F_Model.F_In a0.F_Model.F_Out a1 a2) zAj fun r1=> .ret 3 r1)
noncomputable abbrev zTD:Fe:= .of Tryz.prog 276 zAi
theorem zSh (a0:zAa) (a1:Int):HS 276 (zGH a0 a1) [.agg [.lst (List.map (D.int .i64) a0.F_X), .int .i64 a0.F_Y], .cp [.int .i64 a1] 0] zAi:=Tr.fn (F:=zTD)
 (.len 9 eI a0.F_X<| .ret 5 ((a0.F_X.length:Int) !=a1))
noncomputable abbrev zA2:Fe:= .of Tryz.prog 39 zAg
def zC2 (a0:List zAa) (a1:Int) (x0:Int):St:=⟨[(8,nI x0),(7,nI (a0.length:Int)),(0, .d (.lst (List.map zAa.en a0))),(1, .d (.clo (.func 276) [] [.cp [.int .i64 a1] 0]))],[]⟩
def zC0 (a0:List zAa) (a1:Int) (x:Unit):St:=⟨[],[]⟩
theorem zCH (a0:List zAa) (a1:Int):∀(x0:Int),Ok (zAn a0 a1 x0) (LR zA2 (.exit 0) (zC0 a0 a1) 39 0 (zC2 a0 a1 x0)):=by
 refine zAn.partial_correctness a0 a1 _ ?_
 intro f IH x0
 exact Tr.lpR (F:=zA2) (X:=Int)
  (.ite 6 9 (x0<(a0.length:Int))
   (.idx 14 zAa.e a0 x0<| .call 1 (zSh (at' a0 x0) a1) zAk fun r1=> .iteB 1 16 (r1)
   (.ret 10 (.inl x0))
   (.again 7 (IntKind.i64.wrap (x0+1))))
   (.ret 4 (.inr ()))) _ fun x r=>IH x r
theorem zDf (a0:List zAa) (a1:Int):HS 39 (zAN a0 a1) [.lst (List.map zAa.en a0), .clo (.func 276) [] [.cp [.int .i64 a1] 0]] zAg:=Tr.fn (F:=zA2)
 (.len 8 zAa.e a0<| .loopR 4 id ⟨_,_,_,_,_,zCH a0 a1 0⟩ fun j2=> .ret 6 (-1))
noncomputable abbrev zC1:Fe:= .of Tryz.prog 26 zAi
theorem zCO (a0:List zAa) (a1:Int):HS 26 (zAC a0 a1) [.lst (List.map zAa.en a0), .clo (.func 276) [] [.cp [.int .i64 a1] 0]] zAi:=Tr.fn (F:=zC1)
 (.call 8 (zDf a0 a1) zAj fun r1=> .ret 4 (decide (r1≥0)))
noncomputable abbrev zXH:Fe:= .of Tryz.prog 273 zAg
theorem zOX (a0:Int) (a1:Int) (a2:List Int) (a3:List zAa):HS 273 (zGu a0 a1 a2 a3) [.int .i64 a0, .int .i64 a1, .lst (List.map (D.int .i64) a2), .lst (List.map zAa.en a3)] zAg:=Tr.fn (F:=zXH)
 (.call 9 (zNb a0 a1) zAd fun r1=> .iteN 14 17 (r1.2=0)
  (.ret 9 r1.2)
  (.len 4 eI a2<| .join 3 4 (γ:=Bool) ⟨fun x=>[(30,bB x)],[3],fun _=>[],[]⟩
  (.iteN 0 26 ((a2.length:Int)=r1.1)
  (.ret 5 true)
  (.call 2 (zCO a3 a0) zAk fun r2=> .ret 2 r2))
  fun j3=> .iteB 2 21 (j3)
  (.ret 8 4)
  (.len 4 zAa.e a3<| .join 2 4 (γ:=Bool) ⟨fun x=>[(39,bB x)],[],fun _=>[],[]⟩
  (.ite 0 35 ((a3.length:Int)=0)
  (.ret 5 true)
  (.len 1 zAa.e a3<| .ret 3 (decide ((a3.length:Int)>64))))
  fun j4=> .iteB 2 31 (j4)
  (.ret 8 1)
  (.ret 8 0))))
noncomputable abbrev zJ8:Fe:= .of Tryz.prog 269 zAg
theorem zGl (a0:zAE) (a1:List Int) (a2:List zAa):HS 269 (zCp a0 a1 a2) [.agg [.int .i64 a0.F_Model.F_Kind, .int .i64 a0.F_Model.F_In, .int .i64 a0.F_Model.F_Out, .int .i64 a0.F_Model.F_Hid, .int .i64 a0.F_Model.F_Frac], .lst (List.map (D.int .i64) a1), .lst (List.map zAa.en a2)] zAg:=Tr.fn (F:=zJ8)
 (.call 15 (zOX a0.F_Model.F_In a0.F_Model.F_Hid a1 a2) zAj fun r1=> .ret 3 r1)
noncomputable abbrev zWO:Fe:= .of Tryz.prog 28 zAg
theorem zU8 (a0:zAf) (a1:List Int) (a2:List zAa):HS 28 (zIo a0 a1 a2) [.agg [.int .i64 a0.F_Kind, .int .i64 a0.F_In, .int .i64 a0.F_Out, .int .i64 a0.F_Hid, .int .i64 a0.F_Frac], .lst (List.map (D.int .i64) a1), .lst (List.map zAa.en a2)] zAg:=Tr.fn (F:=zWO)
 (.callS4 8 (zLD a0) zLV
  (fun r1=> .iteN 14 17 (r1.2=0)
  (.ret 8 r1.2)
  (.halt))
  (fun r2=> .iteN 14 17 (r2.2.2.2.2.2.2=0)
  (.ret 8 r2.2.2.2.2.2.2)
  (.call 7 (zFF (⟨(⟨r2.1,r2.2.1,r2.2.2.1,r2.2.2.2.1,r2.2.2.2.2.1⟩:zAf)⟩:zAv) a1 a2) zAj fun r3=> .ret 3 r3))
  (fun r4=> .iteN 14 17 (r4.2.2.2.2.2.2=0)
  (.ret 8 r4.2.2.2.2.2.2)
  (.call 7 (zFU (⟨(⟨r4.1,r4.2.1,r4.2.2.1,r4.2.2.2.1,r4.2.2.2.2.1⟩:zAf)⟩:zAx) a1 a2) zAj fun r5=> .ret 3 r5))
  (fun r6=> .iteN 14 17 (r6.2.2.2.2.2.2=0)
  (.ret 8 r6.2.2.2.2.2.2)
  (.call 7 (zGl (⟨(⟨r6.1,r6.2.1,r6.2.2.1,r6.2.2.2.1,r6.2.2.2.2.1⟩:zAf)⟩:zAE) a1 a2) zAj fun r7=> .ret 3 r7)))
noncomputable abbrev zPM:Fe:= .of Tryz.prog 27 zAi
theorem zOB (a0:zAa) (a1:Int) (a2:Int) (a3:Int) (a4:Int) (a5:Int) (a6:Int) (a7:Int) (a8:Int) (a9:Int) (a10:Int) (a11:Int) (a12:Int) (a13:Int) (a14:Int) (a15:Int) (a16:List zAa) (a17:List Int):HS 27 (zGK a0 a1 a2 a3 a4 a5 a6 a7 a8 a9 a10 a11 a12 a13 a14 a15 a16 a17) [.agg [.lst (List.map (D.int .i64) a0.F_X), .int .i64 a0.F_Y], .cp [.int .i64 a1, .int .i64 a2, .int .i64 a3, .int .i64 a4, .int .i64 a5, .int .i64 a6, .int .i64 a7, .int .i64 a8, .int .i64 a9, .int .i64 a10, .int .i64 a11, .int .i64 a12, .int .i64 a13, .int .i64 a14, .int .u64 a15, .lst (List.map zAa.en a16)] 0, .cp [.lst (List.map (D.int .i64) a17)] 0] zAi:=Tr.fn (F:=zPM)
 (.call 12 (zU8 (⟨a2,a3,a4,a5,a6⟩:zAf) a17 [a0]) zAj fun r1=> .ret 4 (r1 !=0))
noncomputable abbrev zAY:Fe:= .of Tryz.prog 39 zAg
def zCL (a0:List zAa) (a1:Int) (a2:Int) (a3:Int) (a4:Int) (a5:Int) (a6:Int) (a7:Int) (a8:Int) (a9:Int) (a10:Int) (a11:Int) (a12:Int) (a13:Int) (a14:Int) (a15:Int) (a16:List zAa) (a17:List Int) (x0:Int):St:=⟨[(8,nI x0),(7,nI (a0.length:Int)),(0, .d (.lst (List.map zAa.en a0))),(1, .d (.clo (.func 27) [] [.cp [.int .i64 a1, .int .i64 a2, .int .i64 a3, .int .i64 a4, .int .i64 a5, .int .i64 a6, .int .i64 a7, .int .i64 a8, .int .i64 a9, .int .i64 a10, .int .i64 a11, .int .i64 a12, .int .i64 a13, .int .i64 a14, .int .u64 a15, .lst (List.map zAa.en a16)] 0, .cp [.lst (List.map (D.int .i64) a17)] 0]))],[]⟩
def zCN (a0:List zAa) (a1:Int) (a2:Int) (a3:Int) (a4:Int) (a5:Int) (a6:Int) (a7:Int) (a8:Int) (a9:Int) (a10:Int) (a11:Int) (a12:Int) (a13:Int) (a14:Int) (a15:Int) (a16:List zAa) (a17:List Int) (x:Unit):St:=⟨[],[]⟩
theorem zCD (a0:List zAa) (a1:Int) (a2:Int) (a3:Int) (a4:Int) (a5:Int) (a6:Int) (a7:Int) (a8:Int) (a9:Int) (a10:Int) (a11:Int) (a12:Int) (a13:Int) (a14:Int) (a15:Int) (a16:List zAa) (a17:List Int):∀(x0:Int),Ok (zAs a0 a1 a2 a3 a4 a5 a6 a7 a8 a9 a10 a11 a12 a13 a14 a15 a16 a17 x0) (LR zAY (.exit 0) (zCN a0 a1 a2 a3 a4 a5 a6 a7 a8 a9 a10 a11 a12 a13 a14 a15 a16 a17) 39 0 (zCL a0 a1 a2 a3 a4 a5 a6 a7 a8 a9 a10 a11 a12 a13 a14 a15 a16 a17 x0)):=by
 refine zAs.partial_correctness a0 a1 a2 a3 a4 a5 a6 a7 a8 a9 a10 a11 a12 a13 a14 a15 a16 a17 _ ?_
 intro f IH x0
 exact Tr.lpR (F:=zAY) (X:=Int)
  (.ite 6 9 (x0<(a0.length:Int))
   (.idx 14 zAa.e a0 x0<| .call 1 (zOB (at' a0 x0) a1 a2 a3 a4 a5 a6 a7 a8 a9 a10 a11 a12 a13 a14 a15 a16 a17) zAk fun r1=> .iteB 1 16 (r1)
   (.ret 10 (.inl x0))
   (.again 7 (IntKind.i64.wrap (x0+1))))
   (.ret 4 (.inr ()))) _ fun x r=>IH x r
theorem zC5 (a0:List zAa) (a1:Int) (a2:Int) (a3:Int) (a4:Int) (a5:Int) (a6:Int) (a7:Int) (a8:Int) (a9:Int) (a10:Int) (a11:Int) (a12:Int) (a13:Int) (a14:Int) (a15:Int) (a16:List zAa) (a17:List Int):HS 39 (zA0 a0 a1 a2 a3 a4 a5 a6 a7 a8 a9 a10 a11 a12 a13 a14 a15 a16 a17) [.lst (List.map zAa.en a0), .clo (.func 27) [] [.cp [.int .i64 a1, .int .i64 a2, .int .i64 a3, .int .i64 a4, .int .i64 a5, .int .i64 a6, .int .i64 a7, .int .i64 a8, .int .i64 a9, .int .i64 a10, .int .i64 a11, .int .i64 a12, .int .i64 a13, .int .i64 a14, .int .u64 a15, .lst (List.map zAa.en a16)] 0, .cp [.lst (List.map (D.int .i64) a17)] 0]] zAg:=Tr.fn (F:=zAY)
 (.len 8 zAa.e a0<| .loopR 4 id ⟨_,_,_,_,_,zCD a0 a1 a2 a3 a4 a5 a6 a7 a8 a9 a10 a11 a12 a13 a14 a15 a16 a17 0⟩ fun j2=> .ret 6 (-1))
noncomputable abbrev zCR:Fe:= .of Tryz.prog 26 zAi
theorem zCF (a0:List zAa) (a1:Int) (a2:Int) (a3:Int) (a4:Int) (a5:Int) (a6:Int) (a7:Int) (a8:Int) (a9:Int) (a10:Int) (a11:Int) (a12:Int) (a13:Int) (a14:Int) (a15:Int) (a16:List zAa) (a17:List Int):HS 26 (zAJ a0 a1 a2 a3 a4 a5 a6 a7 a8 a9 a10 a11 a12 a13 a14 a15 a16 a17) [.lst (List.map zAa.en a0), .clo (.func 27) [] [.cp [.int .i64 a1, .int .i64 a2, .int .i64 a3, .int .i64 a4, .int .i64 a5, .int .i64 a6, .int .i64 a7, .int .i64 a8, .int .i64 a9, .int .i64 a10, .int .i64 a11, .int .i64 a12, .int .i64 a13, .int .i64 a14, .int .u64 a15, .lst (List.map zAa.en a16)] 0, .cp [.lst (List.map (D.int .i64) a17)] 0]] zAi:=Tr.fn (F:=zCR)
 (.call 8 (zC5 a0 a1 a2 a3 a4 a5 a6 a7 a8 a9 a10 a11 a12 a13 a14 a15 a16 a17) zAj fun r1=> .ret 4 (decide (r1≥0)))
noncomputable abbrev zWP:Fe:= .of Tryz.prog 10 zAg
theorem zJR (a0:zAq):HS 10 (zFH a0) [.agg [.int .i64 a0.F_N, .int .i64 a0.F_M.F_Kind, .int .i64 a0.F_M.F_In, .int .i64 a0.F_M.F_Out, .int .i64 a0.F_M.F_Hid, .int .i64 a0.F_M.F_Frac, .int .i64 a0.F_H.F_Scheme, .int .i64 a0.F_H.F_K, .int .i64 a0.F_H.F_Wide, .int .i64 a0.F_Warm, .int .i64 a0.F_Rate, .int .i64 a0.F_Mom, .int .i64 a0.F_Clip, .int .i64 a0.F_Batch, .int .u64 a0.F_Seed, .lst (List.map zAa.en a0.F_L)]] zAg:=Tr.fn (F:=zWP)
 (.call 9 (zVx a0.F_M) zAd fun r1=> .join 12 6 (γ:=Bool) ⟨fun x=>[(21,bB x)],[3,1],fun _=>[],[.s 15]⟩
  (.iteN 0 15 (r1.2=0)
  (.ret 7 true)
  (.call 3 (zT2 a0.F_H r1.1) zAj fun r2=> .ret 3 (r2 !=0)))
  fun j3=> .iteB 1 21 (j3)
  (.ret 7 1)
  (.rd 7 (0≤a0.F_M.F_Frac) (nI (sShl .i64 1 a0.F_M.F_Frac))<| .call 7 (zBM a0.F_N 1 64) zAk fun r4=> .join 2 5 (γ:=Bool) ⟨fun x=>[(35,bB x)],[5,3,1],fun _=>[],[.s 15]⟩
  (.iteX 0 30 (r4)
  (.ret 6 true)
  (.call 2 (zBM a0.F_Warm 0 1048576) zAk fun r5=> .ret 3 (!r5)))
  fun j6=> .join 1 6 (γ:=Bool) ⟨fun x=>[(42,bB x)],[5,3,1],fun _=>[],[.s 15]⟩
  (.iteB 0 36 (j6)
  (.ret 7 true)
  (.call 3 (zIw a0.F_Rate 0 (sShl .i64 1 a0.F_M.F_Frac)) zAk fun r7=> .ret 3 (!r7)))
  fun j8=> .join 1 6 (γ:=Bool) ⟨fun x=>[(49,bB x)],[3,1],fun _=>[],[.s 15]⟩
  (.iteB 0 43 (j8)
  (.ret 7 true)
  (.call 3 (zIw a0.F_Mom 0 (sShl .i64 1 a0.F_M.F_Frac)) zAk fun r9=> .ret 3 (!r9)))
  fun j10=> .join 1 4 (γ:=Bool) ⟨fun x=>[(54,bB x)],[3,1],fun _=>[],[.s 15]⟩
  (.iteB 0 50 (j10)
  (.ret 5 true)
  (.ret 5 (decide (a0.F_Clip<0))))
  fun j11=> .iteB 1 54 (j11)
  (.ret 7 1)
  (.len 7 zAa.e a0.F_L<| .join 2 9 (γ:=Bool) ⟨fun x=>[(68,bB x)],[3,1],fun _=>[],[.s 15]⟩
  (.ite 0 59 ((a0.F_L.length:Int)>256)
  (.ret 10 true)
  (.len 4 zAa.e a0.F_L<| .let_ (if (a0.F_L.length:Int)<64 then (a0.F_L.length:Int) else 64:Int) fun y12=> .call 1 (zBM a0.F_Batch 1 y12) zAk fun r14=> .ret 3 (!r14)))
  fun j15=> .iteB 1 68 (j15)
  (.ret 7 1)
  (.mk 5 eI 8 0 r1.1 r1.1<| .let_ (List.replicate (Int.toNat r1.1) 0:List Int) fun y16=> .call 9 (zCF a0.F_L a0.F_N a0.F_M.F_Kind a0.F_M.F_In a0.F_M.F_Out a0.F_M.F_Hid a0.F_M.F_Frac a0.F_H.F_Scheme a0.F_H.F_K a0.F_H.F_Wide a0.F_Warm a0.F_Rate a0.F_Mom a0.F_Clip a0.F_Batch a0.F_Seed a0.F_L y16) zAk fun r18=> .iteB 1 74 (r18)
  (.ret 7 1)
  (.ret 7 0)))))
noncomputable abbrev zHp:Fe:= .of Tryz.prog 8 zAi
def zNO (x0:Int):St:=⟨[(13,nI x0),(12,nI ([10,8,6,4,2,2].length:Int)),(11,sI (.s 3215) [10,8,6,4,2,2]),(1, .ptr (.s 1695) 0)],[(.s 1695,[nI 1,nI 0,nI 1,nI 0,nI 0,nI 0,nI 0,nI 0,nI 0,nI 0,nI 0,nI 0,nI 0,nI 1,nU 0, .sl (.s 1663) 2 0 (List.map zAa.en [(⟨[1],0⟩:zAa)])])]⟩
def zNq (x:Unit):St:=⟨[(1, .ptr (.s 1695) 0)],[(.s 1695,[nI 1,nI 0,nI 1,nI 0,nI 0,nI 0,nI 0,nI 0,nI 0,nI 0,nI 0,nI 0,nI 0,nI 1,nU 0, .sl (.s 1663) 2 0 (List.map zAa.en [(⟨[1],0⟩:zAa)])])]⟩
theorem zMA:∀(x0:Int),Ok (zBy x0) (LR zHp (.exit 0) zNq 8 0 (zNO x0)):=by
 refine zBy.partial_correctness _ ?_
 intro f IH x0
 exact Tr.lpR (F:=zHp) (X:=Int)
  (.ite 6 14 (x0<([10,8,6,4,2,2].length:Int))
   (.idx 7 eI [10,8,6,4,2,2] x0<| .call 7 (zXh 10 2 4 x0) zAd fun r1=> .join 12 3 (γ:=Bool) ⟨fun x=>[(29,bB x)],[13,12,11,1],fun _=>[],[.s 1695]⟩
   (.iteN 0 26 (r1.1=(at' [10,8,6,4,2,2] x0))
   (.ret 4 true)
   (.ret 4 (r1.2 !=0)))
   fun j2=> .iteB 1 29 (j2)
   (.ret 9 (.inl false))
   (.again 7 (IntKind.i64.wrap (x0+1))))
   (.ret 4 (.inr ()))) _ fun x r=>IH x r
theorem zP1:HS 8 zFt [] zAi:=Tr.fn (F:=zHp)
 (.len 18 eI [10,8,6,4,2,2]<| .loopR 4 id ⟨_,_,_,_,_,zMA 0⟩ fun j3=> .call 4 (zJR (⟨1,(⟨0,1,0,0,0⟩:zAf),(⟨0,0,0⟩:zBa),0,0,0,0,1,0,[(⟨[1],0⟩:zAa)]⟩:zAq)) zAj fun r4=> .join 2 4 (γ:=Bool) ⟨fun x=>[(38,bB x)],[],fun _=>[],[]⟩
  (.ite 0 34 (r4=0)
  (.call 1 (zJR (⟨0,(⟨0,0,0,0,0⟩:zAf),(⟨0,0,0⟩:zBa),0,0,0,0,0,0,[]⟩:zAq)) zAj fun r5=> .ret 3 (r5==1))
  (.ret 5 false))
  fun j6=> .ret 3 j6)
noncomputable abbrev zHZ:Fe:= .of Tryz.prog 9 zAi
def zON (a0:zAq) (x0:Int):St:=⟨[(8,nI x0),(7,nI (a0.F_L.length:Int)),(6, .d (.lst (List.map zAa.en a0.F_L))),(1, .ptr (.s 15) 0)],[(.s 15,[nI a0.F_N,nI a0.F_M.F_Kind,nI a0.F_M.F_In,nI a0.F_M.F_Out,nI a0.F_M.F_Hid,nI a0.F_M.F_Frac,nI a0.F_H.F_Scheme,nI a0.F_H.F_K,nI a0.F_H.F_Wide,nI a0.F_Warm,nI a0.F_Rate,nI a0.F_Mom,nI a0.F_Clip,nI a0.F_Batch,nU a0.F_Seed, .d (.lst (List.map zAa.en a0.F_L))])]⟩
def zOu (a0:zAq) (x:Unit):St:=⟨[(1, .ptr (.s 15) 0)],[(.s 15,[nI a0.F_N,nI a0.F_M.F_Kind,nI a0.F_M.F_In,nI a0.F_M.F_Out,nI a0.F_M.F_Hid,nI a0.F_M.F_Frac,nI a0.F_H.F_Scheme,nI a0.F_H.F_K,nI a0.F_H.F_Wide,nI a0.F_Warm,nI a0.F_Rate,nI a0.F_Mom,nI a0.F_Clip,nI a0.F_Batch,nU a0.F_Seed, .d (.lst (List.map zAa.en a0.F_L))])]⟩
theorem zNn (a0:zAq):∀(x0:Int),Ok (zCm a0 x0) (LR zHZ (.exit 0) (zOu a0) 9 0 (zON a0 x0)):=by
 refine zCm.partial_correctness a0 _ ?_
 intro f IH x0
 exact Tr.lpR (F:=zHZ) (X:=Int)
  (.ite 6 9 (x0<(a0.F_L.length:Int))
   (.idx 6 zAa.e a0.F_L x0<| .len 8 eI ((at' a0.F_L x0).F_X)<| .ite 2 15 ((((at' a0.F_L x0).F_X).length:Int)>100)
   (.ret 9 (.inl false))
   (.again 7 (IntKind.i64.wrap (x0+1))))
   (.ret 4 (.inr ()))) _ fun x r=>IH x r
theorem zQF (a0:zAq):HS 9 (zGa a0) [.agg [.int .i64 a0.F_N, .int .i64 a0.F_M.F_Kind, .int .i64 a0.F_M.F_In, .int .i64 a0.F_M.F_Out, .int .i64 a0.F_M.F_Hid, .int .i64 a0.F_M.F_Frac, .int .i64 a0.F_H.F_Scheme, .int .i64 a0.F_H.F_K, .int .i64 a0.F_H.F_Wide, .int .i64 a0.F_Warm, .int .i64 a0.F_Rate, .int .i64 a0.F_Mom, .int .i64 a0.F_Clip, .int .i64 a0.F_Batch, .int .u64 a0.F_Seed, .lst (List.map zAa.en a0.F_L)]] zAi:=Tr.fn (F:=zHZ)
 (.len 10 zAa.e a0.F_L<| .loopR 4 id ⟨_,_,_,_,_,zNn a0 0⟩ fun j1=> .len 5 zAa.e a0.F_L<| .ret 4 (decide ((a0.F_L.length:Int)≤300)))
noncomputable abbrev zZA:Fe:= .of Tryz.prog 30 zAi
theorem zYM (a0:zAq) (a1:Int):HS 30 (zLd a0 a1) [.agg [.int .i64 a0.F_N, .int .i64 a0.F_M.F_Kind, .int .i64 a0.F_M.F_In, .int .i64 a0.F_M.F_Out, .int .i64 a0.F_M.F_Hid, .int .i64 a0.F_M.F_Frac, .int .i64 a0.F_H.F_Scheme, .int .i64 a0.F_H.F_K, .int .i64 a0.F_H.F_Wide, .int .i64 a0.F_Warm, .int .i64 a0.F_Rate, .int .i64 a0.F_Mom, .int .i64 a0.F_Clip, .int .i64 a0.F_Batch, .int .u64 a0.F_Seed, .lst (List.map zAa.en a0.F_L)], .int .i64 a1] zAi:=Tr.fn (F:=zZA)
 (.call 8 (zBM a1 0 1073741824) zAk fun r1=> .join 1 4 (γ:=Bool) ⟨fun x=>[(11,bB x)],[],fun _=>[],[]⟩
  (.iteB 0 7 (r1)
  (.call 1 (zJR a0) zAj fun r2=> .ret 3 (r2==0))
  (.ret 5 false))
  fun j3=> .ret 3 j3)
def zAy (v:Int):PV:=nU v
noncomputable abbrev zL1:Fe:= .of Tryz.prog 96 zAy
theorem zAo:∀v,(zAy v).noLst:=fun _=>trivial
theorem zHk (a0:Int) (a1:Int):HS 96 (zBD a0 a1) [.int .u64 a0, .int .i64 a1] zAy:=Tr.fn (F:=zL1)
 (.ret 22 (bXor .u64 (IntKind.u64.wrap ((bXor .u64 a0 (IntKind.u64.wrap a1))*11400714819323198485)) (sShr .u64 (IntKind.u64.wrap ((bXor .u64 a0 (IntKind.u64.wrap a1))*11400714819323198485)) 29)))
noncomputable abbrev zLw:Fe:= .of Tryz.prog 95 zAy
def zUm (a1:List Int) (x0:Int) (x1:Int):St:=⟨[(11,nI x0),(10,nI (a1.length:Int)),(9,lI a1),(5,nU x1)],[]⟩
def zUc (a1:List Int) (x:Int):St:=⟨[(5,nU x)],[]⟩
theorem zTw (a1:List Int):∀(x0:Int) (x1:Int),Ok (zDK a1 x0 x1) (LN zLw (.exit 0) (zUc a1) 95 0 (zUm a1 x0 x1)):=by
 refine zDK.partial_correctness a1 _ ?_
 intro f IH x0 x1
 exact Tr.lpN (F:=zLw) (X:=Int×Int)
  (.ite 6 12 (x0<(a1.length:Int))
   (.idx 6 eI a1 x0<| .call 6 (zHk x1 (at' a1 x0)) zAo fun r1=> .again 7 (IntKind.i64.wrap (x0+1),r1))
   (.ret 4 x1)) _ fun x r=>IH x.1 x.2 r
theorem zWF (a0:Int) (a1:List Int):HS 95 (zI9 a0 a1) [.int .u64 a0, .lst (List.map (D.int .i64) a1)] zAy:=Tr.fn (F:=zLw)
 (.len 13 eI a1<| .loop 4 ⟨_,_,_,_,_,zTw a1 0 a0⟩ fun j2=> .ret 7 j2)
noncomputable abbrev zM0:Fe:= .of Tryz.prog 97 zAy
theorem zLU (a0:Int):HS 97 (zCq a0) [.int .u64 a0] zAy:=Tr.fn (F:=zM0)
 (.ret 19 (bXor .u64 (IntKind.u64.wrap (a0*13787848793156543929)) (sShr .u64 (IntKind.u64.wrap (a0*13787848793156543929)) 32)))
def zAc (v:(List Int)×Int):PV:= .tup [sI (.s 0) v.1,nI v.2]
noncomputable abbrev zG3:Fe:= .of Tryz.prog 68 zAc
def zTP (a0:Int) (a1:Int) (a2:List Int) (y1:List Int) (x0:Int) (x1:List Int):St:=⟨[(23,nI x0),(22,nI (y1.length:Int)),(8,sI (.h 0) x1),(0,nI a0),(1,nU a1),(2,lI a2)],[]⟩
def zSl (a0:Int) (a1:Int) (a2:List Int) (y1:List Int) (x:(List Int)):St:=⟨[(8,sI (.h 1) x),(0,nI a0),(1,nU a1),(2,lI a2)],[]⟩
theorem zSd (a0:Int) (a1:Int) (a2:List Int) (y1:List Int):∀(x0:Int) (x1:List Int),Ok (zB0 a0 a1 a2 y1 x0 x1) (LN zG3 (.exit 1) (zSl a0 a1 a2 y1) 68 0 (zTP a0 a1 a2 y1 x0 x1)):=by
 refine zB0.partial_correctness a0 a1 a2 y1 _ ?_
 intro f IH x0 x1
 exact Tr.lpN (F:=zG3) (X:=Int×(List Int))
  (.ite 6 24 (x0<(y1.length:Int))
   (.idx 13 eI x1 x0<| .sto 0 [8] eI x1 x0 x0<| .again 6 (IntKind.i64.wrap (x0+1),x1.set (Int.toNat x0) x0))
   (.ret 4 x1)) _ fun x r=>IH x.1 x.2 r
def zSG (r4:Int) (x0:Int) (x1:List Int):St:=⟨[(11,nI x0),(10,nU r4),(8,sI (.h 2) x1)],[]⟩
def zSI (r4:Int) (x:(List Int)):St:=⟨[(8,sI (.h 3) x)],[]⟩
theorem zRK (r4:Int):∀(x0:Int) (x1:List Int),Ok (zBE r4 x0 x1) (LN zG3 (.exit 3) (zSI r4) 68 1 (zSG r4 x0 x1)):=by
 refine zBE.partial_correctness r4 _ ?_
 intro f IH x0 x1
 exact Tr.lpN (F:=zG3) (X:=Int×(List Int))
  (.ite 7 37 (x0>0)
   (.call 8 (zHk r4 x0) zAo fun r5=> .call 0 (zLU r5) zAo fun r6=> .rd 3 (IntKind.u64.wrap (IntKind.i64.wrap (x0+1))≠0) (nU (Int.tmod r6 (IntKind.u64.wrap (IntKind.i64.wrap (x0+1)))))<| .idx 9 eI x1 (Int.tmod r6 (IntKind.u64.wrap (IntKind.i64.wrap (x0+1))))<| .idx 3 eI x1 x0<| .idx 1 eI x1 x0<| .sto 0 [56,52,50,48,8] eI x1 x0 (at' x1 (Int.tmod r6 (IntKind.u64.wrap (IntKind.i64.wrap (x0+1)))))<| .hold 1 []<| .idx 0 eI (x1.set (Int.toNat x0) (at' x1 (Int.tmod r6 (IntKind.u64.wrap (IntKind.i64.wrap (x0+1)))))) (Int.tmod r6 (IntKind.u64.wrap (IntKind.i64.wrap (x0+1))))<| .sto 0 [56,52,50,48,8] eI (x1.set (Int.toNat x0) (at' x1 (Int.tmod r6 (IntKind.u64.wrap (IntKind.i64.wrap (x0+1)))))) (Int.tmod r6 (IntKind.u64.wrap (IntKind.i64.wrap (x0+1)))) (at' x1 x0)<| .let_ ((x1.set (Int.toNat x0) (at' x1 (Int.tmod r6 (IntKind.u64.wrap (IntKind.i64.wrap (x0+1)))))).set (Int.toNat (Int.tmod r6 (IntKind.u64.wrap (IntKind.i64.wrap (x0+1))))) (at' x1 x0):List Int) fun y7=> .again 8 (IntKind.i64.wrap (x0-1),y7))
   (.ret 4 x1)) _ fun x r=>IH x.1 x.2 r
theorem zAh:∀v,(zAc v).noLst:=fun _=>⟨(zHD fun _=>trivial),trivial,trivial⟩
theorem zU0 (a0:Int) (a1:Int) (a2:List Int):HS 68 (zFw a0 a1 a2) [.int .i64 a0, .int .u64 a1, .lst (List.map (D.int .i64) a2)] zAc:=Tr.fn (F:=zG3)
 (.ite 13 13 (a0<0)
  (.ret 9 ([],1))
  (.ite 7 16 (a0>4096)
  (.ret 9 ([],3))
  (.mk 6 eI 8 0 a0 a0<| .let_ (List.replicate (Int.toNat a0) 0:List Int) fun y1=> .len 6 eI y1<| .loop 4 ⟨_,_,_,_,_,zSd a0 a1 a2 y1 0 y1⟩ fun j3=> .call 5 (zWF a1 a2) zAo fun r4=> .loop 11 ⟨_,_,_,_,_,zRK r4 (IntKind.i64.wrap (a0-1)) j3⟩ fun j9=> .ret 8 (j9,0))))
noncomputable abbrev zXv:Fe:= .of Tryz.prog 33 zAc
theorem zWG (a0:Int) (a1:Int) (a2:Int) (a3:List Int):HS 33 (zFb a0 a1 a2 a3) [.int .i64 a0, .int .i64 a1, .int .u64 a2, .lst (List.map (D.int .i64) a3)] zAc:=Tr.fn (F:=zXv)
 (.join 11 4 (γ:=Bool) ⟨fun x=>[(18,bB x)],[0,1,2,3],fun _=>[],[]⟩
  (.ite 0 14 (a0<0)
  (.ret 5 true)
  (.ret 5 (decide (a0>a1))))
  fun j1=> .iteB 1 18 (j1)
  (.ret 8 ([],1))
  (.call 7 (zU0 a1 a2 a3) zAh fun r2=> .iteN 12 27 (r2.2=0)
  (.ret 9 ([],r2.2))
  (.cut 6 eI r2.1 none (some a0)<| .ret 4 (cut' r2.1 none (some a0),0))))
noncomputable abbrev zVB:Fe:= .of Tryz.prog 15 zAc
theorem zUY (a0:zAq) (a1:Int) (a2:Int):HS 15 (zD5 a0 a1 a2) [.agg [.int .i64 a0.F_N, .int .i64 a0.F_M.F_Kind, .int .i64 a0.F_M.F_In, .int .i64 a0.F_M.F_Out, .int .i64 a0.F_M.F_Hid, .int .i64 a0.F_M.F_Frac, .int .i64 a0.F_H.F_Scheme, .int .i64 a0.F_H.F_K, .int .i64 a0.F_H.F_Wide, .int .i64 a0.F_Warm, .int .i64 a0.F_Rate, .int .i64 a0.F_Mom, .int .i64 a0.F_Clip, .int .i64 a0.F_Batch, .int .u64 a0.F_Seed, .lst (List.map zAa.en a0.F_L)], .int .i64 a1, .int .i64 a2] zAc:=Tr.fn (F:=zVB)
 (.call 11 (zYM a0 a2) zAk fun r1=> .join 2 7 (γ:=Bool) ⟨fun x=>[(19,bB x)],[3,1,2],fun _=>[],[.s 15]⟩
  (.iteX 0 12 (r1)
  (.ret 8 true)
  (.call 4 (zBM a1 0 (IntKind.i64.wrap (a0.F_N-1))) zAk fun r2=> .ret 3 (!r2)))
  fun j3=> .iteB 1 19 (j3)
  (.ret 8 ([],1))
  (.len 8 zAa.e a0.F_L<| .call 5 (zWG a0.F_Batch (a0.F_L.length:Int) a0.F_Seed [a1,a2]) zAh fun r4=> .ret 6 (r4.1,r4.2)))
noncomputable abbrev zZg:Fe:= .of Tryz.prog 237 zAg
theorem zQ5 (a0:List Int) (a1:List Int):HS 237 (zIh a0 a1) [.lst (List.map (D.int .i64) a0), .lst (List.map (D.int .i64) a1)] zAg:=Tr.fn (F:=zZg)
 (.len 9 eI a0<| .len 1 eI a1<| .ite 4 5 ((if (a1.length:Int)>(a0.length:Int) then (a1.length:Int) else (a0.length:Int))>4096)
  (.ret 8 3)
  (.len 4 eI a0<| .len 1 eI a1<| .iteN 3 12 ((a0.length:Int)=(a1.length:Int))
  (.ret 8 4)
  (.ret 8 0)))
noncomputable abbrev zVW:Fe:= .of Tryz.prog 230 zAi
theorem zOn (a0:Int):HS 230 (zG8 a0) [.int .i64 a0] zAi:=Tr.fn (F:=zVW)
 (.join 9 3 (γ:=Bool) ⟨fun x=>[(8,bB x)],[],fun _=>[],[]⟩
  (.ite 0 5 (a0≥0)
  (.ret 4 (decide (a0≤30)))
  (.ret 4 false))
  fun j1=> .ret 3 j1)
def zCv (v:Int×Int):PV:= .tup [nU v.1,nU v.2]
noncomputable abbrev zQM:Fe:= .of Tryz.prog 118 zCv
theorem zDV:∀v,(zCv v).noLst:=fun _=>⟨trivial,trivial,trivial⟩
theorem zJn (a0:Int) (a1:Int):HS 118 (zDE a0 a1) [.int .u64 a0, .int .u64 a1] zCv:=Tr.fn (F:=zQM)
 (.ret 87 (IntKind.u64.wrap ((IntKind.u64.wrap ((IntKind.u64.wrap ((sShr .u64 a0 32)*(sShr .u64 a1 32)))+(sShr .u64 (IntKind.u64.wrap ((IntKind.u64.wrap ((sShr .u64 a0 32)*(bAnd .u64 a1 4294967295)))+(sShr .u64 (IntKind.u64.wrap ((bAnd .u64 a0 4294967295)*(bAnd .u64 a1 4294967295))) 32))) 32)))+(sShr .u64 (IntKind.u64.wrap ((bAnd .u64 (IntKind.u64.wrap ((IntKind.u64.wrap ((sShr .u64 a0 32)*(bAnd .u64 a1 4294967295)))+(sShr .u64 (IntKind.u64.wrap ((bAnd .u64 a0 4294967295)*(bAnd .u64 a1 4294967295))) 32))) 4294967295)+(IntKind.u64.wrap ((bAnd .u64 a0 4294967295)*(sShr .u64 a1 32))))) 32)),IntKind.u64.wrap (a0*a1)))
def zG1 (v:Int×Int):PV:= .d (.agg [.int .u64 v.1, .int .u64 v.2])
noncomputable abbrev zXI:Fe:= .of Tryz.prog 231 zG1
theorem zPR:∀v,(zG1 v).noLst:=fun _=>⟨trivial,trivial,trivial⟩
theorem zWc (a0:Int) (a1:Int):HS 231 (zJf a0 a1) [.int .i64 a0, .int .i64 a1] zG1:=Tr.fn (F:=zXI)
 (.call 10 (zJn (IntKind.u64.wrap a0) (IntKind.u64.wrap a1)) zDV fun r1=> .ite 12 16 (a0<0)
  (.ite 14 22 (a1<0)
  (.ret 16 (IntKind.u64.wrap ((IntKind.u64.wrap (r1.1-(IntKind.u64.wrap a1)))-(IntKind.u64.wrap a0)),r1.2))
  (.ret 10 (IntKind.u64.wrap (r1.1-(IntKind.u64.wrap a1)),r1.2)))
  (.ite 8 22 (a1<0)
  (.ret 16 (IntKind.u64.wrap (r1.1-(IntKind.u64.wrap a0)),r1.2))
  (.ret 10 (r1.1,r1.2))))
noncomputable abbrev zKO:Fe:= .of Tryz.prog 232 zG1
theorem zKu (a0:zBK) (a1:Int):HS 232 (zDA a0 a1) [.agg [.int .u64 a0.F_c0, .int .u64 a0.F_c1], .int .i64 a1] zG1:=Tr.fn (F:=zKO)
 (.ite 11 6 (a1=0)
  (.ret 8 (a0.F_c0,a0.F_c1))
  (.rd 8 (0≤a1) (nI (sShr .i64 (IntKind.i64.wrap a0.F_c0) a1))<| .rd 5 (0≤IntKind.i64.wrap (64-a1)) (nU (sShl .u64 a0.F_c0 (IntKind.i64.wrap (64-a1))))<| .rd 3 (0≤a1) (nU (sShr .u64 a0.F_c1 a1))<| .ret 5 (IntKind.u64.wrap (sShr .i64 (IntKind.i64.wrap a0.F_c0) a1),bOr .u64 (sShl .u64 a0.F_c0 (IntKind.i64.wrap (64-a1))) (sShr .u64 a0.F_c1 a1))))
noncomputable abbrev zJO:Fe:= .of Tryz.prog 233 zAe
theorem zJJ (a0:zBK):HS 233 (zDg a0) [.agg [.int .u64 a0.F_c0, .int .u64 a0.F_c1]] zAe:=Tr.fn (F:=zJO)
 (.iteB 25 15 (!(([a0.F_c0,a0.F_c1]:List Int)==[IntKind.u64.wrap (sShr .i64 (IntKind.i64.wrap a0.F_c1) 63),a0.F_c1]))
  (.ret 8 (0,2))
  (.ret 9 (IntKind.i64.wrap a0.F_c1,0)))
noncomputable abbrev zZ1:Fe:= .of Tryz.prog 226 zAe
theorem zKs (a0:Int) (a1:Int) (a2:Int):HS 226 (zGX a0 a1 a2) [.int .i64 a0, .int .i64 a1, .int .i64 a2] zAe:=Tr.fn (F:=zZ1)
 (.call 9 (zOn a2) zAk fun r1=> .iteX 2 10 (r1)
  (.ret 8 (0,1))
  (.call 6 (zWc a0 a1) zPR fun r2=> .call 1 (zKu (⟨r2.1,r2.2⟩:zBK) a2) zPR fun r3=> .call 0 (zJJ (⟨r3.1,r3.2⟩:zBK)) zAd fun r4=> .ret 6 (r4.1,r4.2)))
noncomputable abbrev zW3:Fe:= .of Tryz.prog 224 zAg
theorem zOl (a0:Int):HS 224 (zHa a0) [.int .i64 a0] zAg:=Tr.fn (F:=zW3)
 (.call 7 (zKs 0 0 a0) zAd fun r1=> .ret 12 r1.2)
noncomputable abbrev zQ3:Fe:= .of Tryz.prog 240 zAe
theorem zPs (a0:Int) (a1:List Int) (a2:List Int) (a3:Int):HS 240 (zHs a0 a1 a2 a3) [.int .i64 a0, .cp [.lst (List.map (D.int .i64) a1)] 0, .cp [.lst (List.map (D.int .i64) a2)] 0, .cp [.int .i64 a3] 0] zAe:=Tr.fn (F:=zQ3)
 (.idx 9 eI a1 a0<| .idx 3 eI a2 a0<| .call 2 (zKs (at' a1 a0) (at' a2 a0) a3) zAd fun r1=> .ret 6 (r1.1,r1.2))
noncomputable abbrev zZZ:Fe:= .of Tryz.prog 169 zAe
theorem zNL (a0:Int) (a1:Int):HS 169 (zH8 a0 a1) [.int .i64 a0, .int .i64 a1] zAe:=Tr.fn (F:=zZZ)
 (.ite 24 17 ((bAnd .i64 (bXor .i64 a0 (IntKind.i64.wrap (a0+a1))) (bXor .i64 a1 (IntKind.i64.wrap (a0+a1))))<0)
  (.ret 8 (0,2))
  (.ret 9 (IntKind.i64.wrap (a0+a1),0)))
noncomputable abbrev zFI:Fe:= .of Tryz.prog 145 zAe
def zKP (a0:Int) (a1:List Int) (a2:List Int) (a3:Int) (x0:Int) (x1:Int):St:=⟨[(10,nI x0),(9,nI a0),(4,nI x1),(1, .d (.clo (.func 240) [] [.cp [.lst (List.map (D.int .i64) a1)] 0, .cp [.lst (List.map (D.int .i64) a2)] 0, .cp [.int .i64 a3] 0]))],[]⟩
def zKR (a0:Int) (a1:List Int) (a2:List Int) (a3:Int) (x:Int):St:=⟨[(4,nI x)],[]⟩
theorem zKf (a0:Int) (a1:List Int) (a2:List Int) (a3:Int):∀(x0:Int) (x1:Int),Ok (zAV a0 a1 a2 a3 x0 x1) (LR zFI (.exit 0) (zKR a0 a1 a2 a3) 145 0 (zKP a0 a1 a2 a3 x0 x1)):=by
 refine zAV.partial_correctness a0 a1 a2 a3 _ ?_
 intro f IH x0 x1
 exact Tr.lpR (F:=zFI) (X:=Int×Int)
  (.ite 6 11 (x0<a0)
   (.call 13 (zPs x0 a1 a2 a3) zAd fun r1=> .ite 12 20 (r1.2=0)
   (.call 4 (zNL x1 r1.1) zAd fun r2=> .iteN 11 28 (r2.2=0)
   (.ret 11 (.inl (0,r2.2)))
   (.again 7 (IntKind.i64.wrap (x0+1),r2.1)))
   (.iteN 7 28 (r1.2=0)
   (.ret 11 (.inl (0,r1.2)))
   (.again 7 (IntKind.i64.wrap (x0+1),x1))))
   (.ret 4 (.inr x1))) _ fun x r=>IH x.1 x.2 r
theorem zLC (a0:Int) (a1:List Int) (a2:List Int) (a3:Int):HS 145 (zFx a0 a1 a2 a3) [.int .i64 a0, .clo (.func 240) [] [.cp [.lst (List.map (D.int .i64) a1)] 0, .cp [.lst (List.map (D.int .i64) a2)] 0, .cp [.int .i64 a3] 0]] zAe:=Tr.fn (F:=zFI)
 (.loopR 13 id ⟨_,_,_,_,_,zKf a0 a1 a2 a3 0 0⟩ fun j3=> .ret 8 (j3,0))
noncomputable abbrev zZ2:Fe:= .of Tryz.prog 236 zAe
theorem zY6 (a0:List Int) (a1:List Int) (a2:Int):HS 236 (zLl a0 a1 a2) [.lst (List.map (D.int .i64) a0), .lst (List.map (D.int .i64) a1), .int .i64 a2] zAe:=Tr.fn (F:=zZ2)
 (.call 12 (zQ5 a0 a1) zAj fun r1=> .join 8 0 (γ:=Int) ⟨fun x=>[(8,nI x)],[5,4,3],fun _=>[],[.s 47, .s 31, .s 15]⟩
  (.ite 0 13 (r1=0)
  (.call 3 (zOl a2) zAj fun r2=> .ret 2 r2)
  (.ret 2 r1))
  fun j3=> .iteN 6 17 (j3=0)
  (.ret 9 (0,j3))
  (.len 5 eI a0<| .call 1 (zLC (a0.length:Int) a0 a1 a2) zAd fun r4=> .ret 6 (r4.1,r4.2)))
noncomputable abbrev zU1:Fe:= .of Tryz.prog 229 zAe
theorem zHf (a0:List Int) (a1:List Int) (a2:Int):HS 229 (zDa a0 a1 a2) [.lst (List.map (D.int .i64) a0), .lst (List.map (D.int .i64) a1), .int .i64 a2] zAe:=Tr.fn (F:=zU1)
 (.len 8 eI a1<| .call 10 (zIB (a1.length:Int) a0 [(⟨a1,0⟩:zAa)]) zAj fun r1=> .iteN 7 21 (r1=0)
  (.ret 9 (0,r1))
  (.cut 6 eI a0 none (some (a1.length:Int))<| .let_ (cut' a0 none (some (a1.length:Int)):List Int) fun y2=> .call 2 (zY6 y2 a1 a2) zAd fun r4=> .iteN 12 33 (r4.2=0)
  (.ret 9 (0,r4.2))
  (.idx 7 eI a0 (a1.length:Int)<| .call 1 (zNL r4.1 (at' a0 (a1.length:Int))) zAd fun r5=> .ret 6 (r5.1,r5.2))))
noncomputable abbrev zZ5:Fe:= .of Tryz.prog 167 zAe
theorem zHe (a0:Int) (a1:Int):HS 167 (zE3 a0 a1) [.int .i64 a0, .int .i64 a1] zAe:=Tr.fn (F:=zZ5)
 (.ite 24 17 ((bAnd .i64 (bXor .i64 a0 a1) (bXor .i64 a0 (IntKind.i64.wrap (a0-a1))))<0)
  (.ret 8 (0,2))
  (.ret 9 (IntKind.i64.wrap (a0-a1),0)))
noncomputable abbrev zVF:Fe:= .of Tryz.prog 223 zAe
theorem zU2 (a0:List Int) (a1:zAa) (a2:Int):HS 223 (zIn a0 a1 a2) [.lst (List.map (D.int .i64) a0), .agg [.lst (List.map (D.int .i64) a1.F_X), .int .i64 a1.F_Y], .int .i64 a2] zAe:=Tr.fn (F:=zVF)
 (.call 12 (zHf a0 a1.F_X a2) zAd fun r1=> .iteN 12 19 (r1.2=0)
  (.ret 9 (0,r1.2))
  (.call 7 (zHe r1.1 a1.F_Y) zAd fun r2=> .ret 6 (r2.1,r2.2)))
noncomputable abbrev zXR:Fe:= .of Tryz.prog 99 zAg
theorem zGY (a0:List Int):HS 99 (zDT a0) [.lst (List.map (D.int .i64) a0)] zAg:=Tr.fn (F:=zXR)
 (.len 8 eI a0<| .ite 2 5 ((a0.length:Int)>4096)
  (.ret 7 3)
  (.ret 7 0))
noncomputable abbrev zOy:Fe:= .of Tryz.prog 225 zAe
theorem zNR (a0:Int) (a1:List Int) (a2:Int) (a3:Int):HS 225 (zGz a0 a1 a2 a3) [.int .i64 a0, .cp [.lst (List.map (D.int .i64) a1)] 0, .cp [.int .i64 a2] 0, .cp [.int .i64 a3] 0] zAe:=Tr.fn (F:=zOy)
 (.idx 9 eI a1 a0<| .call 3 (zKs (at' a1 a0) a2 a3) zAd fun r1=> .ret 6 (r1.1,r1.2))
noncomputable abbrev zFa:Fe:= .of Tryz.prog 101 zAc
def zKh (a1:List Int) (a2:Int) (a3:Int) (y1:List Int) (x0:Int) (x1:List Int):St:=⟨[(13,nI x0),(12,nI (y1.length:Int)),(6,sI (.h 0) x1),(1, .d (.clo (.func 225) [] [.cp [.lst (List.map (D.int .i64) a1)] 0, .cp [.int .i64 a2] 0, .cp [.int .i64 a3] 0]))],[]⟩
def zJ9 (a1:List Int) (a2:Int) (a3:Int) (y1:List Int) (x:(List Int)):St:=⟨[(6,sI (.h 1) x)],[]⟩
theorem zJT (a1:List Int) (a2:Int) (a3:Int) (y1:List Int):∀(x0:Int) (x1:List Int),Ok (zA3 a1 a2 a3 y1 x0 x1) (LR zFa (.exit 0) (zJ9 a1 a2 a3 y1) 101 0 (zKh a1 a2 a3 y1 x0 x1)):=by
 refine zA3.partial_correctness a1 a2 a3 y1 _ ?_
 intro f IH x0 x1
 exact Tr.lpR (F:=zFa) (X:=Int×(List Int))
  (.ite 6 14 (x0<(y1.length:Int))
   (.call 19 (zNR x0 a1 a2 a3) zAd fun r3=> .idx 3 eI x1 x0<| .sto 0 [6] eI x1 x0 r3.1<| .let_ (x1.set (Int.toNat x0) r3.1:List Int) fun y4=> .iteN 7 26 (r3.2=0)
   (.ret 11 (.inl ([],r3.2)))
   (.again 7 (IntKind.i64.wrap (x0+1),y4)))
   (.ret 4 (.inr x1))) _ fun x r=>IH x.1 x.2 r
theorem zK3 (a0:Int) (a1:List Int) (a2:Int) (a3:Int):HS 101 (zE9 a0 a1 a2 a3) [.int .i64 a0, .clo (.func 225) [] [.cp [.lst (List.map (D.int .i64) a1)] 0, .cp [.int .i64 a2] 0, .cp [.int .i64 a3] 0]] zAc:=Tr.fn (F:=zFa)
 (.mk 8 eI 8 0 a0 a0<| .let_ (List.replicate (Int.toNat a0) 0:List Int) fun y1=> .len 6 eI y1<| .loopR 4 id ⟨_,_,_,_,_,zJT a1 a2 a3 y1 0 y1⟩ fun j6=> .ret 8 (j6,0))
noncomputable abbrev zXS:Fe:= .of Tryz.prog 221 zAc
theorem zKV (a0:List Int) (a1:Int) (a2:Int):HS 221 (zGv a0 a1 a2) [.lst (List.map (D.int .i64) a0), .int .i64 a1, .int .i64 a2] zAc:=Tr.fn (F:=zXS)
 (.call 11 (zGY a0) zAj fun r1=> .join 8 0 (γ:=Int) ⟨fun x=>[(8,nI x)],[5,4,3],fun _=>[],[.s 47, .s 31, .s 15]⟩
  (.ite 0 12 (r1=0)
  (.call 3 (zOl a2) zAj fun r2=> .ret 2 r2)
  (.ret 2 r1))
  fun j3=> .iteN 6 16 (j3=0)
  (.ret 9 ([],j3))
  (.len 5 eI a0<| .call 1 (zK3 (a0.length:Int) a0 a1 a2) zAh fun r4=> .ret 6 (r4.1,r4.2)))
def zHN (v:Int×Int×(List (List Int))):PV:=nI v.1
def zHE (v:Int×Int×(List (List Int))):List (Tg×List PV):=[(.up (.s 0),[nI v.2.1]),(.up (.s 1),[.sl (.s 0) 1 0 (List.map (enL (D.int .i64)) v.2.2)])]
noncomputable abbrev zMW:Fe:= .of Tryz.prog 220 zHN zHE
theorem zHJ (a0:zAa) (a1:Int) (a2:Int) (a3:List (List Int)):HG 220 (zEd a0 a1 a2 a3) [.d (.agg [.lst (List.map (D.int .i64) a0.F_X), .int .i64 a0.F_Y]),nI a1, .ptr (.up (.s 0)) 0, .ptr (.up (.s 1)) 0] [(.up (.s 0),[nI a2]),(.up (.s 1),[.sl (.h 0) 1 0 (List.map (enL (D.int .i64)) a3)])] zHN zHE:=Tr.fnG (F:=zMW)
 (.call 11 (zKV a0.F_X a1 a2) zAh fun r1=> .hold 13 []<| .app 0 eI 8 r1.1 [a1]<| .hold 1 []<| .hold 2 []<| .app 0 (eL eI) 24 a3 [r1.1++[a1]]<| .ret 9 (r1.2,a2,a3++[r1.1++[a1]]))
def zFC (v:Int×Int×(List (List Int))):PV:=nI v.1
def zFD (v:Int×Int×(List (List Int))):List (Tg×List PV):=[(.up (.s 0),[nI v.2.1]),(.up (.s 1),[.sl (.s 0) 1 0 (List.map (enL (D.int .i64)) v.2.2)])]
noncomputable abbrev zDW:Fe:= .of Tryz.prog 219 zFC zFD
def zIq (a0:List Int) (a1:Int) (a2:List zAa) (x0:Int) (x1:Int) (x2:Int) (x3:List (List Int)):St:=⟨[(21,nI x0),(20,nI (a2.length:Int)),(19, .d (.lst (List.map zAa.en a2))),(9,nI x1),(0,lI a0),(1,nI a1),(3, .clo (.func 220) [] [.ptr (.up (.s 0)) 0, .ptr (.up (.s 1)) 0])],[(.up (.s 0),[nI x2]),(.up (.s 1),[.sl (.h 1) 1 0 (List.map (enL (D.int .i64)) x3)])]⟩
def zIp (a0:List Int) (a1:Int) (a2:List zAa) (x:Int×Int×(List (List Int))):St:=⟨[(9,nI x.1)],[(.up (.s 0),[nI x.2.1]),(.up (.s 1),[.sl (.h 2) 1 0 (List.map (enL (D.int .i64)) x.2.2)])]⟩
theorem zIg (a0:List Int) (a1:Int) (a2:List zAa):∀(x0:Int) (x1:Int) (x2:Int) (x3:List (List Int)),Ok (zAu a0 a1 a2 x0 x1 x2 x3) (LN zDW (.exit 0) (zIp a0 a1 a2) 219 0 (zIq a0 a1 a2 x0 x1 x2 x3)):=by
 refine zAu.partial_correctness a0 a1 a2 _ ?_
 intro f IH x0 x1 x2 x3
 exact Tr.lpN (F:=zDW) (X:=Int×Int×Int×(List (List Int)))
  (.ite 6 22 (x0<(a2.length:Int))
   (.idx 6 zAa.e a2 x0<| .ite 14 26 (x1=0)
   (.call 5 (zU2 a0 (at' a2 x0) a1) zAd fun r2=> .ite 11 35 (r2.2=0)
   (.callG 5 [(.up (.s 0), .up (.s 0)),(.up (.s 1), .up (.s 1)),(.h 0, .h 1)] [] (zHJ (at' a2 x0) r2.1 x2 x3) fun r3=> .again 7 (IntKind.i64.wrap (x0+1),r3.1,r3.2.1,r3.2.2))
   (.again 7 (IntKind.i64.wrap (x0+1),r2.2,x2,x3)))
   (.ite 7 35 (x1=0)
   (.callG 5 [(.up (.s 0), .up (.s 0)),(.up (.s 1), .up (.s 1)),(.h 0, .h 1)] [] (zHJ (at' a2 x0) 0 x2 x3) fun r4=> .again 7 (IntKind.i64.wrap (x0+1),r4.1,r4.2.1,r4.2.2))
   (.again 7 (IntKind.i64.wrap (x0+1),x1,x2,x3))))
   (.ret 4 (x1,x2,x3))) _ fun x r=>IH x.1 x.2.1 x.2.2.1 x.2.2.2 r
theorem zI0 (a0:List Int) (a1:Int) (a2:List zAa) (a3:Int) (a4:List (List Int)):HG 219 (zD7 a0 a1 a2 a3 a4) [lI a0,nI a1, .d (.lst (List.map zAa.en a2)), .clo (.func 220) [] [.ptr (.up (.s 0)) 0, .ptr (.up (.s 1)) 0]] [(.up (.s 0),[nI a3]),(.up (.s 1),[.sl (.h 0) 1 0 (List.map (enL (D.int .i64)) a4)])] zFC zFD:=Tr.fnG (F:=zDW)
 (.len 7 eI a0<| .call 3 (zIB (IntKind.i64.wrap ((a0.length:Int)-1)) a0 a2) zAj fun r1=> .len 6 zAa.e a2<| .loop 4 ⟨_,_,_,_,_,zIg a0 a1 a2 0 r1 a3 a4⟩ fun j5=> .ret 7 (j5.1,j5.2.1,j5.2.2))
def zD2 (v:(List Int)):PV:=sI (.s 0) v
noncomputable abbrev zJU:Fe:= .of Tryz.prog 43 zD2
theorem zD8:∀v,(zD2 v).noLst:=fun _=>(zHD fun _=>trivial)
theorem zD3 (a0 : List Int) : HS 43 (zBu a0) [.lst (List.map (D.int .i64) a0)] zD2 := Tr.fn (F := zJU)
 (.nilq 8 eI.f a0
  (    if room 8 ([] ++ a0).length then
       some ([] ++ a0)
     else none)
  (    some [])
  (fun h => by (try obtain rfl := List.eq_nil_of_length_eq_zero h); first | rfl | (simp [h]; done))
  (.app 7 eI 8 [] a0 <| .ret 3 ([] ++ a0))
  (.ret 8 []))
noncomputable abbrev zSO:Fe:= .of Tryz.prog 238 zAe
theorem zRR (a0:Int) (a1:List Int) (a2:List Int):HS 238 (zIz a0 a1 a2) [.int .i64 a0, .cp [.lst (List.map (D.int .i64) a1)] 0, .cp [.lst (List.map (D.int .i64) a2)] 0] zAe:=Tr.fn (F:=zSO)
 (.idx 9 eI a1 a0<| .idx 3 eI a2 a0<| .call 1 (zNL (at' a1 a0) (at' a2 a0)) zAd fun r1=> .ret 6 (r1.1,r1.2))
noncomputable abbrev zF9:Fe:= .of Tryz.prog 101 zAc
def zK0 (a1:List Int) (a2:List Int) (y1:List Int) (x0:Int) (x1:List Int):St:=⟨[(13,nI x0),(12,nI (y1.length:Int)),(6,sI (.h 0) x1),(1, .d (.clo (.func 238) [] [.cp [.lst (List.map (D.int .i64) a1)] 0, .cp [.lst (List.map (D.int .i64) a2)] 0]))],[]⟩
def zK7 (a1:List Int) (a2:List Int) (y1:List Int) (x:(List Int)):St:=⟨[(6,sI (.h 1) x)],[]⟩
theorem zKT (a1:List Int) (a2:List Int) (y1:List Int):∀(x0:Int) (x1:List Int),Ok (zBc a1 a2 y1 x0 x1) (LR zF9 (.exit 0) (zK7 a1 a2 y1) 101 0 (zK0 a1 a2 y1 x0 x1)):=by
 refine zBc.partial_correctness a1 a2 y1 _ ?_
 intro f IH x0 x1
 exact Tr.lpR (F:=zF9) (X:=Int×(List Int))
  (.ite 6 14 (x0<(y1.length:Int))
   (.call 19 (zRR x0 a1 a2) zAd fun r3=> .idx 3 eI x1 x0<| .sto 0 [6] eI x1 x0 r3.1<| .let_ (x1.set (Int.toNat x0) r3.1:List Int) fun y4=> .iteN 7 26 (r3.2=0)
   (.ret 11 (.inl ([],r3.2)))
   (.again 7 (IntKind.i64.wrap (x0+1),y4)))
   (.ret 4 (.inr x1))) _ fun x r=>IH x.1 x.2 r
theorem zL3 (a0:Int) (a1:List Int) (a2:List Int):HS 101 (zF6 a0 a1 a2) [.int .i64 a0, .clo (.func 238) [] [.cp [.lst (List.map (D.int .i64) a1)] 0, .cp [.lst (List.map (D.int .i64) a2)] 0]] zAc:=Tr.fn (F:=zF9)
 (.mk 8 eI 8 0 a0 a0<| .let_ (List.replicate (Int.toNat a0) 0:List Int) fun y1=> .len 6 eI y1<| .loopR 4 id ⟨_,_,_,_,_,zKT a1 a2 y1 0 y1⟩ fun j6=> .ret 8 (j6,0))
noncomputable abbrev zAaJ:Fe:= .of Tryz.prog 234 zAc
theorem zYO (a0:List Int) (a1:List Int):HS 234 (zLp a0 a1) [.lst (List.map (D.int .i64) a0), .lst (List.map (D.int .i64) a1)] zAc:=Tr.fn (F:=zAaJ)
 (.call 12 (zQ5 a0 a1) zAj fun r1=> .iteN 7 11 (r1=0)
  (.ret 9 ([],r1))
  (.len 5 eI a0<| .call 1 (zL3 (a0.length:Int) a0 a1) zAh fun r2=> .ret 6 (r2.1,r2.2)))
noncomputable abbrev zPb:Fe:= .of Tryz.prog 227 zAc
def zVP (a0:List (List Int)) (x0:Int) (x1:List Int):St:=⟨[(8,nI x0),(7,nI (a0.length:Int)),(6, .d (.lst (List.map (enL (D.int .i64)) a0))),(2,sI (.h 0) x1)],[]⟩
def zVK (a0:List (List Int)) (x:(List Int)):St:=⟨[(2,sI (.h 1) x)],[]⟩
theorem zVh (a0:List (List Int)):∀(x0:Int) (x1:List Int),Ok (zC4 a0 x0 x1) (LR zPb (.exit 0) (zVK a0) 227 0 (zVP a0 x0 x1)):=by
 refine zC4.partial_correctness a0 _ ?_
 intro f IH x0 x1
 exact Tr.lpR (F:=zPb) (X:=Int×(List Int))
  (.ite 6 9 (x0<(a0.length:Int))
   (.idx 7 (eL eI) a0 x0<| .ite 10 14 (x0=0)
   (.call 3 (zD3 (at' a0 x0)) zD8 fun r1=> .call 1 (zGY (at' a0 x0)) zAj fun r2=> .iteN 8 26 (r2=0)
   (.ret 11 (.inl ([],r2)))
   (.again 7 (IntKind.i64.wrap (x0+1),r1)))
   (.call 4 (zYO x1 (at' a0 x0)) zAh fun r3=> .iteN 11 26 (r3.2=0)
   (.ret 11 (.inl ([],r3.2)))
   (.again 7 (IntKind.i64.wrap (x0+1),r3.1))))
   (.ret 4 (.inr x1))) _ fun x r=>IH x.1 x.2 r
theorem zY3 (a0:List (List Int)):HS 227 (zJz a0) [.lst (List.map (enL (D.int .i64)) a0)] zAc:=Tr.fn (F:=zPb)
 (.len 9 (eL eI) a0<| .loopR 4 id ⟨_,_,_,_,_,zVh a0 0 []⟩ fun j4=> .ret 8 (j4,0))
noncomputable abbrev zYU:Fe:= .of Tryz.prog 239 zAy
theorem zLK (a0:Int):HS 239 (zHi a0) [.int .i64 a0] zAy:=Tr.fn (F:=zYU)
 (.ite 10 4 (a0<0)
  (.ret 10 (IntKind.u64.wrap (0-(IntKind.u64.wrap a0))))
  (.ret 9 (IntKind.u64.wrap a0)))
noncomputable abbrev zQO:Fe:= .of Tryz.prog 166 zAg
theorem zPe (a0:Int):HS 166 (zFp a0) [.int .u64 a0] zAg:=Tr.fn (F:=zQO)
 (.join 10 0 (γ:=Int×Int) ⟨fun x=>[(2,nI x.1),(0,nU x.2)],[],fun _=>[],[]⟩
  (.ite 0 4 (a0≥4294967296)
  (.ret 10 (32,sShr .u64 a0 32))
  (.ret 2 (0,a0)))
  fun j1=> .join 6 0 (γ:=Int×Int) ⟨fun x=>[(2,nI x.1),(0,nU x.2)],[],fun _=>[],[]⟩
  (.ite 0 8 (j1.2≥65536)
  (.ret 12 (IntKind.i64.wrap (j1.1+16),sShr .u64 j1.2 16))
  (.ret 2 (j1.1,j1.2)))
  fun j2=> .ite 6 14 (j2.2≥256)
  (.rd 17 (0≤(IntKind.u8.wrap (sShr .u64 j2.2 8))∧(IntKind.u8.wrap (sShr .u64 j2.2 8))<((ByteArray.mk #[0,1,2,2,3,3,3,3,4,4,4,4,4,4,4,4,5,5,5,5,5,5,5,5,5,5,5,5,5,5,5,5,6,6,6,6,6,6,6,6,6,6,6,6,6,6,6,6,6,6,6,6,6,6,6,6,6,6,6,6,6,6,6,6,7,7,7,7,7,7,7,7,7,7,7,7,7,7,7,7,7,7,7,7,7,7,7,7,7,7,7,7,7,7,7,7,7,7,7,7,7,7,7,7,7,7,7,7,7,7,7,7,7,7,7,7,7,7,7,7,7,7,7,7,7,7,7,7,8,8,8,8,8,8,8,8,8,8,8,8,8,8,8,8,8,8,8,8,8,8,8,8,8,8,8,8,8,8,8,8,8,8,8,8,8,8,8,8,8,8,8,8,8,8,8,8,8,8,8,8,8,8,8,8,8,8,8,8,8,8,8,8,8,8,8,8,8,8,8,8,8,8,8,8,8,8,8,8,8,8,8,8,8,8,8,8,8,8,8,8,8,8,8,8,8,8,8,8,8,8,8,8,8,8,8,8,8,8,8,8,8,8,8,8,8,8,8,8,8,8,8,8,8,8,8,8]).size:Int)) (nY (((ByteArray.mk #[0,1,2,2,3,3,3,3,4,4,4,4,4,4,4,4,5,5,5,5,5,5,5,5,5,5,5,5,5,5,5,5,6,6,6,6,6,6,6,6,6,6,6,6,6,6,6,6,6,6,6,6,6,6,6,6,6,6,6,6,6,6,6,6,7,7,7,7,7,7,7,7,7,7,7,7,7,7,7,7,7,7,7,7,7,7,7,7,7,7,7,7,7,7,7,7,7,7,7,7,7,7,7,7,7,7,7,7,7,7,7,7,7,7,7,7,7,7,7,7,7,7,7,7,7,7,7,7,8,8,8,8,8,8,8,8,8,8,8,8,8,8,8,8,8,8,8,8,8,8,8,8,8,8,8,8,8,8,8,8,8,8,8,8,8,8,8,8,8,8,8,8,8,8,8,8,8,8,8,8,8,8,8,8,8,8,8,8,8,8,8,8,8,8,8,8,8,8,8,8,8,8,8,8,8,8,8,8,8,8,8,8,8,8,8,8,8,8,8,8,8,8,8,8,8,8,8,8,8,8,8,8,8,8,8,8,8,8,8,8,8,8,8,8,8,8,8,8,8,8,8,8,8,8,8,8]).data.getD (Int.toNat (IntKind.u8.wrap (sShr .u64 j2.2 8))) 0).toNat:Int))<| .ret 5 (IntKind.i64.wrap ((IntKind.i64.wrap (j2.1+8))+(IntKind.i64.wrap (((ByteArray.mk #[0,1,2,2,3,3,3,3,4,4,4,4,4,4,4,4,5,5,5,5,5,5,5,5,5,5,5,5,5,5,5,5,6,6,6,6,6,6,6,6,6,6,6,6,6,6,6,6,6,6,6,6,6,6,6,6,6,6,6,6,6,6,6,6,7,7,7,7,7,7,7,7,7,7,7,7,7,7,7,7,7,7,7,7,7,7,7,7,7,7,7,7,7,7,7,7,7,7,7,7,7,7,7,7,7,7,7,7,7,7,7,7,7,7,7,7,7,7,7,7,7,7,7,7,7,7,7,7,8,8,8,8,8,8,8,8,8,8,8,8,8,8,8,8,8,8,8,8,8,8,8,8,8,8,8,8,8,8,8,8,8,8,8,8,8,8,8,8,8,8,8,8,8,8,8,8,8,8,8,8,8,8,8,8,8,8,8,8,8,8,8,8,8,8,8,8,8,8,8,8,8,8,8,8,8,8,8,8,8,8,8,8,8,8,8,8,8,8,8,8,8,8,8,8,8,8,8,8,8,8,8,8,8,8,8,8,8,8,8,8,8,8,8,8,8,8,8,8,8,8,8,8,8,8,8,8]).data.getD (Int.toNat (IntKind.u8.wrap (sShr .u64 j2.2 8))) 0).toNat:Int)))))
  (.rd 7 (0≤(IntKind.u8.wrap j2.2)∧(IntKind.u8.wrap j2.2)<((ByteArray.mk #[0,1,2,2,3,3,3,3,4,4,4,4,4,4,4,4,5,5,5,5,5,5,5,5,5,5,5,5,5,5,5,5,6,6,6,6,6,6,6,6,6,6,6,6,6,6,6,6,6,6,6,6,6,6,6,6,6,6,6,6,6,6,6,6,7,7,7,7,7,7,7,7,7,7,7,7,7,7,7,7,7,7,7,7,7,7,7,7,7,7,7,7,7,7,7,7,7,7,7,7,7,7,7,7,7,7,7,7,7,7,7,7,7,7,7,7,7,7,7,7,7,7,7,7,7,7,7,7,8,8,8,8,8,8,8,8,8,8,8,8,8,8,8,8,8,8,8,8,8,8,8,8,8,8,8,8,8,8,8,8,8,8,8,8,8,8,8,8,8,8,8,8,8,8,8,8,8,8,8,8,8,8,8,8,8,8,8,8,8,8,8,8,8,8,8,8,8,8,8,8,8,8,8,8,8,8,8,8,8,8,8,8,8,8,8,8,8,8,8,8,8,8,8,8,8,8,8,8,8,8,8,8,8,8,8,8,8,8,8,8,8,8,8,8,8,8,8,8,8,8,8,8,8,8,8,8]).size:Int)) (nY (((ByteArray.mk #[0,1,2,2,3,3,3,3,4,4,4,4,4,4,4,4,5,5,5,5,5,5,5,5,5,5,5,5,5,5,5,5,6,6,6,6,6,6,6,6,6,6,6,6,6,6,6,6,6,6,6,6,6,6,6,6,6,6,6,6,6,6,6,6,7,7,7,7,7,7,7,7,7,7,7,7,7,7,7,7,7,7,7,7,7,7,7,7,7,7,7,7,7,7,7,7,7,7,7,7,7,7,7,7,7,7,7,7,7,7,7,7,7,7,7,7,7,7,7,7,7,7,7,7,7,7,7,7,8,8,8,8,8,8,8,8,8,8,8,8,8,8,8,8,8,8,8,8,8,8,8,8,8,8,8,8,8,8,8,8,8,8,8,8,8,8,8,8,8,8,8,8,8,8,8,8,8,8,8,8,8,8,8,8,8,8,8,8,8,8,8,8,8,8,8,8,8,8,8,8,8,8,8,8,8,8,8,8,8,8,8,8,8,8,8,8,8,8,8,8,8,8,8,8,8,8,8,8,8,8,8,8,8,8,8,8,8,8,8,8,8,8,8,8,8,8,8,8,8,8,8,8,8,8,8,8]).data.getD (Int.toNat (IntKind.u8.wrap j2.2)) 0).toNat:Int))<| .ret 5 (IntKind.i64.wrap (j2.1+(IntKind.i64.wrap (((ByteArray.mk #[0,1,2,2,3,3,3,3,4,4,4,4,4,4,4,4,5,5,5,5,5,5,5,5,5,5,5,5,5,5,5,5,6,6,6,6,6,6,6,6,6,6,6,6,6,6,6,6,6,6,6,6,6,6,6,6,6,6,6,6,6,6,6,6,7,7,7,7,7,7,7,7,7,7,7,7,7,7,7,7,7,7,7,7,7,7,7,7,7,7,7,7,7,7,7,7,7,7,7,7,7,7,7,7,7,7,7,7,7,7,7,7,7,7,7,7,7,7,7,7,7,7,7,7,7,7,7,7,8,8,8,8,8,8,8,8,8,8,8,8,8,8,8,8,8,8,8,8,8,8,8,8,8,8,8,8,8,8,8,8,8,8,8,8,8,8,8,8,8,8,8,8,8,8,8,8,8,8,8,8,8,8,8,8,8,8,8,8,8,8,8,8,8,8,8,8,8,8,8,8,8,8,8,8,8,8,8,8,8,8,8,8,8,8,8,8,8,8,8,8,8,8,8,8,8,8,8,8,8,8,8,8,8,8,8,8,8,8,8,8,8,8,8,8,8,8,8,8,8,8,8,8,8,8,8,8]).data.getD (Int.toNat (IntKind.u8.wrap j2.2)) 0).toNat:Int))))))
noncomputable abbrev zJK:Fe:= .of Tryz.prog 139 zAg
theorem zJq (a0:Int):HS 139 (zDe a0) [.int .u64 a0] zAg:=Tr.fn (F:=zJK)
 (.call 7 (zPe a0) zAj fun r1=> .ret 4 (IntKind.i64.wrap (64-r1)))
noncomputable abbrev zEt:Fe:= .of Tryz.prog 119 zCv
def zNI (a1:Int) (a2:Int) (r3:Int) (y4:Int) (x0:Int) (x1:Int):St:=⟨[(16,nU x0),(15,nU x1),(14,nU (bAnd .u64 (sShl .u64 a1 (IntKind.u64.wrap r3)) 4294967295)),(13,nU (sShr .u64 (sShl .u64 a1 (IntKind.u64.wrap r3)) 32)),(11,nU y4),(10,nU (bAnd .u64 (sShl .u64 a2 (IntKind.u64.wrap r3)) 4294967295)),(9,nU (sShr .u64 (sShl .u64 a2 (IntKind.u64.wrap r3)) 32)),(2,nU (sShl .u64 a2 (IntKind.u64.wrap r3))),(8,nU (IntKind.u64.wrap r3))],[]⟩
def zOj (a1:Int) (a2:Int) (r3:Int) (y4:Int) (x:Int):St:=⟨[(15,nU x),(14,nU (bAnd .u64 (sShl .u64 a1 (IntKind.u64.wrap r3)) 4294967295)),(13,nU (sShr .u64 (sShl .u64 a1 (IntKind.u64.wrap r3)) 32)),(11,nU y4),(10,nU (bAnd .u64 (sShl .u64 a2 (IntKind.u64.wrap r3)) 4294967295)),(9,nU (sShr .u64 (sShl .u64 a2 (IntKind.u64.wrap r3)) 32)),(2,nU (sShl .u64 a2 (IntKind.u64.wrap r3))),(8,nU (IntKind.u64.wrap r3))],[]⟩
theorem zMF (a1:Int) (a2:Int) (r3:Int) (y4:Int):∀(x0:Int) (x1:Int),Ok (zB7 a1 a2 r3 y4 x0 x1) (LN zEt (.exit 0) (zOj a1 a2 r3 y4) 119 0 (zNI a1 a2 r3 y4 x0 x1)):=by
 refine zB7.partial_correctness a1 a2 r3 y4 _ ?_
 intro f IH x0 x1
 exact Tr.lpN (F:=zEt) (X:=Int×Int)
  (.join 7 9 (γ:=Bool) ⟨fun x=>[(78,bB x)],[16,15,14,13,11,10,9,2,8],fun _=>[],[]⟩
   (.ite 0 69 (x1≥4294967296)
   (.ret 10 true)
   (.ret 10 (decide ((IntKind.u64.wrap (x1*(bAnd .u64 (sShl .u64 a2 (IntKind.u64.wrap r3)) 4294967295)))>(IntKind.u64.wrap ((IntKind.u64.wrap (4294967296*x0))+(sShr .u64 (sShl .u64 a1 (IntKind.u64.wrap r3)) 32)))))))
   fun j10=> .iteB 1 78 (j10)
   (.let_ (IntKind.u64.wrap (x0+(sShr .u64 (sShl .u64 a2 (IntKind.u64.wrap r3)) 32)):Int) fun y11=> .ite 21 85 (y11≥4294967296)
   (.ret 4 (IntKind.u64.wrap (x1-1)))
   (.again 3 (y11,IntKind.u64.wrap (x1-1))))
   (.ret 4 x1)) _ fun x r=>IH x.1 x.2 r
def zOc (a1:Int) (a2:Int) (r3:Int) (j13:Int) (y14:Int) (x0:Int) (x1:Int):St:=⟨[(16,nU x0),(18,nU x1),(17,nU y14),(15,nU j13),(14,nU (bAnd .u64 (sShl .u64 a1 (IntKind.u64.wrap r3)) 4294967295)),(10,nU (bAnd .u64 (sShl .u64 a2 (IntKind.u64.wrap r3)) 4294967295)),(9,nU (sShr .u64 (sShl .u64 a2 (IntKind.u64.wrap r3)) 32)),(2,nU (sShl .u64 a2 (IntKind.u64.wrap r3))),(8,nU (IntKind.u64.wrap r3))],[]⟩
def zNl (a1:Int) (a2:Int) (r3:Int) (j13:Int) (y14:Int) (x:Int):St:=⟨[(18,nU x),(17,nU y14),(15,nU j13),(14,nU (bAnd .u64 (sShl .u64 a1 (IntKind.u64.wrap r3)) 4294967295)),(2,nU (sShl .u64 a2 (IntKind.u64.wrap r3))),(8,nU (IntKind.u64.wrap r3))],[]⟩
theorem zL6 (a1:Int) (a2:Int) (r3:Int) (j13:Int) (y14:Int):∀(x0:Int) (x1:Int),Ok (zCe a1 a2 r3 j13 y14 x0 x1) (LN zEt (.exit 2) (zNl a1 a2 r3 j13 y14) 119 1 (zOc a1 a2 r3 j13 y14 x0 x1)):=by
 refine zCe.partial_correctness a1 a2 r3 j13 y14 _ ?_
 intro f IH x0 x1
 exact Tr.lpN (F:=zEt) (X:=Int×Int)
  (.join 7 9 (γ:=Bool) ⟨fun x=>[(113,bB x)],[16,18,17,15,14,10,9,2,8],fun _=>[],[]⟩
   (.ite 0 104 (x1≥4294967296)
   (.ret 10 true)
   (.ret 10 (decide ((IntKind.u64.wrap (x1*(bAnd .u64 (sShl .u64 a2 (IntKind.u64.wrap r3)) 4294967295)))>(IntKind.u64.wrap ((IntKind.u64.wrap (4294967296*x0))+(bAnd .u64 (sShl .u64 a1 (IntKind.u64.wrap r3)) 4294967295)))))))
   fun j20=> .iteB 1 113 (j20)
   (.let_ (IntKind.u64.wrap (x0+(sShr .u64 (sShl .u64 a2 (IntKind.u64.wrap r3)) 32)):Int) fun y21=> .ite 21 120 (y21≥4294967296)
   (.ret 4 (IntKind.u64.wrap (x1-1)))
   (.again 3 (y21,IntKind.u64.wrap (x1-1))))
   (.ret 4 x1)) _ fun x r=>IH x.1 x.2 r
theorem zQa (a0:Int) (a1:Int) (a2:Int):HS 119 (zEl a0 a1 a2) [.int .u64 a0, .int .u64 a1, .int .u64 a2] zCv:=Tr.fn (F:=zEt)
 (.join 11 0 (γ:=Unit) ⟨fun _=>[],[0,1,2],fun _=>[],[]⟩
  (.ite 0 20 (a2=0)
  (.halt)
  (.ret 2 ()))
  fun j1=> .join 7 0 (γ:=Unit) ⟨fun _=>[],[0,1,2],fun _=>[],[]⟩
  (.ite 0 24 (a2≤a0)
  (.halt)
  (.ret 2 ()))
  fun j2=> .ite 6 27 (a0=0)
  (.rd 5 (a2≠0) (nU (IntKind.u64.wrap (Int.tdiv a1 a2)))<| .rd 2 (a2≠0) (nU (Int.tmod a1 a2))<| .ret 5 (IntKind.u64.wrap (Int.tdiv a1 a2),Int.tmod a1 a2))
  (.call 5 (zJq a2) zAj fun r3=> .rd 7 (0≤IntKind.u64.wrap r3) (nU (sShl .u64 a2 (IntKind.u64.wrap r3)))<| .rd 18 (0≤IntKind.u64.wrap r3) (nU (sShl .u64 a0 (IntKind.u64.wrap r3)))<| .rd 3 (0≤IntKind.u64.wrap (64-(IntKind.u64.wrap r3))) (nU (sShr .u64 a1 (IntKind.u64.wrap (64-(IntKind.u64.wrap r3)))))<| .let_ (bOr .u64 (sShl .u64 a0 (IntKind.u64.wrap r3)) (sShr .u64 a1 (IntKind.u64.wrap (64-(IntKind.u64.wrap r3)))):Int) fun y4=> .rd 7 (0≤IntKind.u64.wrap r3) (nU (sShl .u64 a1 (IntKind.u64.wrap r3)))<| .rd 18 (sShr .u64 (sShl .u64 a2 (IntKind.u64.wrap r3)) 32≠0) (nU (IntKind.u64.wrap (Int.tdiv y4 (sShr .u64 (sShl .u64 a2 (IntKind.u64.wrap r3)) 32))))<| .let_ (IntKind.u64.wrap (Int.tdiv y4 (sShr .u64 (sShl .u64 a2 (IntKind.u64.wrap r3)) 32)):Int) fun y6=> .let_ (IntKind.u64.wrap (y4-(IntKind.u64.wrap (y6*(sShr .u64 (sShl .u64 a2 (IntKind.u64.wrap r3)) 32)))):Int) fun y8=> .loop 14 ⟨_,_,_,_,_,zMF a1 a2 r3 y4 y8 y6⟩ fun j13=> .let_ (IntKind.u64.wrap ((IntKind.u64.wrap ((IntKind.u64.wrap (y4*4294967296))+(sShr .u64 (sShl .u64 a1 (IntKind.u64.wrap r3)) 32)))-(IntKind.u64.wrap (j13*(sShl .u64 a2 (IntKind.u64.wrap r3))))):Int) fun y14=> .rd 17 (sShr .u64 (sShl .u64 a2 (IntKind.u64.wrap r3)) 32≠0) (nU (IntKind.u64.wrap (Int.tdiv y14 (sShr .u64 (sShl .u64 a2 (IntKind.u64.wrap r3)) 32))))<| .let_ (IntKind.u64.wrap (Int.tdiv y14 (sShr .u64 (sShl .u64 a2 (IntKind.u64.wrap r3)) 32)):Int) fun y16=> .let_ (IntKind.u64.wrap (y14-(IntKind.u64.wrap (y16*(sShr .u64 (sShl .u64 a2 (IntKind.u64.wrap r3)) 32)))):Int) fun y18=> .loop 14 ⟨_,_,_,_,_,zL6 a1 a2 r3 j13 y14 y18 y16⟩ fun j23=> .let_ (IntKind.u64.wrap ((IntKind.u64.wrap (j13*4294967296))+j23):Int) fun y24=> .let_ (IntKind.u64.wrap ((IntKind.u64.wrap ((IntKind.u64.wrap (y14*4294967296))+(bAnd .u64 (sShl .u64 a1 (IntKind.u64.wrap r3)) 4294967295)))-(IntKind.u64.wrap (j23*(sShl .u64 a2 (IntKind.u64.wrap r3))))):Int) fun y26=> .rd 16 (0≤IntKind.u64.wrap r3) (nU (sShr .u64 y26 (IntKind.u64.wrap r3)))<| .ret 4 (y24,sShr .u64 y26 (IntKind.u64.wrap r3))))
noncomputable abbrev zAaQ:Fe:= .of Tryz.prog 235 zAe
theorem zKr (a0:Int) (a1:Int) (a2:Int):HS 235 (zG7 a0 a1 a2) [.int .i64 a0, .int .i64 a1, .int .i64 a2] zAe:=Tr.fn (F:=zAaQ)
 (.call 9 (zOn a2) zAk fun r1=> .join 2 3 (γ:=Bool) ⟨fun x=>[(19,bB x)],[0,1,2],fun _=>[],[]⟩
  (.iteX 0 16 (r1)
  (.ret 4 true)
  (.ret 4 (a1==0)))
  fun j2=> .iteB 1 19 (j2)
  (.ret 8 (0,1))
  (.rd 6 (0≤a2) (nU (sShl .u64 1 a2))<| .call 0 (zLK a0) zAo fun r3=> .hold 1 [.c, .rd (0≤a2) (nU (sShl .u64 1 a2)) 0]<| .call 0 (zJn r3 (sShl .u64 1 a2)) zDV fun r4=> .call 12 (zLK a1) zAo fun r5=> .ite 2 31 (r4.1≥r5)
  (.ret 8 (0,2))
  (.call 7 (zLK a1) zAo fun r6=> .call 0 (zQa r4.1 r4.2 r6) zDV fun r7=> .iteN 19 44 ((decide (a0<0))=(decide (a1<0)))
  (.ite 13 48 (r7.2>0)
  (.ite 8 51 (r7.1≥(IntKind.u64.wrap (9223372036854775807+1)))
  (.ret 10 (0,2))
  (.ite 14 56 ((IntKind.u64.wrap (r7.1+1))>(IntKind.u64.wrap (9223372036854775807+1)))
  (.ret 9 (0,2))
  (.ret 12 (IntKind.i64.wrap (IntKind.u64.wrap (0-(IntKind.u64.wrap (r7.1+1)))),0))))
  (.ite 9 56 (r7.1>(IntKind.u64.wrap (9223372036854775807+1)))
  (.ret 9 (0,2))
  (.ret 12 (IntKind.i64.wrap (IntKind.u64.wrap (0-r7.1)),0))))
  (.ite 9 62 (r7.1>9223372036854775807)
  (.ret 8 (0,2))
  (.ret 10 (IntKind.i64.wrap r7.1,0))))))
noncomputable abbrev zZr:Fe:= .of Tryz.prog 228 zAe
theorem zXV (a0:Int) (a1:Int):HS 228 (zKb a0 a1) [.int .i64 a0, .int .i64 a1] zAe:=Tr.fn (F:=zZr)
 (.call 9 (zKr a0 a1 0) zAd fun r1=> .ret 6 (r1.1,r1.2))
noncomputable abbrev zJV:Fe:= .of Tryz.prog 222 zAc
def zSc (a0:Int) (r1:(List Int)×Int) (x0:Int) (x1:List Int):St:=⟨[(22,nI x0),(21,nI (r1.1.length:Int)),(20,sI (.h 0) x1),(6,sI (.h 0) x1),(0,nI a0)],[]⟩
def zRC (a0:Int) (r1:(List Int)×Int) (x:(List Int)):St:=⟨[(6,sI (.h 1) x)],[]⟩
theorem zQX (a0:Int) (r1:(List Int)×Int):∀(x0:Int) (x1:List Int),Ok (zDi a0 r1 x0 x1) (LR zJV (.exit 0) (zRC a0 r1) 222 0 (zSc a0 r1 x0 x1)):=by
 refine zDi.partial_correctness a0 r1 _ ?_
 intro f IH x0 x1
 exact Tr.lpR (F:=zJV) (X:=Int×(List Int))
  (.ite 6 23 (x0<(r1.1.length:Int))
   (.idx 7 eI x1 x0<| .call 10 (zXV (at' x1 x0) a0) zAd fun r2=> .idx 3 eI x1 x0<| .sto 0 [20,6] eI x1 x0 r2.1<| .let_ (x1.set (Int.toNat x0) r2.1:List Int) fun y3=> .iteN 7 37 (r2.2=0)
   (.ret 11 (.inl ([],r2.2)))
   (.again 7 (IntKind.i64.wrap (x0+1),y3)))
   (.ret 4 (.inr x1))) _ fun x r=>IH x.1 x.2 r
theorem zIT (a0:Int) (a1:List (List Int)):HS 222 (zEh a0 a1) [.int .i64 a0, .lst (List.map (enL (D.int .i64)) a1)] zAc:=Tr.fn (F:=zJV)
 (.ite 11 11 (a0<1)
  (.ret 8 ([],1))
  (.call 5 (zY3 a1) zAh fun r1=> .iteN 12 18 (r1.2=0)
  (.ret 9 ([],r1.2))
  (.len 6 eI r1.1<| .loopR 4 id ⟨_,_,_,_,_,zQX a0 r1 0 r1.1⟩ fun j5=> .ret 8 (j5,0))))
noncomputable abbrev zU9:Fe:= .of Tryz.prog 218 zAc
theorem zUe (a0:List Int) (a1:Int) (a2:List zAa):HS 218 (zHV a0 a1 a2) [.lst (List.map (D.int .i64) a0), .int .i64 a1, .lst (List.map zAa.en a2)] zAc:=Tr.fn (F:=zU9)
 (.callG 16 [(.up (.s 0), .s 15),(.up (.s 1), .s 1615)] [] (zI0 a0 a1 a2 a1 []) fun r1=> .iteN 8 16 (r1.1=0)
  (.ret 9 ([],r1.1))
  (.len 5 zAa.e a2<| .call 1 (zIT (a2.length:Int) r1.2.2) zAh fun r2=> .ret 6 (r2.1,r2.2)))
noncomputable abbrev zJr:Fe:= .of Tryz.prog 214 zAc
theorem zFP (a0:zAv) (a1:List Int) (a2:List zAa):HS 214 (zCY a0 a1 a2) [.agg [.int .i64 a0.F_Model.F_Kind, .int .i64 a0.F_Model.F_In, .int .i64 a0.F_Model.F_Out, .int .i64 a0.F_Model.F_Hid, .int .i64 a0.F_Model.F_Frac], .lst (List.map (D.int .i64) a1), .lst (List.map zAa.en a2)] zAc:=Tr.fn (F:=zJr)
 (.call 13 (zUe a1 a0.F_Model.F_Frac a2) zAh fun r1=> .ret 6 (r1.1,r1.2))
def zFT (v:(List Int)×Int):PV:= .d (.clo (.func 259) [] [.cp [.lst (List.map (D.int .i64) v.1)] 0, .cp [.int .i64 v.2] 0])
noncomputable abbrev zJY:Fe:= .of Tryz.prog 256 zFT
theorem zFS (a0:List Int) (a1:Int):HS 256 (zCg a0 a1) [.lst (List.map (D.int .i64) a0), .int .i64 a1] zFT:=Tr.fn (F:=zJY)
 (.ite 12 6 (a1<1)
  (.halt)
  (.box 8 (.s 15) [.lst (List.map (D.int .i64) a0)]<| .box 0 (.s 31) [.int .i64 a1]<| .ret 0 (a0,a1)))
def zII (v:(List (List Int))×Int):PV:= .tup [.sl (.s 0) 1 0 (List.map (enL (D.int .i64)) v.1),nI v.2]
noncomputable abbrev zXU:Fe:= .of Tryz.prog 254 zII
theorem zPl (a0:Int) (a1:List Int):HS 254 (zHI a0 a1) [.int .i64 a0, .lst (List.map (D.int .i64) a1)] zII:=Tr.fn (F:=zXU)
 (.call 9 (zK8 a0) zAk fun r1=> .iteX 2 13 (r1)
  (.ret 8 ([],1))
  (.len 5 eI a1<| .rd 1 (a0≠0) (nI (IntKind.i64.wrap (Int.tdiv (a1.length:Int) a0)))<| .let_ (IntKind.i64.wrap ((IntKind.i64.wrap (Int.tdiv (a1.length:Int) a0))-1):Int) fun y2=> .call 7 (zGm y2) zAd fun r4=> .join 11 7 (γ:=Bool) ⟨fun x=>[(33,bB x)],[6,1],fun _=>[],[]⟩
  (.iteN 0 26 (r4.2=0)
  (.ret 8 true)
  (.let_ (IntKind.i64.wrap ((IntKind.i64.wrap (Int.tdiv (a1.length:Int) a0))*a0):Int) fun y5=> .len 4 eI a1<| .ret 3 (y5 !=(a1.length:Int))))
  fun j7=> .iteB 1 33 (j7)
  (.ret 8 ([],4))
  (.callZ 11 (zFS a1 (IntKind.i64.wrap (Int.tdiv (a1.length:Int) a0))) fun r8=> .rng 2 eI r8.1 r8.2 zRj ⟨fun _=>[],[9],fun x_9=>[(.s 11215,[.sl (.h 0) 1 0 (List.map (enL (D.int .i64)) x_9)])],[]⟩ []
  (fun (x_9:(List (List Int))) c_10=> .call 2 (zD3 c_10) zD8 fun r11=> .hold 1 []<| .hold 2 []<| .app 0 (eL eI) 24 x_9 [r11]<| .ret 3 (x_9++[r11]))
  fun j12=> .ret 8 (j12,0))))
noncomputable abbrev zXo:Fe:= .of Tryz.prog 251 zAg
theorem zWp (a0:Int) (a1:List Int) (a2:List zAa):HS 251 (zLS a0 a1 a2) [.int .i64 a0, .lst (List.map (D.int .i64) a1), .lst (List.map zAa.en a2)] zAg:=Tr.fn (F:=zXo)
 (.callZ 8 (zPl a0 a1) fun r1=> .iteN 12 16 (r1.2=0)
  (.ret 8 r1.2)
  (.idx 5 (eL eI) r1.1 0<| .len 1 eI (at' r1.1 0)<| .call 4 (zOm (IntKind.i64.wrap (((at' r1.1 0).length:Int)-1)) a0 a1 a2) zAj fun r2=> .ret 3 r2))
noncomputable abbrev zKZ:Fe:= .of Tryz.prog 257 zAc
def zS2 (a2:List Int) (a3:Int) (r1:(List (List Int))×Int) (x0:Int) (x1:List Int):St:=⟨[(45,nI x0),(44,nI (r1.1.length:Int)),(43, .sl (.s 1632) 1 0 (List.map (enL (D.int .i64)) r1.1)),(12,sI (.h 0) x1),(2,lI a2),(3,nI a3)],[]⟩
def zSW (a2:List Int) (a3:Int) (r1:(List (List Int))×Int) (x:(List Int)):St:=⟨[(12,sI (.h 1) x)],[]⟩
theorem zRO (a2:List Int) (a3:Int) (r1:(List (List Int))×Int):∀(x0:Int) (x1:List Int),Ok (zCo a2 a3 r1 x0 x1) (LR zKZ (.exit 1) (zSW a2 a3 r1) 257 0 (zS2 a2 a3 r1 x0 x1)):=by
 refine zCo.partial_correctness a2 a3 r1 _ ?_
 intro f IH x0 x1
 exact Tr.lpR (F:=zKZ) (X:=Int×(List Int))
  (.ite 6 46 (x0<(r1.1.length:Int))
   (.idx 7 (eL eI) r1.1 x0<| .call 11 (zHf (at' r1.1 x0) a2 a3) zAd fun r5=> .idx 3 eI x1 x0<| .sto 0 [12] eI x1 x0 r5.1<| .let_ (x1.set (Int.toNat x0) r5.1:List Int) fun y6=> .iteN 7 61 (r5.2=0)
   (.ret 11 (.inl ([],r5.2)))
   (.again 7 (IntKind.i64.wrap (x0+1),y6)))
   (.ret 4 (.inr x1))) _ fun x r=>IH x.1 x.2 r
theorem zUZ (a0:Int) (a1:List Int) (a2:List Int) (a3:Int):HS 257 (zIs a0 a1 a2 a3) [.int .i64 a0, .lst (List.map (D.int .i64) a1), .lst (List.map (D.int .i64) a2), .int .i64 a3] zAc:=Tr.fn (F:=zKZ)
 (.callZ 9 (zPl a0 a1) fun r1=> .iteN 14 21 (r1.2=0)
  (.ret 10 ([],r1.2))
  (.idx 4 (eL eI) r1.1 0<| .len 1 eI (at' r1.1 0)<| .len 2 eI a2<| .iteN 3 25 ((IntKind.i64.wrap (((at' r1.1 0).length:Int)-1))=(a2.length:Int))
  (.ret 9 ([],4))
  (.join 6 3 (γ:=Bool) ⟨fun x=>[(40,bB x)],[10,0,2,3],fun _=>[],[]⟩
  (.ite 0 37 (a3<0)
  (.ret 4 true)
  (.ret 4 (decide (a3>30))))
  fun j2=> .iteB 2 34 (j2)
  (.ret 9 ([],1))
  (.mk 6 eI 8 0 a0 a0<| .let_ (List.replicate (Int.toNat a0) 0:List Int) fun y3=> .len 6 (eL eI) r1.1<| .loopR 4 id ⟨_,_,_,_,_,zRO a2 a3 r1 0 y3⟩ fun j8=> .ret 8 (j8,0)))))
noncomputable abbrev zEF:Fe:= .of Tryz.prog 263 zAg
def zJu (a0:List Int) (x0:Int) (x1:Int):St:=⟨[(4,nI x0),(3,nI x1),(0,lI a0)],[]⟩
def zJp (a0:List Int) (x:Int):St:=⟨[(3,nI x)],[]⟩
theorem zI2 (a0:List Int):∀(x0:Int) (x1:Int),Ok (zBi a0 x0 x1) (LN zEF (.exit 0) (zJp a0) 263 0 (zJu a0 x0 x1)):=by
 refine zBi.partial_correctness a0 _ ?_
 intro f IH x0 x1
 exact Tr.lpN (F:=zEF) (X:=Int×Int)
  (.len 6 eI a0<| .ite 2 15 (x0<(a0.length:Int))
   (.idx 8 eI a0 x0<| .again 10 (IntKind.i64.wrap (x0+1),if (at' a0 x0)>x1 then at' a0 x0 else x1))
   (.ret 4 x1)) _ fun x r=>IH x.1 x.2 r
theorem zKa (a0:List Int):HS 263 (zED a0) [.lst (List.map (D.int .i64) a0)] zAg:=Tr.fn (F:=zEF)
 (.len 8 eI a0<| .join 2 0 (γ:=Unit) ⟨fun _=>[],[0],fun _=>[],[]⟩
  (.ite 0 7 ((a0.length:Int)<1)
  (.halt)
  (.ret 2 ()))
  fun j1=> .idx 3 eI a0 0<| .loop 10 ⟨_,_,_,_,_,zI2 a0 1 (at' a0 0)⟩ fun j2=> .ret 7 j2)
noncomputable abbrev zEj:Fe:= .of Tryz.prog 262 zAg
def zIM (a0:List Int) (a1:Int) (x0:Int):St:=⟨[(8,nI x0),(7,nI (a0.length:Int)),(0,lI a0),(1,nI a1)],[]⟩
def zIN (a0:List Int) (a1:Int) (x:Unit):St:=⟨[],[]⟩
theorem zIJ (a0:List Int) (a1:Int):∀(x0:Int),Ok (zBv a0 a1 x0) (LR zEj (.exit 0) (zIN a0 a1) 262 0 (zIM a0 a1 x0)):=by
 refine zBv.partial_correctness a0 a1 _ ?_
 intro f IH x0
 exact Tr.lpR (F:=zEj) (X:=Int)
  (.ite 6 9 (x0<(a0.length:Int))
   (.idx 14 eI a0 x0<| .ite 3 16 (a1=(at' a0 x0))
   (.ret 10 (.inl x0))
   (.again 7 (IntKind.i64.wrap (x0+1))))
   (.ret 4 (.inr ()))) _ fun x r=>IH x r
theorem zJx (a0:List Int) (a1:Int):HS 262 (zEf a0 a1) [.lst (List.map (D.int .i64) a0), .int .i64 a1] zAg:=Tr.fn (F:=zEj)
 (.len 8 eI a0<| .loopR 4 id ⟨_,_,_,_,_,zIJ a0 a1 0⟩ fun j1=> .ret 6 (-1))
noncomputable abbrev zVI:Fe:= .of Tryz.prog 260 zAe
theorem zUW (a0:List Int):HS 260 (zG6 a0) [.lst (List.map (D.int .i64) a0)] zAe:=Tr.fn (F:=zVI)
 (.len 9 eI a0<| .ite 2 7 ((a0.length:Int)=0)
  (.ret 8 (0,1))
  (.call 6 (zGY a0) zAj fun r1=> .iteN 7 11 (r1=0)
  (.ret 9 (0,r1))
  (.call 6 (zKa a0) zAj fun r2=> .call 0 (zJx a0 r2) zAj fun r3=> .ret 4 (r3,0))))
noncomputable abbrev zZS:Fe:= .of Tryz.prog 138 zAe
theorem zYQ (a0:Int):HS 138 (zK9 a0) [.int .i64 a0] zAe:=Tr.fn (F:=zZS)
 (.call 8 (zHe 0 a0) zAd fun r1=> .ret 6 (r1.1,r1.2))
noncomputable def zXO (a0:Nat):Sg Tryz.prog Nat:=⟨266,zHO a0,[.flt .f64 a0],zIC⟩
theorem zWd (a0:Nat):(zXO a0).Holds:=zWE a0
theorem zWk:∀v,(zIC v).noLst:=fun _=>trivial
noncomputable abbrev zGL:Fe:= .of Tryz.prog 265 zAy
def zTO (a0:Int) (x0:Int):St:=⟨[(3,nU x0),(0,nU a0)],[]⟩
def zSC (a0:Int) (x:Int):St:=⟨[(3,nU x),(0,nU a0)],[]⟩
theorem zRT (a0:Int):∀(x0:Int),Ok (zE2 a0 x0) (LN zGL (.exit 0) (zSC a0) 265 0 (zTO a0 x0)):=by
 refine zE2.partial_correctness a0 _ ?_
 intro f IH x0
 exact Tr.lpN (F:=zGL) (X:=Int)
  (.ite 10 14 ((IntKind.u64.wrap (x0*x0))>a0)
   (.again 9 (IntKind.u64.wrap (x0-1)))
   (.ret 4 x0)) _ fun x r=>IH x r
def zS4 (a0:Int) (x0:Int):St:=⟨[(3,nU x0),(0,nU a0)],[]⟩
def zSn (a0:Int) (x:Int):St:=⟨[(3,nU x)],[]⟩
theorem zR4 (a0:Int):∀(x0:Int),Ok (zEY a0 x0) (LN zGL (.exit 2) (zSn a0) 265 1 (zS4 a0 x0)):=by
 refine zEY.partial_correctness a0 _ ?_
 intro f IH x0
 exact Tr.lpN (F:=zGL) (X:=Int)
  (.join 7 8 (γ:=Bool) ⟨fun x=>[(27,bB x)],[3,0],fun _=>[],[]⟩
   (.ite 0 19 (x0<4294967295)
   (.ret 9 (decide ((IntKind.u64.wrap ((IntKind.u64.wrap (x0+1))*(IntKind.u64.wrap (x0+1))))≤a0)))
   (.ret 9 false))
   fun j5=> .iteB 1 27 (j5)
   (.again 9 (IntKind.u64.wrap (x0+1)))
   (.ret 4 x0)) _ fun x r=>IH x r
theorem zBs (a0:Int):HS 265 (zAz a0) [.int .u64 a0] zAy:=Tr.fn (F:=zGL)
 (.call 8 (zWd (floatOfInt .f64 a0)) zWk fun r1=> .rd 0 ((floatToIntVal .f64 r1 .u64).isSome=true) (nU ((floatToIntVal .f64 r1 .u64).getD 0))<| .let_ (if (4294967295:Int)<((floatToIntVal .f64 r1 .u64).getD 0) then 4294967295 else (floatToIntVal .f64 r1 .u64).getD 0:Int) fun y2=> .loop 11 ⟨_,_,_,_,_,zRT a0 y2⟩ fun j4=> .loop 4 ⟨_,_,_,_,_,zR4 a0 j4⟩ fun j6=> .ret 7 j6)
def zJP (v:Int×Int×Int×Int×Int×Int×Int×Int×Int×Int×Int×Int×Int×Int×Int×Int×Int):PV:= .d (.agg [.int .u64 v.1, .int .u64 v.2.1, .int .u64 v.2.2.1, .int .u64 v.2.2.2.1, .int .u64 v.2.2.2.2.1, .int .u64 v.2.2.2.2.2.1, .int .u64 v.2.2.2.2.2.2.1, .int .u64 v.2.2.2.2.2.2.2.1, .int .u64 v.2.2.2.2.2.2.2.2.1, .int .u64 v.2.2.2.2.2.2.2.2.2.1, .int .u64 v.2.2.2.2.2.2.2.2.2.2.1, .int .u64 v.2.2.2.2.2.2.2.2.2.2.2.1, .int .u64 v.2.2.2.2.2.2.2.2.2.2.2.2.1, .int .u64 v.2.2.2.2.2.2.2.2.2.2.2.2.2.1, .int .u64 v.2.2.2.2.2.2.2.2.2.2.2.2.2.2.1, .int .u64 v.2.2.2.2.2.2.2.2.2.2.2.2.2.2.2.1, .int .u64 v.2.2.2.2.2.2.2.2.2.2.2.2.2.2.2.2])
noncomputable abbrev zV0:Fe:= .of Tryz.prog 264 zJP
theorem zVf:∀v,(zJP v).noLst:=fun _=>⟨trivial,trivial,trivial,trivial,trivial,trivial,trivial,trivial,trivial,trivial,trivial,trivial,trivial,trivial,trivial,trivial,trivial,trivial⟩
theorem zVi:HS 264 zID [] zJP:=Tr.fn (F:=zV0)
 (.call 60 (zBs 576460752303423488) zAo fun r1=> .hold 1 []<| .call 72 (zBs (IntKind.u64.wrap (1073741824*r1))) zAo fun r2=> .hold 1 []<| .call 36 (zBs (IntKind.u64.wrap (r1*536870912))) zAo fun r3=> .hold 1 []<| .call 72 (zBs (IntKind.u64.wrap (1073741824*r2))) zAo fun r4=> .hold 1 []<| .call 36 (zBs (IntKind.u64.wrap (r2*r1))) zAo fun r5=> .hold 1 []<| .call 36 (zBs (IntKind.u64.wrap (r1*r3))) zAo fun r6=> .hold 1 []<| .call 36 (zBs (IntKind.u64.wrap (r3*536870912))) zAo fun r7=> .hold 1 []<| .call 72 (zBs (IntKind.u64.wrap (1073741824*r4))) zAo fun r8=> .hold 1 []<| .call 36 (zBs (IntKind.u64.wrap (r4*r2))) zAo fun r9=> .hold 1 []<| .call 36 (zBs (IntKind.u64.wrap (r2*r5))) zAo fun r10=> .hold 1 []<| .call 36 (zBs (IntKind.u64.wrap (r5*r1))) zAo fun r11=> .hold 1 []<| .call 36 (zBs (IntKind.u64.wrap (r1*r6))) zAo fun r12=> .hold 1 []<| .call 36 (zBs (IntKind.u64.wrap (r6*r3))) zAo fun r13=> .hold 1 []<| .call 36 (zBs (IntKind.u64.wrap (r3*r7))) zAo fun r14=> .hold 1 []<| .call 36 (zBs (IntKind.u64.wrap (r7*536870912))) zAo fun r15=> .hold 1 []<| .ret 48 (1073741824,r8,r4,r9,r2,r10,r5,r11,r1,r12,r6,r13,r3,r14,r7,r15,536870912))
noncomputable abbrev zXF:Fe:= .of Tryz.prog 261 zAe
theorem zKJ (a0:Int) (a1:Int):HS 261 (zGw a0 a1) [.int .i64 a0, .int .i64 a1] zAe:=Tr.fn (F:=zXF)
 (.join 11 3 (γ:=Bool) ⟨fun x=>[(15,bB x)],[0,1],fun _=>[],[]⟩
  (.ite 0 12 (a1<0)
  (.ret 4 true)
  (.ret 4 (decide (a1>30))))
  fun j1=> .join 1 3 (γ:=Bool) ⟨fun x=>[(19,bB x)],[0,1],fun _=>[],[]⟩
  (.iteB 0 16 (j1)
  (.ret 4 true)
  (.ret 4 (decide (a0>0))))
  fun j2=> .iteB 1 19 (j2)
  (.ret 8 (0,1))
  (.call 5 (zYQ a0) zAd fun r3=> .iteN 12 26 (r3.2=0)
  (.ret 9 (0,r3.2))
  (.rd 6 (0≤a1) (nI (sShl .i64 1 a1))<| .let_ (sShl .i64 (bAnd .i64 r3.1 (IntKind.i64.wrap ((sShl .i64 1 a1)-1))) 4:Int) fun y4=> .rd 4 (0≤a1) (nI (sShr .i64 y4 a1))<| .call 4 zVi zVf fun r6=> .rd 6 (0≤sShr .i64 y4 a1∧sShr .i64 y4 a1<((17:Nat):Int)) (.ptr (.s 11231) (0+Int.toNat (sShr .i64 y4 a1)*1))<| .ldA 0 .u64 ([r6.1,r6.2.1,r6.2.2.1,r6.2.2.2.1,r6.2.2.2.2.1,r6.2.2.2.2.2.1,r6.2.2.2.2.2.2.1,r6.2.2.2.2.2.2.2.1,r6.2.2.2.2.2.2.2.2.1,r6.2.2.2.2.2.2.2.2.2.1,r6.2.2.2.2.2.2.2.2.2.2.1,r6.2.2.2.2.2.2.2.2.2.2.2.1,r6.2.2.2.2.2.2.2.2.2.2.2.2.1,r6.2.2.2.2.2.2.2.2.2.2.2.2.2.1,r6.2.2.2.2.2.2.2.2.2.2.2.2.2.2.1,r6.2.2.2.2.2.2.2.2.2.2.2.2.2.2.2.1,r6.2.2.2.2.2.2.2.2.2.2.2.2.2.2.2.2]:List Int) (sShr .i64 y4 a1) 0<| .rd 2 (0≤a1) (nI (sShr .i64 r3.1 a1))<| .rd 6 (0≤if (63:Int)<(IntKind.u64.wrap ((IntKind.u64.wrap (sShr .i64 r3.1 a1))+(IntKind.u64.wrap (IntKind.i64.wrap (30-a1))))) then 63 else IntKind.u64.wrap ((IntKind.u64.wrap (sShr .i64 r3.1 a1))+(IntKind.u64.wrap (IntKind.i64.wrap (30-a1))))) (nU (sShr .u64 (at' ([r6.1,r6.2.1,r6.2.2.1,r6.2.2.2.1,r6.2.2.2.2.1,r6.2.2.2.2.2.1,r6.2.2.2.2.2.2.1,r6.2.2.2.2.2.2.2.1,r6.2.2.2.2.2.2.2.2.1,r6.2.2.2.2.2.2.2.2.2.1,r6.2.2.2.2.2.2.2.2.2.2.1,r6.2.2.2.2.2.2.2.2.2.2.2.1,r6.2.2.2.2.2.2.2.2.2.2.2.2.1,r6.2.2.2.2.2.2.2.2.2.2.2.2.2.1,r6.2.2.2.2.2.2.2.2.2.2.2.2.2.2.1,r6.2.2.2.2.2.2.2.2.2.2.2.2.2.2.2.1,r6.2.2.2.2.2.2.2.2.2.2.2.2.2.2.2.2]:List Int) (sShr .i64 y4 a1)) (if (63:Int)<(IntKind.u64.wrap ((IntKind.u64.wrap (sShr .i64 r3.1 a1))+(IntKind.u64.wrap (IntKind.i64.wrap (30-a1))))) then 63 else IntKind.u64.wrap ((IntKind.u64.wrap (sShr .i64 r3.1 a1))+(IntKind.u64.wrap (IntKind.i64.wrap (30-a1)))))))<| .ret 5 (IntKind.i64.wrap (sShr .u64 (at' ([r6.1,r6.2.1,r6.2.2.1,r6.2.2.2.1,r6.2.2.2.2.1,r6.2.2.2.2.2.1,r6.2.2.2.2.2.2.1,r6.2.2.2.2.2.2.2.1,r6.2.2.2.2.2.2.2.2.1,r6.2.2.2.2.2.2.2.2.2.1,r6.2.2.2.2.2.2.2.2.2.2.1,r6.2.2.2.2.2.2.2.2.2.2.2.1,r6.2.2.2.2.2.2.2.2.2.2.2.2.1,r6.2.2.2.2.2.2.2.2.2.2.2.2.2.1,r6.2.2.2.2.2.2.2.2.2.2.2.2.2.2.1,r6.2.2.2.2.2.2.2.2.2.2.2.2.2.2.2.1,r6.2.2.2.2.2.2.2.2.2.2.2.2.2.2.2.2]:List Int) (sShr .i64 y4 a1)) (if (63:Int)<(IntKind.u64.wrap ((IntKind.u64.wrap (sShr .i64 r3.1 a1))+(IntKind.u64.wrap (IntKind.i64.wrap (30-a1))))) then 63 else IntKind.u64.wrap ((IntKind.u64.wrap (sShr .i64 r3.1 a1))+(IntKind.u64.wrap (IntKind.i64.wrap (30-a1)))))),0))))
noncomputable abbrev zBX:Fe:= .of Tryz.prog 258 zAc
def zSt (a0:Int) (a1:List Int) (r1:Int×Int) (x0:Int) (x1:Int) (x2:List Int):St:=⟨[(39,nI x0),(38,nI (a1.length:Int)),(37,lI a1),(9,nI x1),(8,sI (.h 0) x2),(6,nI r1.1),(0,nI a0),(1,lI a1)],[]⟩
def zSX (a0:Int) (a1:List Int) (r1:Int×Int) (x:Int×(List Int)):St:=⟨[(9,nI x.1),(8,sI (.h 1) x.2),(0,nI a0)],[]⟩
theorem zRG (a0:Int) (a1:List Int) (r1:Int×Int):∀(x0:Int) (x1:Int) (x2:List Int),Ok (zEV a0 a1 r1 x0 x1 x2) (LR zBX (.exit 0) (zSX a0 a1 r1) 258 0 (zSt a0 a1 r1 x0 x1 x2)):=by
 refine zEV.partial_correctness a0 a1 r1 _ ?_
 intro f IH x0 x1 x2
 exact Tr.lpR (F:=zBX) (X:=Int×Int×(List Int))
  (.ite 6 40 (x0<(a1.length:Int))
   (.idx 7 eI a1 x0<| .idx 9 eI a1 r1.1<| .call 1 (zHe (at' a1 x0) (at' a1 r1.1)) zAd fun r4=> .ite 12 54 (r4.2=0)
   (.call 6 (zKJ r4.1 a0) zAd fun r5=> .idx 3 eI x2 x0<| .sto 0 [8] eI x2 x0 r5.1<| .let_ (x2.set (Int.toNat x0) r5.1:List Int) fun y6=> .iteN 8 65 (r5.2=0)
   (.ret 12 (.inl ([],r5.2)))
   (.idx 6 eI y6 x0<| .again 9 (IntKind.i64.wrap (x0+1),IntKind.i64.wrap (x1+(at' y6 x0)),y6)))
   (.iteN 8 65 (r4.2=0)
   (.ret 12 (.inl ([],r4.2)))
   (.idx 6 eI x2 x0<| .again 9 (IntKind.i64.wrap (x0+1),IntKind.i64.wrap (x1+(at' x2 x0)),x2))))
   (.ret 4 (.inr (x1,x2)))) _ fun x r=>IH x.1 x.2.1 x.2.2 r
def zTF (a0:Int) (j8:Int×(List Int)) (x0:Int) (x1:List Int):St:=⟨[(76,nI x0),(75,nI (j8.2.length:Int)),(74,sI (.h 2) x1),(9,nI j8.1),(8,sI (.h 2) x1),(0,nI a0)],[]⟩
def zTg (a0:Int) (j8:Int×(List Int)) (x:(List Int)):St:=⟨[(8,sI (.h 3) x)],[]⟩
theorem zR6 (a0:Int) (j8:Int×(List Int)):∀(x0:Int) (x1:List Int),Ok (zGC a0 j8 x0 x1) (LR zBX (.exit 2) (zTg a0 j8) 258 1 (zTF a0 j8 x0 x1)):=by
 refine zGC.partial_correctness a0 j8 _ ?_
 intro f IH x0 x1
 exact Tr.lpR (F:=zBX) (X:=Int×(List Int))
  (.ite 6 77 (x0<(j8.2.length:Int))
   (.idx 7 eI x1 x0<| .call 11 (zKr (at' x1 x0) j8.1 a0) zAd fun r9=> .idx 3 eI x1 x0<| .sto 0 [74,8] eI x1 x0 r9.1<| .let_ (x1.set (Int.toNat x0) r9.1:List Int) fun y10=> .iteN 7 92 (r9.2=0)
   (.ret 11 (.inl ([],r9.2)))
   (.again 7 (IntKind.i64.wrap (x0+1),y10)))
   (.ret 4 (.inr x1))) _ fun x r=>IH x.1 x.2 r
def zTt (a0:Int) (a1:List Int) (r1:Int×Int) (x0:Int) (x1:Int) (x2:List Int):St:=⟨[(39,nI x0),(38,nI (a1.length:Int)),(37,lI a1),(9,nI x1),(8,sI (.h 0) x2),(6,nI r1.1),(0,nI a0),(1,lI a1)],[]⟩
def zTj (a0:Int) (a1:List Int) (r1:Int×Int) (x:Int×(List Int)):St:=⟨[(9,nI x.1),(8,sI (.h 1) x.2),(0,nI a0)],[]⟩
theorem zRM (a0:Int) (a1:List Int) (r1:Int×Int):∀(x0:Int) (x1:Int) (x2:List Int),Ok (zCV a0 a1 r1 x0 x1 x2) (LR zBX (.exit 0) (zTj a0 a1 r1) 258 0 (zTt a0 a1 r1 x0 x1 x2)):=by
 refine zCV.partial_correctness a0 a1 r1 _ ?_
 intro f IH x0 x1 x2
 exact Tr.lpR (F:=zBX) (X:=Int×Int×(List Int))
  (.ite 6 40 (x0<(a1.length:Int))
   (.idx 7 eI a1 x0<| .idx 9 eI a1 r1.1<| .call 1 (zHe (at' a1 x0) (at' a1 r1.1)) zAd fun r16=> .ite 12 54 (r16.2=0)
   (.call 6 (zKJ r16.1 a0) zAd fun r17=> .idx 3 eI x2 x0<| .sto 0 [8] eI x2 x0 r17.1<| .let_ (x2.set (Int.toNat x0) r17.1:List Int) fun y18=> .iteN 8 65 (r17.2=0)
   (.ret 12 (.inl ([],r17.2)))
   (.idx 6 eI y18 x0<| .again 9 (IntKind.i64.wrap (x0+1),IntKind.i64.wrap (x1+(at' y18 x0)),y18)))
   (.iteN 8 65 (r16.2=0)
   (.ret 12 (.inl ([],r16.2)))
   (.idx 6 eI x2 x0<| .again 9 (IntKind.i64.wrap (x0+1),IntKind.i64.wrap (x1+(at' x2 x0)),x2))))
   (.ret 4 (.inr (x1,x2)))) _ fun x r=>IH x.1 x.2.1 x.2.2 r
def zTc (a0:Int) (j20:Int×(List Int)) (x0:Int) (x1:List Int):St:=⟨[(76,nI x0),(75,nI (j20.2.length:Int)),(74,sI (.h 2) x1),(9,nI j20.1),(8,sI (.h 2) x1),(0,nI a0)],[]⟩
def zTM (a0:Int) (j20:Int×(List Int)) (x:(List Int)):St:=⟨[(8,sI (.h 3) x)],[]⟩
theorem zRN (a0:Int) (j20:Int×(List Int)):∀(x0:Int) (x1:List Int),Ok (zCX a0 j20 x0 x1) (LR zBX (.exit 2) (zTM a0 j20) 258 1 (zTc a0 j20 x0 x1)):=by
 refine zCX.partial_correctness a0 j20 _ ?_
 intro f IH x0 x1
 exact Tr.lpR (F:=zBX) (X:=Int×(List Int))
  (.ite 6 77 (x0<(j20.2.length:Int))
   (.idx 7 eI x1 x0<| .call 11 (zKr (at' x1 x0) j20.1 a0) zAd fun r21=> .idx 3 eI x1 x0<| .sto 0 [74,8] eI x1 x0 r21.1<| .let_ (x1.set (Int.toNat x0) r21.1:List Int) fun y22=> .iteN 7 92 (r21.2=0)
   (.ret 11 (.inl ([],r21.2)))
   (.again 7 (IntKind.i64.wrap (x0+1),y22)))
   (.ret 4 (.inr x1))) _ fun x r=>IH x.1 x.2 r
def zSU (a0:Int) (a1:List Int) (r1:Int×Int) (x0:Int) (x1:Int) (x2:List Int):St:=⟨[(39,nI x0),(38,nI (a1.length:Int)),(37,lI a1),(9,nI x1),(8,sI (.h 0) x2),(6,nI r1.1),(0,nI a0),(1,lI a1)],[]⟩
def zSP (a0:Int) (a1:List Int) (r1:Int×Int) (x:Int×(List Int)):St:=⟨[(9,nI x.1),(8,sI (.h 1) x.2),(0,nI a0)],[]⟩
theorem zRX (a0:Int) (a1:List Int) (r1:Int×Int):∀(x0:Int) (x1:Int) (x2:List Int),Ok (zE6 a0 a1 r1 x0 x1 x2) (LR zBX (.exit 0) (zSP a0 a1 r1) 258 0 (zSU a0 a1 r1 x0 x1 x2)):=by
 refine zE6.partial_correctness a0 a1 r1 _ ?_
 intro f IH x0 x1 x2
 exact Tr.lpR (F:=zBX) (X:=Int×Int×(List Int))
  (.ite 6 40 (x0<(a1.length:Int))
   (.idx 7 eI a1 x0<| .idx 9 eI a1 r1.1<| .call 1 (zHe (at' a1 x0) (at' a1 r1.1)) zAd fun r27=> .ite 12 54 (r27.2=0)
   (.call 6 (zKJ r27.1 a0) zAd fun r28=> .idx 3 eI x2 x0<| .sto 0 [8] eI x2 x0 r28.1<| .let_ (x2.set (Int.toNat x0) r28.1:List Int) fun y29=> .iteN 8 65 (r28.2=0)
   (.ret 12 (.inl ([],r28.2)))
   (.idx 6 eI y29 x0<| .again 9 (IntKind.i64.wrap (x0+1),IntKind.i64.wrap (x1+(at' y29 x0)),y29)))
   (.iteN 8 65 (r27.2=0)
   (.ret 12 (.inl ([],r27.2)))
   (.idx 6 eI x2 x0<| .again 9 (IntKind.i64.wrap (x0+1),IntKind.i64.wrap (x1+(at' x2 x0)),x2))))
   (.ret 4 (.inr (x1,x2)))) _ fun x r=>IH x.1 x.2.1 x.2.2 r
def zTi (a0:Int) (j31:Int×(List Int)) (x0:Int) (x1:List Int):St:=⟨[(76,nI x0),(75,nI (j31.2.length:Int)),(74,sI (.h 2) x1),(9,nI j31.1),(8,sI (.h 2) x1),(0,nI a0)],[]⟩
def zSK (a0:Int) (j31:Int×(List Int)) (x:(List Int)):St:=⟨[(8,sI (.h 3) x)],[]⟩
theorem zRv (a0:Int) (j31:Int×(List Int)):∀(x0:Int) (x1:List Int),Ok (zGD a0 j31 x0 x1) (LR zBX (.exit 2) (zSK a0 j31) 258 1 (zTi a0 j31 x0 x1)):=by
 refine zGD.partial_correctness a0 j31 _ ?_
 intro f IH x0 x1
 exact Tr.lpR (F:=zBX) (X:=Int×(List Int))
  (.ite 6 77 (x0<(j31.2.length:Int))
   (.idx 7 eI x1 x0<| .call 11 (zKr (at' x1 x0) j31.1 a0) zAd fun r32=> .idx 3 eI x1 x0<| .sto 0 [74,8] eI x1 x0 r32.1<| .let_ (x1.set (Int.toNat x0) r32.1:List Int) fun y33=> .iteN 7 92 (r32.2=0)
   (.ret 11 (.inl ([],r32.2)))
   (.again 7 (IntKind.i64.wrap (x0+1),y33)))
   (.ret 4 (.inr x1))) _ fun x r=>IH x.1 x.2 r
theorem zUU (a0:Int) (a1:List Int):HS 258 (zIA a0 a1) [.int .i64 a0, .lst (List.map (D.int .i64) a1)] zAc:=Tr.fn (F:=zBX)
 (.call 8 (zUW a1) zAd fun r1=> .ite 12 23 (r1.2=0)
  (.ite 3 26 (a0<0)
  (.iteN 15 32 (1=0)
  (.ret 9 ([],1))
  (.len 5 eI a1<| .mk 0 eI 8 0 (a1.length:Int) (a1.length:Int)<| .let_ (List.replicate (Int.toNat (a1.length:Int)) 0:List Int) fun y2=> .len 10 eI a1<| .loopR 4 id ⟨_,_,_,_,_,zRG a0 a1 r1 0 0 y2⟩ fun j8=> .len 5 eI j8.2<| .loopR 4 id ⟨_,_,_,_,_,zR6 a0 j8 0 j8.2⟩ fun j12=> .ret 8 (j12,0)))
  (.join 5 0 (γ:=Int) ⟨fun x=>[(7,nI x)],[6,0,1],fun _=>[],[]⟩
  (.ite 0 30 (a0>30)
  (.ret 4 1)
  (.ret 2 r1.2))
  fun j13=> .iteN 6 32 (j13=0)
  (.ret 9 ([],j13))
  (.len 5 eI a1<| .mk 0 eI 8 0 (a1.length:Int) (a1.length:Int)<| .let_ (List.replicate (Int.toNat (a1.length:Int)) 0:List Int) fun y14=> .len 10 eI a1<| .loopR 4 id ⟨_,_,_,_,_,zRM a0 a1 r1 0 0 y14⟩ fun j20=> .len 5 eI j20.2<| .loopR 4 id ⟨_,_,_,_,_,zRN a0 j20 0 j20.2⟩ fun j24=> .ret 8 (j24,0))))
  (.iteN 16 32 (r1.2=0)
  (.ret 9 ([],r1.2))
  (.len 5 eI a1<| .mk 0 eI 8 0 (a1.length:Int) (a1.length:Int)<| .let_ (List.replicate (Int.toNat (a1.length:Int)) 0:List Int) fun y25=> .len 10 eI a1<| .loopR 4 id ⟨_,_,_,_,_,zRX a0 a1 r1 0 0 y25⟩ fun j31=> .len 5 eI j31.2<| .loopR 4 id ⟨_,_,_,_,_,zRv a0 j31 0 j31.2⟩ fun j35=> .ret 8 (j35,0))))
noncomputable abbrev zXA:Fe:= .of Tryz.prog 255 zAc
theorem zVL (a0:Int) (a1:List Int) (a2:List Int) (a3:Int):HS 255 (zHF a0 a1 a2 a3) [.int .i64 a0, .lst (List.map (D.int .i64) a1), .lst (List.map (D.int .i64) a2), .int .i64 a3] zAc:=Tr.fn (F:=zXA)
 (.call 11 (zUZ a0 a1 a2 a3) zAh fun r1=> .iteN 12 21 (r1.2=0)
  (.ret 9 ([],r1.2))
  (.call 6 (zUU a3 r1.1) zAh fun r2=> .ret 6 (r2.1,r2.2)))
noncomputable abbrev zYX:Fe:= .of Tryz.prog 252 zAc
theorem zXl (a0:Int) (a1:List Int) (a2:zAa) (a3:Int):HS 252 (zIv a0 a1 a2 a3) [.int .i64 a0, .lst (List.map (D.int .i64) a1), .agg [.lst (List.map (D.int .i64) a2.F_X), .int .i64 a2.F_Y], .int .i64 a3] zAc:=Tr.fn (F:=zYX)
 (.call 13 (zVL a0 a1 a2.F_X a3) zAh fun r1=> .ite 12 23 (r1.2=0)
  (.ite 4 27 (a2.F_Y<0)
  (.iteN 17 35 (1=0)
  (.ret 9 ([],1))
  (.idx 7 eI r1.1 a2.F_Y<| .rd 2 (0≤a3) (nI (sShl .i64 1 a3))<| .idx 1 eI r1.1 a2.F_Y<| .sto 0 [37,10] eI r1.1 a2.F_Y (IntKind.i64.wrap ((at' r1.1 a2.F_Y)-(sShl .i64 1 a3)))<| .ret 8 (r1.1.set (Int.toNat a2.F_Y) (IntKind.i64.wrap ((at' r1.1 a2.F_Y)-(sShl .i64 1 a3))),0)))
  (.join 7 0 (γ:=Int) ⟨fun x=>[(11,nI x)],[10,6,3],fun _=>[],[.s 15]⟩
  (.ite 0 33 (a2.F_Y≥a0)
  (.ret 4 1)
  (.ret 2 r1.2))
  fun j2=> .iteN 6 35 (j2=0)
  (.ret 9 ([],j2))
  (.idx 7 eI r1.1 a2.F_Y<| .rd 2 (0≤a3) (nI (sShl .i64 1 a3))<| .idx 1 eI r1.1 a2.F_Y<| .sto 0 [37,10] eI r1.1 a2.F_Y (IntKind.i64.wrap ((at' r1.1 a2.F_Y)-(sShl .i64 1 a3)))<| .ret 8 (r1.1.set (Int.toNat a2.F_Y) (IntKind.i64.wrap ((at' r1.1 a2.F_Y)-(sShl .i64 1 a3))),0))))
  (.iteN 19 35 (r1.2=0)
  (.ret 9 ([],r1.2))
  (.idx 7 eI r1.1 a2.F_Y<| .rd 2 (0≤a3) (nI (sShl .i64 1 a3))<| .idx 1 eI r1.1 a2.F_Y<| .sto 0 [37,10] eI r1.1 a2.F_Y (IntKind.i64.wrap ((at' r1.1 a2.F_Y)-(sShl .i64 1 a3)))<| .ret 8 (r1.1.set (Int.toNat a2.F_Y) (IntKind.i64.wrap ((at' r1.1 a2.F_Y)-(sShl .i64 1 a3))),0))))
noncomputable abbrev zLI:Fe:= .of Tryz.prog 253 zAc
def zT4 (a0:zAa) (a1:List Int) (a2:Int) (x0:Int) (x1:List Int):St:=⟨[(14,nI x0),(13,nI (a1.length:Int)),(12,lI a1),(6,sI (.h 0) x1),(3, .ptr (.s 15) 0),(2,nI a2)],[(.s 15,[lI a0.F_X,nI a0.F_Y])]⟩
def zUt (a0:zAa) (a1:List Int) (a2:Int) (x:(List Int)):St:=⟨[(6,sI (.h 1) x)],[]⟩
theorem zTd (a0:zAa) (a1:List Int) (a2:Int):∀(x0:Int) (x1:List Int),Ok (zDP a0 a1 a2 x0 x1) (LR zLI (.exit 0) (zUt a0 a1 a2) 253 0 (zT4 a0 a1 a2 x0 x1)):=by
 refine zDP.partial_correctness a0 a1 a2 _ ?_
 intro f IH x0 x1
 exact Tr.lpR (F:=zLI) (X:=Int×(List Int))
  (.ite 6 15 (x0<(a1.length:Int))
   (.idx 6 eI a1 x0<| .call 9 (zKV a0.F_X (at' a1 x0) a2) zAh fun r1=> .iteN 12 27 (r1.2=0)
   (.ret 12 (.inl ([],r1.2)))
   (.app 5 eI 8 x1 r1.1<| .app 2 eI 8 (x1++r1.1) [at' a1 x0]<| .let_ ((x1++r1.1)++[at' a1 x0]:List Int) fun y2=> .again 7 (IntKind.i64.wrap (x0+1),y2)))
   (.ret 4 (.inr x1))) _ fun x r=>IH x.1 x.2 r
theorem zWo (a0:zAa) (a1:List Int) (a2:Int):HS 253 (zJa a0 a1 a2) [.agg [.lst (List.map (D.int .i64) a0.F_X), .int .i64 a0.F_Y], .lst (List.map (D.int .i64) a1), .int .i64 a2] zAc:=Tr.fn (F:=zLI)
 (.len 10 eI a1<| .loopR 4 id ⟨_,_,_,_,_,zTd a0 a1 a2 0 []⟩ fun j4=> .ret 8 (j4,0))
noncomputable abbrev zLQ:Fe:= .of Tryz.prog 247 zAc
def zUs (a0:Int) (a1:List Int) (a2:Int) (a3:List zAa) (x0:Int) (x1:List (List Int)) (x2:Int):St:=⟨[(22,nI x0),(21,nI (a3.length:Int)),(20, .d (.lst (List.map zAa.en a3))),(11, .sl (.h 0) 1 0 (List.map (enL (D.int .i64)) x1)),(10,nI x2),(0,nI a0),(1,lI a1),(2,nI a2),(3, .d (.lst (List.map zAa.en a3)))],[]⟩
def zTV (a0:Int) (a1:List Int) (a2:Int) (a3:List zAa) (x:(List (List Int))×Int):St:=⟨[(11, .sl (.h 1) 1 0 (List.map (enL (D.int .i64)) x.1)),(10,nI x.2),(3, .d (.lst (List.map zAa.en a3)))],[]⟩
theorem zTs (a0:Int) (a1:List Int) (a2:Int) (a3:List zAa):∀(x0:Int) (x1:List (List Int)) (x2:Int),Ok (zBL a0 a1 a2 a3 x0 x1 x2) (LN zLQ (.exit 0) (zTV a0 a1 a2 a3) 247 0 (zUs a0 a1 a2 a3 x0 x1 x2)):=by
 refine zBL.partial_correctness a0 a1 a2 a3 _ ?_
 intro f IH x0 x1 x2
 exact Tr.lpN (F:=zLQ) (X:=Int×(List (List Int))×Int)
  (.ite 6 23 (x0<(a3.length:Int))
   (.idx 6 zAa.e a3 x0<| .join 15 0 (γ:=Int×(List Int)) ⟨fun x=>[(10,nI x.1),(14,sI (.h 1) x.2)],[15,13,22,21,20,11,0,1,2,3],fun _=>[],[.s 8047]⟩
   (.ite 0 27 (x2=0)
   (.call 6 (zXl a0 a1 (at' a3 x0) a2) zAh fun r2=> .ret 6 (r2.2,r2.1))
   (.ret 2 (x2,[])))
   fun j3=> .ite 6 37 (j3.1=0)
   (.call 5 (zWo (at' a3 x0) j3.2 a2) zAh fun r4=> .app 10 (eL eI) 24 x1 [r4.1]<| .again 7 (IntKind.i64.wrap (x0+1),x1++[r4.1],r4.2))
   (.app 6 (eL eI) 24 x1 [[]]<| .again 7 (IntKind.i64.wrap (x0+1),x1++[[]],j3.1)))
   (.ret 4 (x1,x2))) _ fun x r=>IH x.1 x.2.1 x.2.2 r
theorem zVM (a0:Int) (a1:List Int) (a2:Int) (a3:List zAa):HS 247 (zJk a0 a1 a2 a3) [.int .i64 a0, .lst (List.map (D.int .i64) a1), .int .i64 a2, .lst (List.map zAa.en a3)] zAc:=Tr.fn (F:=zLQ)
 (.call 10 (zWp a0 a1 a3) zAj fun r1=> .len 10 zAa.e a3<| .loop 4 ⟨_,_,_,_,_,zTs a0 a1 a2 a3 0 [] r1⟩ fun j5=> .iteN 7 51 (j5.2=0)
  (.ret 9 ([],j5.2))
  (.len 5 zAa.e a3<| .call 1 (zIT (a3.length:Int) j5.1) zAh fun r6=> .ret 6 (r6.1,r6.2)))
noncomputable abbrev zJL:Fe:= .of Tryz.prog 243 zAc
theorem zFR (a0:zAx) (a1:List Int) (a2:List zAa):HS 243 (zDc a0 a1 a2) [.agg [.int .i64 a0.F_Model.F_Kind, .int .i64 a0.F_Model.F_In, .int .i64 a0.F_Model.F_Out, .int .i64 a0.F_Model.F_Hid, .int .i64 a0.F_Model.F_Frac], .lst (List.map (D.int .i64) a1), .lst (List.map zAa.en a2)] zAc:=Tr.fn (F:=zJL)
 (.call 16 (zVM a0.F_Model.F_Out a1 a0.F_Model.F_Frac a2) zAh fun r1=> .ret 6 (r1.1,r1.2))
def zOY (v:(List Int)×(List (List Int))×Int×Int):PV:= .tup [.d (.agg [.lst (List.map (D.int .i64) v.1), .lst (List.map (enL (D.int .i64)) v.2.1), .int .i64 v.2.2.1]),nI v.2.2.2]
noncomputable abbrev zXq:Fe:= .of Tryz.prog 277 zOY
theorem zV6 (a0:Int) (a1:List Int):HS 277 (zI6 a0 a1) [.int .i64 a0, .lst (List.map (D.int .i64) a1)] zOY:=Tr.fn (F:=zXq)
 (.call 9 (zP2 a0) zAk fun r1=> .iteX 2 13 (r1)
  (.ret 9 ([],[],0,1))
  (.len 5 eI a1<| .rd 2 (a0≠0) (nI (IntKind.i64.wrap (Int.tdiv (IntKind.i64.wrap ((a1.length:Int)-1)) a0)))<| .let_ (IntKind.i64.wrap ((IntKind.i64.wrap (Int.tdiv (IntKind.i64.wrap ((a1.length:Int)-1)) a0))-1):Int) fun y2=> .call 9 (zNb (IntKind.i64.wrap (y2-1)) a0) zAd fun r4=> .join 11 5 (γ:=Bool) ⟨fun x=>[(35,bB x)],[6,4,0,1],fun _=>[],[.s 15]⟩
  (.iteN 0 30 (r4.2=0)
  (.ret 6 true)
  (.len 2 eI a1<| .ret 3 (r4.1 !=(a1.length:Int))))
  fun j5=> .iteB 1 35 (j5)
  (.ret 9 ([],[],0,4))
  (.cut 8 eI a1 (some (IntKind.i64.wrap (a0*y2))) none<| .let_ (cut' a1 (some (IntKind.i64.wrap (a0*y2))) none:List Int) fun y6=> .cut 14 eI a1 none (some (IntKind.i64.wrap (a0*y2)))<| .let_ (cut' a1 none (some (IntKind.i64.wrap (a0*y2))):List Int) fun y8=> .callZ 1 (zFS y8 y2) fun r10=> .rng 2 eI r10.1 r10.2 zRj ⟨fun _=>[],[9,4],fun x_11=>[(.s 11359,[lI y6, .sl (.h 0) 1 0 (List.map (enL (D.int .i64)) x_11),nI (IntKind.i64.wrap (y2-1))])],[.s 15]⟩ []
  (fun (x_11:(List (List Int))) c_12=> .app 4 (eL eI) 24 x_11 [c_12]<| .ret 4 (x_11++[c_12]))
  fun j13=> .ret 8 (y6,j13,IntKind.i64.wrap (y2-1),0))))
noncomputable abbrev zN2:Fe:= .of Tryz.prog 282 zAc
def zVg (r2:(List Int)) (x0:Int) (x1:List Int):St:=⟨[(17,nI x0),(16,nI (r2.length:Int)),(15,sI (.h 0) x1),(5,sI (.h 0) x1)],[]⟩
def zU4 (r2:(List Int)) (x:(List Int)):St:=⟨[(5,sI (.h 1) x)],[]⟩
theorem zTU (r2:(List Int)):∀(x0:Int) (x1:List Int),Ok (zEi r2 x0 x1) (LN zN2 (.exit 0) (zU4 r2) 282 0 (zVg r2 x0 x1)):=by
 refine zEi.partial_correctness r2 _ ?_
 intro f IH x0 x1
 exact Tr.lpN (F:=zN2) (X:=Int×(List Int))
  (.ite 6 18 (x0<(r2.length:Int))
   (.idx 7 eI x1 x0<| .idx 9 eI x1 x0<| .sto 0 [15,5] eI x1 x0 (if (0:Int)>(at' x1 x0) then 0 else at' x1 x0)<| .let_ (x1.set (Int.toNat x0) (if (0:Int)>(at' x1 x0) then 0 else at' x1 x0):List Int) fun y3=> .again 6 (IntKind.i64.wrap (x0+1),y3))
   (.ret 4 x1)) _ fun x r=>IH x.1 x.2 r
theorem zXG (a0:List Int):HS 282 (zKy a0) [.lst (List.map (D.int .i64) a0)] zAc:=Tr.fn (F:=zN2)
 (.call 9 (zGY a0) zAj fun r1=> .iteN 7 11 (r1=0)
  (.ret 9 ([],r1))
  (.call 5 (zD3 a0) zD8 fun r2=> .len 6 eI r2<| .loop 4 ⟨_,_,_,_,_,zTU r2 0 r2⟩ fun j5=> .ret 8 (j5,0)))
noncomputable abbrev zFc:Fe:= .of Tryz.prog 281 zAc
def zKn (a0:zBj) (a1:List Int) (a2:Int) (x0:Int) (x1:List Int):St:=⟨[(32,nI x0),(31,nI (a0.F_rows.length:Int)),(30, .d (.lst (List.map (enL (D.int .i64)) a0.F_rows))),(8,sI (.h 0) x1),(1,lI a1),(2,nI a2)],[]⟩
def zKd (a0:zBj) (a1:List Int) (a2:Int) (x:(List Int)):St:=⟨[(8,sI (.h 1) x)],[]⟩
theorem zJS (a0:zBj) (a1:List Int) (a2:Int):∀(x0:Int) (x1:List Int),Ok (zA4 a0 a1 a2 x0 x1) (LR zFc (.exit 1) (zKd a0 a1 a2) 281 0 (zKn a0 a1 a2 x0 x1)):=by
 refine zA4.partial_correctness a0 a1 a2 _ ?_
 intro f IH x0 x1
 exact Tr.lpR (F:=zFc) (X:=Int×(List Int))
  (.ite 6 33 (x0<(a0.F_rows.length:Int))
   (.idx 7 (eL eI) a0.F_rows x0<| .call 15 (zHf (at' a0.F_rows x0) a1 a2) zAd fun r4=> .idx 3 eI x1 x0<| .sto 0 [8] eI x1 x0 r4.1<| .let_ (x1.set (Int.toNat x0) r4.1:List Int) fun y5=> .iteN 7 48 (r4.2=0)
   (.ret 11 (.inl ([],r4.2)))
   (.again 7 (IntKind.i64.wrap (x0+1),y5)))
   (.ret 4 (.inr x1))) _ fun x r=>IH x.1 x.2 r
theorem zK1 (a0:zBj) (a1:List Int) (a2:Int):HS 281 (zDU a0 a1 a2) [.agg [.lst (List.map (D.int .i64) a0.F_line.F_last), .lst (List.map (enL (D.int .i64)) a0.F_rows), .int .i64 a0.F_in], .lst (List.map (D.int .i64) a1), .int .i64 a2] zAc:=Tr.fn (F:=zFc)
 (.len 11 eI a1<| .iteN 5 12 ((a1.length:Int)=a0.F_in)
  (.ret 9 ([],4))
  (.join 6 3 (γ:=Bool) ⟨fun x=>[(24,bB x)],[3,1,2],fun _=>[],[.s 15]⟩
  (.ite 0 21 (a2<0)
  (.ret 4 true)
  (.ret 4 (decide (a2>30))))
  fun j1=> .iteB 2 18 (j1)
  (.ret 9 ([],1))
  (.len 7 (eL eI) a0.F_rows<| .mk 0 eI 8 0 (a0.F_rows.length:Int) (a0.F_rows.length:Int)<| .let_ (List.replicate (Int.toNat (a0.F_rows.length:Int)) 0:List Int) fun y2=> .len 7 (eL eI) a0.F_rows<| .loopR 4 id ⟨_,_,_,_,_,zJS a0 a1 a2 0 y2⟩ fun j7=> .call 4 (zXG j7) zAh fun r8=> .ret 6 (r8.1,r8.2))))
def zFA (v:(List Int)×Int×Int):PV:= .tup [sI (.s 0) v.1,nI v.2.1,nI v.2.2]
noncomputable abbrev zNj:Fe:= .of Tryz.prog 279 zFA
theorem zM4:∀v,(zFA v).noLst:=fun _=>⟨(zHD fun _=>trivial),trivial,trivial,trivial⟩
theorem zMC (a0:zBj) (a1:List Int) (a2:Int):HS 279 (zDy a0 a1 a2) [.agg [.lst (List.map (D.int .i64) a0.F_line.F_last), .lst (List.map (enL (D.int .i64)) a0.F_rows), .int .i64 a0.F_in], .lst (List.map (D.int .i64) a1), .int .i64 a2] zFA:=Tr.fn (F:=zNj)
 (.call 12 (zK1 a0 a1 a2) zAh fun r1=> .iteN 12 20 (r1.2=0)
  (.ret 10 ([],0,r1.2))
  (.call 9 (zHf a0.F_line.F_last r1.1 a2) zAd fun r2=> .ret 16 (r1.1,r2.1,r2.2)))
def zDs (v:Int×Int×(List Int)):PV:= .tup []
def zDv (v:Int×Int×(List Int)):List (Tg×List PV):=[(.up (.s 0),[nI v.1]),(.up (.s 1),[nI v.2.1]),(.up (.s 2),[sI (.s 0) v.2.2])]
noncomputable abbrev zIr:Fe:= .of Tryz.prog 280 zDs zDv
theorem zDt:∀v,(zDs v).noLst:=fun _=>trivial
theorem zDk:∀v,zGO (zDv v):=fun _=>⟨⟨trivial,trivial⟩,⟨trivial,trivial⟩,⟨(zHD fun _=>trivial),trivial⟩,trivial⟩
theorem zDu (a0:List Int) (a1:Int) (a2:Int) (a3:Int) (a4:List Int):HG 280 (zAP a0 a1 a2 a3 a4) [lI a0,nI a1, .ptr (.up (.s 0)) 0, .ptr (.up (.s 1)) 0, .ptr (.up (.s 2)) 0] [(.up (.s 0),[nI a2]),(.up (.s 1),[nI a3]),(.up (.s 2),[sI (.h 0) a4])] zDs zDv:=Tr.fnG (F:=zIr)
 (.ite 5 8 (a2=0)
  (.call 6 (zKV a0 a1 a3) zAh fun r1=> .app 9 eI 8 a4 r1.1<| .app 2 eI 8 (a4++r1.1) [a1]<| .ret 2 (r1.2,a3,(a4++r1.1)++[a1]))
  (.ret 2 (a2,a3,a4)))
noncomputable abbrev zGf:Fe:= .of Tryz.prog 278 zAc
def zK2 (a0:zBj) (a1:zAa) (r1:(List Int)×Int×Int) (r2:Int×Int) (x0:Int) (x1:Int) (x2:List Int) (x3:Int):St:=⟨[(41,nI x0),(40,nI (r1.1.length:Int)),(39,sI (.s 1664) r1.1),(12, .clo (.func 280) [] [.ptr (.s 1759) 0, .ptr (.s 47) 0, .ptr (.s 63) 0]),(11,nI r2.1),(8,sI (.s 1664) r1.1),(10, .ptr (.s 1759) 0),(6, .ptr (.s 63) 0),(5, .ptr (.s 47) 0),(4, .ptr (.s 31) 0),(3, .ptr (.s 15) 0)],[(.s 1759,[nI x1]),(.s 63,[sI (.h 0) x2]),(.s 47,[nI x3]),(.s 31,[lI a1.F_X,nI a1.F_Y]),(.s 15,[lI a0.F_line.F_last, .d (.lst (List.map (enL (D.int .i64)) a0.F_rows)),nI a0.F_in])]⟩
def zK5 (a0:zBj) (a1:zAa) (r1:(List Int)×Int×Int) (r2:Int×Int) (x:Int×(List Int)×Int):St:=⟨[(12, .clo (.func 280) [] [.ptr (.s 1759) 0, .ptr (.s 47) 0, .ptr (.s 63) 0]),(11,nI r2.1),(8,sI (.s 1664) r1.1),(10, .ptr (.s 1759) 0),(6, .ptr (.s 63) 0)],[(.s 1759,[nI x.1]),(.s 63,[sI (.h 1) x.2.1]),(.s 47,[nI x.2.2])]⟩
theorem zKK (a0:zBj) (a1:zAa) (r1:(List Int)×Int×Int) (r2:Int×Int):∀(x0:Int) (x1:Int) (x2:List Int) (x3:Int),Ok (zAI a0 a1 r1 r2 x0 x1 x2 x3) (LN zGf (.exit 0) (zK5 a0 a1 r1 r2) 278 0 (zK2 a0 a1 r1 r2 x0 x1 x2 x3)):=by
 refine zAI.partial_correctness a0 a1 r1 r2 _ ?_
 intro f IH x0 x1 x2 x3
 exact Tr.lpN (F:=zGf) (X:=Int×Int×(List Int)×Int)
  (.ite 6 42 (x0<(r1.1.length:Int))
   (.idx 7 eI r1.1 x0<| .join 14 3 (γ:=Bool) ⟨fun x=>[(51,bB x)],[15,13,41,40,39,12,11,8,10,6,5,4,3],fun _=>[],[.s 1759, .s 63, .s 47, .s 31, .s 15]⟩
   (.ite 0 48 ((at' r1.1 x0)>0)
   (.ret 4 (x1==0))
   (.ret 4 false))
   fun j3=> .iteB 1 51 (j3)
   (.idx 7 eI a0.F_line.F_last x0<| .call 2 (zKs r2.1 (at' a0.F_line.F_last x0) x3) zAd fun r4=> .callB 11 [(.up (.s 0), .s 1759),(.up (.s 1), .s 47),(.up (.s 2), .s 63),(.h 0, .h 0)] (zDu a1.F_X r4.1 r4.2 x3 x2) zDt zDk fun r5=> .again 6 (IntKind.i64.wrap (x0+1),r5.1,r5.2.2,r5.2.1))
   (.callB 7 [(.up (.s 0), .s 1759),(.up (.s 1), .s 47),(.up (.s 2), .s 63),(.h 0, .h 0)] (zDu a1.F_X 0 x1 x3 x2) zDt zDk fun r6=> .again 6 (IntKind.i64.wrap (x0+1),r6.1,r6.2.2,r6.2.1)))
   (.ret 4 (x1,x2,x3))) _ fun x r=>IH x.1 x.2.1 x.2.2.1 x.2.2.2 r
theorem zMV (a0:zBj) (a1:zAa) (a2:Int):HS 278 (zDC a0 a1 a2) [.agg [.lst (List.map (D.int .i64) a0.F_line.F_last), .lst (List.map (enL (D.int .i64)) a0.F_rows), .int .i64 a0.F_in], .agg [.lst (List.map (D.int .i64) a1.F_X), .int .i64 a1.F_Y], .int .i64 a2] zAc:=Tr.fn (F:=zGf)
 (.call 14 (zMC a0 a1.F_X a2) zM4 fun r1=> .iteN 15 26 (r1.2.2=0)
  (.hold 6 []<| .ret 5 ([],r1.2.2))
  (.call 7 (zHe r1.2.1 a1.F_Y) zAd fun r2=> .iteN 12 36 (r2.2=0)
  (.hold 6 []<| .ret 5 ([],r2.2))
  (.len 11 eI r1.1<| .loop 4 ⟨_,_,_,_,_,zKK a0 a1 r1 r2 0 r2.2 [] a2⟩ fun j7=> .callB 6 [(.up (.s 0), .s 1759),(.up (.s 1), .s 47),(.up (.s 2), .s 63),(.h 0, .h 1)] (zDu r1.1 r2.1 j7.1 j7.2.2 j7.2.1) zDt zDk fun r8=> .iteN 7 75 (r8.1=0)
  (.hold 6 []<| .ret 5 ([],r8.1))
  (.ret 9 (r8.2.2,0)))))
noncomputable abbrev zNw:Fe:= .of Tryz.prog 274 zAc
def zU5 (a2:Int) (a3:List zAa) (r1:(List Int)×(List (List Int))×Int×Int) (x0:Int) (x1:List (List Int)):St:=⟨[(36,nI x0),(35,nI (a3.length:Int)),(34, .d (.lst (List.map zAa.en a3))),(12, .sl (.h 0) 1 0 (List.map (enL (D.int .i64)) x1)),(10, .ptr (.s 1711) 0),(2,nI a2),(3, .d (.lst (List.map zAa.en a3)))],[(.s 1711,[lI r1.1, .d (.lst (List.map (enL (D.int .i64)) r1.2.1)),nI r1.2.2.1])]⟩
def zVb (a2:Int) (a3:List zAa) (r1:(List Int)×(List (List Int))×Int×Int) (x:(List (List Int))):St:=⟨[(12, .sl (.h 1) 1 0 (List.map (enL (D.int .i64)) x)),(3, .d (.lst (List.map zAa.en a3)))],[]⟩
theorem zT0 (a2:Int) (a3:List zAa) (r1:(List Int)×(List (List Int))×Int×Int):∀(x0:Int) (x1:List (List Int)),Ok (zDb a2 a3 r1 x0 x1) (LR zNw (.exit 0) (zVb a2 a3 r1) 274 0 (zU5 a2 a3 r1 x0 x1)):=by
 refine zDb.partial_correctness a2 a3 r1 _ ?_
 intro f IH x0 x1
 exact Tr.lpR (F:=zNw) (X:=Int×(List (List Int)))
  (.ite 6 37 (x0<(a3.length:Int))
   (.idx 6 zAa.e a3 x0<| .call 9 (zMV (⟨(⟨r1.1⟩:zES),r1.2.1,r1.2.2.1⟩:zBj) (at' a3 x0) a2) zAh fun r4=> .iteN 12 48 (r4.2=0)
   (.ret 12 (.inl ([],r4.2)))
   (.app 6 (eL eI) 24 x1 [r4.1]<| .again 7 (IntKind.i64.wrap (x0+1),x1++[r4.1])))
   (.ret 4 (.inr x1))) _ fun x r=>IH x.1 x.2 r
theorem zXk (a0:Int) (a1:List Int) (a2:Int) (a3:List zAa):HS 274 (zKj a0 a1 a2 a3) [.int .i64 a0, .lst (List.map (D.int .i64) a1), .int .i64 a2, .lst (List.map zAa.en a3)] zAc:=Tr.fn (F:=zNw)
 (.callZ 9 (zV6 a0 a1) fun r1=> .join 13 0 (γ:=Int) ⟨fun x=>[(11,nI x)],[10,2,3],fun _=>[],[.s 1711]⟩
  (.ite 0 24 (r1.2.2.2=0)
  (.call 7 (zOX r1.2.2.1 a0 a1 a3) zAj fun r2=> .ret 2 r2)
  (.ret 2 r1.2.2.2))
  fun j3=> .iteN 6 32 (j3=0)
  (.ret 9 ([],j3))
  (.len 10 zAa.e a3<| .loopR 4 id ⟨_,_,_,_,_,zT0 a2 a3 r1 0 []⟩ fun j5=> .len 4 zAa.e a3<| .call 1 (zIT (a3.length:Int) j5) zAh fun r6=> .ret 6 (r6.1,r6.2)))
noncomputable abbrev zKq:Fe:= .of Tryz.prog 270 zAc
theorem zGn (a0:zAE) (a1:List Int) (a2:List zAa):HS 270 (zDq a0 a1 a2) [.agg [.int .i64 a0.F_Model.F_Kind, .int .i64 a0.F_Model.F_In, .int .i64 a0.F_Model.F_Out, .int .i64 a0.F_Model.F_Hid, .int .i64 a0.F_Model.F_Frac], .lst (List.map (D.int .i64) a1), .lst (List.map zAa.en a2)] zAc:=Tr.fn (F:=zKq)
 (.call 16 (zXk a0.F_Model.F_Hid a1 a0.F_Model.F_Frac a2) zAh fun r1=> .ret 6 (r1.1,r1.2))
noncomputable abbrev zWV:Fe:= .of Tryz.prog 73 zAc
theorem zUV (a0:zAf) (a1:List Int) (a2:List zAa):HS 73 (zIE a0 a1 a2) [.agg [.int .i64 a0.F_Kind, .int .i64 a0.F_In, .int .i64 a0.F_Out, .int .i64 a0.F_Hid, .int .i64 a0.F_Frac], .lst (List.map (D.int .i64) a1), .lst (List.map zAa.en a2)] zAc:=Tr.fn (F:=zWV)
 (.callS4 9 (zLD a0) zLV
  (fun r1=> .ite 14 18 (r1.2=0)
  (.halt)
  (.iteN 8 24 (r1.2=0)
  (.ret 9 ([],r1.2))
  (.halt)))
  (fun r2=> .ite 14 18 (r2.2.2.2.2.2.2=0)
  (.call 5 (zFF (⟨(⟨r2.1,r2.2.1,r2.2.2.1,r2.2.2.2.1,r2.2.2.2.2.1⟩:zAf)⟩:zAv) a1 a2) zAj fun r3=> .iteN 8 24 (r3=0)
  (.ret 9 ([],r3))
  (.call 7 (zFP (⟨(⟨r2.1,r2.2.1,r2.2.2.1,r2.2.2.2.1,r2.2.2.2.2.1⟩:zAf)⟩:zAv) a1 a2) zAh fun r4=> .ret 6 (r4.1,r4.2)))
  (.iteN 8 24 (r2.2.2.2.2.2.2=0)
  (.ret 9 ([],r2.2.2.2.2.2.2))
  (.call 7 (zFP (⟨(⟨r2.1,r2.2.1,r2.2.2.1,r2.2.2.2.1,r2.2.2.2.2.1⟩:zAf)⟩:zAv) a1 a2) zAh fun r5=> .ret 6 (r5.1,r5.2))))
  (fun r6=> .ite 14 18 (r6.2.2.2.2.2.2=0)
  (.call 5 (zFU (⟨(⟨r6.1,r6.2.1,r6.2.2.1,r6.2.2.2.1,r6.2.2.2.2.1⟩:zAf)⟩:zAx) a1 a2) zAj fun r7=> .iteN 8 24 (r7=0)
  (.ret 9 ([],r7))
  (.call 7 (zFR (⟨(⟨r6.1,r6.2.1,r6.2.2.1,r6.2.2.2.1,r6.2.2.2.2.1⟩:zAf)⟩:zAx) a1 a2) zAh fun r8=> .ret 6 (r8.1,r8.2)))
  (.iteN 8 24 (r6.2.2.2.2.2.2=0)
  (.ret 9 ([],r6.2.2.2.2.2.2))
  (.call 7 (zFR (⟨(⟨r6.1,r6.2.1,r6.2.2.1,r6.2.2.2.1,r6.2.2.2.2.1⟩:zAf)⟩:zAx) a1 a2) zAh fun r9=> .ret 6 (r9.1,r9.2))))
  (fun r10=> .ite 14 18 (r10.2.2.2.2.2.2=0)
  (.call 5 (zGl (⟨(⟨r10.1,r10.2.1,r10.2.2.1,r10.2.2.2.1,r10.2.2.2.2.1⟩:zAf)⟩:zAE) a1 a2) zAj fun r11=> .iteN 8 24 (r11=0)
  (.ret 9 ([],r11))
  (.call 7 (zGn (⟨(⟨r10.1,r10.2.1,r10.2.2.1,r10.2.2.2.1,r10.2.2.2.2.1⟩:zAf)⟩:zAE) a1 a2) zAh fun r12=> .ret 6 (r12.1,r12.2)))
  (.iteN 8 24 (r10.2.2.2.2.2.2=0)
  (.ret 9 ([],r10.2.2.2.2.2.2))
  (.call 7 (zGn (⟨(⟨r10.1,r10.2.1,r10.2.2.1,r10.2.2.2.1,r10.2.2.2.2.1⟩:zAf)⟩:zAE) a1 a2) zAh fun r13=> .ret 6 (r13.1,r13.2)))))
noncomputable abbrev zY9:Fe:= .of Tryz.prog 100 zAe
theorem zRc (a0:Int) (a1:Int):HS 100 (zIy a0 a1) [.int .i64 a0, .int .i64 a1] zAe:=Tr.fn (F:=zY9)
 (.ite 11 7 (a1<0)
  (.ret 8 (0,1))
  (.ret 14 (if a1<(if (IntKind.i64.wrap (0-a1))>a0 then IntKind.i64.wrap (0-a1) else a0) then a1 else if (IntKind.i64.wrap (0-a1))>a0 then IntKind.i64.wrap (0-a1) else a0,0)))
noncomputable abbrev zSf:Fe:= .of Tryz.prog 102 zAe
theorem zQU (a0:Int) (a1:List Int) (a2:Int):HS 102 (zH4 a0 a1 a2) [.int .i64 a0, .cp [.lst (List.map (D.int .i64) a1)] 0, .cp [.int .i64 a2] 0] zAe:=Tr.fn (F:=zSf)
 (.idx 9 eI a1 a0<| .call 2 (zRc (at' a1 a0) a2) zAd fun r1=> .ret 6 (r1.1,r1.2))
noncomputable abbrev zFz:Fe:= .of Tryz.prog 101 zAc
def zKW (a1:List Int) (a2:Int) (y1:List Int) (x0:Int) (x1:List Int):St:=⟨[(13,nI x0),(12,nI (y1.length:Int)),(6,sI (.h 0) x1),(1, .d (.clo (.func 102) [] [.cp [.lst (List.map (D.int .i64) a1)] 0, .cp [.int .i64 a2] 0]))],[]⟩
def zKM (a1:List Int) (a2:Int) (y1:List Int) (x:(List Int)):St:=⟨[(6,sI (.h 1) x)],[]⟩
theorem zJ7 (a1:List Int) (a2:Int) (y1:List Int):∀(x0:Int) (x1:List Int),Ok (zA7 a1 a2 y1 x0 x1) (LR zFz (.exit 0) (zKM a1 a2 y1) 101 0 (zKW a1 a2 y1 x0 x1)):=by
 refine zA7.partial_correctness a1 a2 y1 _ ?_
 intro f IH x0 x1
 exact Tr.lpR (F:=zFz) (X:=Int×(List Int))
  (.ite 6 14 (x0<(y1.length:Int))
   (.call 19 (zQU x0 a1 a2) zAd fun r3=> .idx 3 eI x1 x0<| .sto 0 [6] eI x1 x0 r3.1<| .let_ (x1.set (Int.toNat x0) r3.1:List Int) fun y4=> .iteN 7 26 (r3.2=0)
   (.ret 11 (.inl ([],r3.2)))
   (.again 7 (IntKind.i64.wrap (x0+1),y4)))
   (.ret 4 (.inr x1))) _ fun x r=>IH x.1 x.2 r
theorem zLB (a0:Int) (a1:List Int) (a2:Int):HS 101 (zFB a0 a1 a2) [.int .i64 a0, .clo (.func 102) [] [.cp [.lst (List.map (D.int .i64) a1)] 0, .cp [.int .i64 a2] 0]] zAc:=Tr.fn (F:=zFz)
 (.mk 8 eI 8 0 a0 a0<| .let_ (List.replicate (Int.toNat a0) 0:List Int) fun y1=> .len 6 eI y1<| .loopR 4 id ⟨_,_,_,_,_,zJ7 a1 a2 y1 0 y1⟩ fun j6=> .ret 8 (j6,0))
noncomputable abbrev zZj:Fe:= .of Tryz.prog 74 zAc
theorem zXj (a0:List Int) (a1:Int):HS 74 (zKz a0 a1) [.lst (List.map (D.int .i64) a0), .int .i64 a1] zAc:=Tr.fn (F:=zZj)
 (.call 10 (zGY a0) zAj fun r1=> .join 8 0 (γ:=Int) ⟨fun x=>[(6,nI x)],[3,2],fun _=>[],[.s 31, .s 15]⟩
  (.ite 0 10 (r1=0)
  (.call 3 (zRc 0 a1) zAd fun r2=> .ret 5 r2.2)
  (.ret 2 r1))
  fun j3=> .iteN 6 17 (j3=0)
  (.ret 9 ([],j3))
  (.len 5 eI a0<| .call 1 (zLB (a0.length:Int) a0 a1) zAh fun r4=> .ret 6 (r4.1,r4.2)))
noncomputable abbrev zWZ:Fe:= .of Tryz.prog 37 zAc
theorem zUX (a0:zAf) (a1:List Int) (a2:Int) (a3:List zAa):HS 37 (zIx a0 a1 a2 a3) [.agg [.int .i64 a0.F_Kind, .int .i64 a0.F_In, .int .i64 a0.F_Out, .int .i64 a0.F_Hid, .int .i64 a0.F_Frac], .lst (List.map (D.int .i64) a1), .int .i64 a2, .lst (List.map zAa.en a3)] zAc:=Tr.fn (F:=zWZ)
 (.call 11 (zUV a0 a1 a3) zAh fun r1=> .iteN 12 20 (r1.2=0)
  (.ret 9 ([],r1.2))
  (.call 6 (zXj r1.1 a2) zAh fun r2=> .ret 6 (r2.1,r2.2)))
noncomputable abbrev zLv:Fe:= .of Tryz.prog 21 zAc
def zT6 (a0:zAq) (a3:List Int) (r1:(List Int)×Int) (x0:Int) (x1:List zAa):St:=⟨[(30,nI x0),(29,nI (r1.1.length:Int)),(28,sI (.s 1648) r1.1),(12, .sl (.h 0) 2 0 (List.map zAa.en x1)),(4, .ptr (.s 15) 0),(3,lI a3)],[(.s 15,[nI a0.F_N,nI a0.F_M.F_Kind,nI a0.F_M.F_In,nI a0.F_M.F_Out,nI a0.F_M.F_Hid,nI a0.F_M.F_Frac,nI a0.F_H.F_Scheme,nI a0.F_H.F_K,nI a0.F_H.F_Wide,nI a0.F_Warm,nI a0.F_Rate,nI a0.F_Mom,nI a0.F_Clip,nI a0.F_Batch,nU a0.F_Seed, .d (.lst (List.map zAa.en a0.F_L))])]⟩
def zUb (a0:zAq) (a3:List Int) (r1:(List Int)×Int) (x:(List zAa)):St:=⟨[(12, .sl (.h 1) 2 0 (List.map zAa.en x)),(4, .ptr (.s 15) 0),(3,lI a3)],[(.s 15,[nI a0.F_N,nI a0.F_M.F_Kind,nI a0.F_M.F_In,nI a0.F_M.F_Out,nI a0.F_M.F_Hid,nI a0.F_M.F_Frac,nI a0.F_H.F_Scheme,nI a0.F_H.F_K,nI a0.F_H.F_Wide,nI a0.F_Warm,nI a0.F_Rate,nI a0.F_Mom,nI a0.F_Clip,nI a0.F_Batch,nU a0.F_Seed, .d (.lst (List.map zAa.en a0.F_L))])]⟩
theorem zSZ (a0:zAq) (a3:List Int) (r1:(List Int)×Int):∀(x0:Int) (x1:List zAa),Ok (zDM a0 a3 r1 x0 x1) (LN zLv (.exit 0) (zUb a0 a3 r1) 21 0 (zT6 a0 a3 r1 x0 x1)):=by
 refine zDM.partial_correctness a0 a3 r1 _ ?_
 intro f IH x0 x1
 exact Tr.lpN (F:=zLv) (X:=Int×(List zAa))
  (.ite 6 31 (x0<(r1.1.length:Int))
   (.idx 6 eI r1.1 x0<| .idx 8 zAa.e a0.F_L (at' r1.1 x0)<| .app 2 zAa.e 32 x1 [at' a0.F_L (at' r1.1 x0)]<| .let_ (x1++[at' a0.F_L (at' r1.1 x0)]:List zAa) fun y4=> .again 7 (IntKind.i64.wrap (x0+1),y4))
   (.ret 4 x1)) _ fun x r=>IH x.1 x.2 r
theorem zVC (a0:zAq) (a1:Int) (a2:Int) (a3:List Int):HS 21 (zHL a0 a1 a2 a3) [.agg [.int .i64 a0.F_N, .int .i64 a0.F_M.F_Kind, .int .i64 a0.F_M.F_In, .int .i64 a0.F_M.F_Out, .int .i64 a0.F_M.F_Hid, .int .i64 a0.F_M.F_Frac, .int .i64 a0.F_H.F_Scheme, .int .i64 a0.F_H.F_K, .int .i64 a0.F_H.F_Wide, .int .i64 a0.F_Warm, .int .i64 a0.F_Rate, .int .i64 a0.F_Mom, .int .i64 a0.F_Clip, .int .i64 a0.F_Batch, .int .u64 a0.F_Seed, .lst (List.map zAa.en a0.F_L)], .int .i64 a1, .int .i64 a2, .lst (List.map (D.int .i64) a3)] zAc:=Tr.fn (F:=zLv)
 (.call 11 (zUY a0 a1 a2) zAh fun r1=> .iteN 12 23 (r1.2=0)
  (.ret 9 ([],r1.2))
  (.len 5 eI r1.1<| .mk 0 zAa.e 32 (⟨[],0⟩:zAa) 0 (r1.1.length:Int)<| .let_ (List.replicate (Int.toNat 0) (⟨[],0⟩:zAa):List zAa) fun y2=> .len 6 eI r1.1<| .loop 4 ⟨_,_,_,_,_,zSZ a0 a3 r1 0 y2⟩ fun j6=> .call 9 (zUX a0.F_M a3 a0.F_Clip j6) zAh fun r7=> .ret 6 (r7.1,r7.2)))
noncomputable abbrev zO7:Fe:= .of Tryz.prog 64 zAg
theorem zIP (a0:zAf):HS 64 (zD9 a0) [.agg [.int .i64 a0.F_Kind, .int .i64 a0.F_In, .int .i64 a0.F_Out, .int .i64 a0.F_Hid, .int .i64 a0.F_Frac]] zAg:=Tr.fn (F:=zO7)
 (.join 11 4 (γ:=Bool) ⟨fun x=>[(11,bB x)],[1],fun _=>[],[.s 15]⟩
  (.ite 0 7 (a0.F_In≥1)
  (.ret 5 (decide (a0.F_In≤16)))
  (.ret 5 false))
  fun j1=> .join 1 4 (γ:=Bool) ⟨fun x=>[(16,bB x)],[1],fun _=>[],[.s 15]⟩
  (.iteB 0 12 (j1)
  (.ret 5 (decide (a0.F_Frac≥0)))
  (.ret 5 false))
  fun j2=> .join 1 4 (γ:=Bool) ⟨fun x=>[(21,bB x)],[1],fun _=>[],[.s 15]⟩
  (.iteB 0 17 (j2)
  (.ret 5 (decide (a0.F_Frac≤30)))
  (.ret 5 false))
  fun j3=> .ite 14 24 (a0.F_Kind=0)
  (.join 4 4 (γ:=Bool) ⟨fun x=>[(31,bB x)],[1],fun _=>[],[.s 15]⟩
  (.iteB 0 27 (j3)
  (.ret 5 (a0.F_Out==0))
  (.ret 5 false))
  fun j4=> .join 1 4 (γ:=Bool) ⟨fun x=>[(36,bB x)],[],fun _=>[],[]⟩
  (.iteB 0 32 (j4)
  (.ret 5 (a0.F_Hid==0))
  (.ret 5 false))
  fun j5=> .iteX 9 74 (j5)
  (.ret 7 1)
  (.ret 7 0))
  (.ite 6 37 (a0.F_Kind=1)
  (.join 4 4 (γ:=Bool) ⟨fun x=>[(44,bB x)],[1],fun _=>[],[.s 15]⟩
  (.iteB 0 40 (j3)
  (.ret 5 (decide (a0.F_Out≥2)))
  (.ret 5 false))
  fun j6=> .join 1 4 (γ:=Bool) ⟨fun x=>[(49,bB x)],[1],fun _=>[],[.s 15]⟩
  (.iteB 0 45 (j6)
  (.ret 5 (decide (a0.F_Out≤8)))
  (.ret 5 false))
  fun j7=> .join 1 4 (γ:=Bool) ⟨fun x=>[(54,bB x)],[],fun _=>[],[]⟩
  (.iteB 0 50 (j7)
  (.ret 5 (a0.F_Hid==0))
  (.ret 5 false))
  fun j8=> .iteX 9 74 (j8)
  (.ret 7 1)
  (.ret 7 0))
  (.ite 6 55 (a0.F_Kind=2)
  (.join 4 4 (γ:=Bool) ⟨fun x=>[(62,bB x)],[1],fun _=>[],[.s 15]⟩
  (.iteB 0 58 (j3)
  (.ret 5 (a0.F_Out==0))
  (.ret 5 false))
  fun j9=> .join 1 4 (γ:=Bool) ⟨fun x=>[(67,bB x)],[1],fun _=>[],[.s 15]⟩
  (.iteB 0 63 (j9)
  (.ret 5 (decide (a0.F_Hid≥1)))
  (.ret 5 false))
  fun j10=> .join 1 4 (γ:=Bool) ⟨fun x=>[(72,bB x)],[],fun _=>[],[]⟩
  (.iteB 0 68 (j10)
  (.ret 5 (decide (a0.F_Hid≤8)))
  (.ret 5 false))
  fun j11=> .iteX 9 74 (j11)
  (.ret 7 1)
  (.ret 7 0))
  (.ret 18 1))))
noncomputable abbrev zRy:Fe:= .of Tryz.prog 65 zAe
theorem zJ0 (a0:Int) (a1:Int):HS 65 (zEz a0 a1) [.int .i64 a0, .int .i64 a1] zAe:=Tr.fn (F:=zRy)
 (.join 11 3 (γ:=Bool) ⟨fun x=>[(11,bB x)],[0,1],fun _=>[],[]⟩
  (.ite 0 8 (a0<1)
  (.ret 4 true)
  (.ret 4 (decide (a0>16))))
  fun j1=> .join 1 3 (γ:=Bool) ⟨fun x=>[(15,bB x)],[0,1],fun _=>[],[]⟩
  (.iteB 0 12 (j1)
  (.ret 4 true)
  (.ret 4 (decide (a1<2))))
  fun j2=> .join 1 3 (γ:=Bool) ⟨fun x=>[(19,bB x)],[0,1],fun _=>[],[]⟩
  (.iteB 0 16 (j2)
  (.ret 4 true)
  (.ret 4 (decide (a1>8))))
  fun j3=> .iteB 1 19 (j3)
  (.ret 8 (0,1))
  (.ret 12 (IntKind.i64.wrap (a1*(IntKind.i64.wrap (a0+1))),0)))
noncomputable abbrev zRE:Fe:= .of Tryz.prog 66 zAe
theorem zHu (a0:Int) (a1:Int):HS 66 (zDL a0 a1) [.int .i64 a0, .int .i64 a1] zAe:=Tr.fn (F:=zRE)
 (.join 11 3 (γ:=Bool) ⟨fun x=>[(11,bB x)],[0,1],fun _=>[],[]⟩
  (.ite 0 8 (a0<1)
  (.ret 4 true)
  (.ret 4 (decide (a0>16))))
  fun j1=> .join 1 3 (γ:=Bool) ⟨fun x=>[(15,bB x)],[0,1],fun _=>[],[]⟩
  (.iteB 0 12 (j1)
  (.ret 4 true)
  (.ret 4 (decide (a1<1))))
  fun j2=> .join 1 3 (γ:=Bool) ⟨fun x=>[(19,bB x)],[0,1],fun _=>[],[]⟩
  (.iteB 0 16 (j2)
  (.ret 4 true)
  (.ret 4 (decide (a1>8))))
  fun j3=> .iteB 1 19 (j3)
  (.ret 8 (0,1))
  (.ret 15 (IntKind.i64.wrap ((IntKind.i64.wrap ((IntKind.i64.wrap (a1*(IntKind.i64.wrap (a0+1))))+a1))+1),0)))
noncomputable abbrev zRF:Fe:= .of Tryz.prog 67 zAe
theorem zJZ (a0:Int):HS 67 (zEG a0) [.int .i64 a0] zAe:=Tr.fn (F:=zRF)
 (.join 11 3 (γ:=Bool) ⟨fun x=>[(9,bB x)],[0],fun _=>[],[]⟩
  (.ite 0 6 (a0<1)
  (.ret 4 true)
  (.ret 4 (decide (a0>16))))
  fun j1=> .iteB 1 9 (j1)
  (.ret 8 (0,1))
  (.ret 10 (IntKind.i64.wrap (a0+1),0)))
noncomputable abbrev zSe:Fe:= .of Tryz.prog 32 zAe
theorem zQB (a0:zAf):HS 32 (zFW a0) [.agg [.int .i64 a0.F_Kind, .int .i64 a0.F_In, .int .i64 a0.F_Out, .int .i64 a0.F_Hid, .int .i64 a0.F_Frac]] zAe:=Tr.fn (F:=zSe)
 (.call 10 (zIP a0) zAj fun r1=> .iteN 7 8 (r1=0)
  (.ret 9 (0,r1))
  (.ite 14 12 (a0.F_Kind=1)
  (.call 7 (zJ0 a0.F_In a0.F_Out) zAd fun r2=> .ret 8 (r2.1,r2.2))
  (.ite 6 21 (a0.F_Kind=2)
  (.call 7 (zHu a0.F_In a0.F_Hid) zAd fun r3=> .ret 8 (r3.1,r3.2))
  (.call 7 (zJZ a0.F_In) zAd fun r4=> .ret 6 (r4.1,r4.2)))))
noncomputable abbrev zP4:Fe:= .of Tryz.prog 35 zAg
theorem zOK (a0:zBa) (a1:Int):HS 35 (zEZ a0 a1) [.agg [.int .i64 a0.F_Scheme, .int .i64 a0.F_K, .int .i64 a0.F_Wide], .int .i64 a1] zAg:=Tr.fn (F:=zP4)
 (.join 10 3 (γ:=Bool) ⟨fun x=>[(11,bB x)],[2,1],fun _=>[],[.s 15]⟩
  (.ite 0 8 (a1≥1)
  (.ret 4 (decide (a1≤4096)))
  (.ret 4 false))
  fun j1=> .join 15 0 (γ:=Bool) ⟨fun x=>[(14,bB x)],[13,5,2,1],fun _=>[],[.s 15]⟩
  (.ite 0 14 (a0.F_Scheme=0)
  (.ret 2 true)
  (.ret 5 (a0.F_Scheme==3)))
  fun j2=> .iteB 0 14 (j2)
  (.join 4 4 (γ:=Bool) ⟨fun x=>[(22,bB x)],[2],fun _=>[],[.s 15]⟩
  (.iteB 0 18 (j1)
  (.ret 5 (a0.F_K==0))
  (.ret 5 false))
  fun j3=> .join 1 4 (γ:=Bool) ⟨fun x=>[(27,bB x)],[],fun _=>[],[]⟩
  (.iteB 0 23 (j3)
  (.ret 5 (a0.F_Wide==0))
  (.ret 5 false))
  fun j4=> .iteX 9 66 (j4)
  (.ret 7 1)
  (.ret 7 0))
  (.ite 6 28 (a0.F_Scheme=1)
  (.join 4 4 (γ:=Bool) ⟨fun x=>[(35,bB x)],[2,1],fun _=>[],[.s 15]⟩
  (.iteB 0 31 (j1)
  (.ret 5 (decide (a0.F_K≥0)))
  (.ret 5 false))
  fun j5=> .join 1 5 (γ:=Bool) ⟨fun x=>[(41,bB x)],[2],fun _=>[],[.s 15]⟩
  (.iteB 0 36 (j5)
  (.ret 6 (decide (a0.F_K≤a1)))
  (.ret 6 false))
  fun j6=> .join 1 4 (γ:=Bool) ⟨fun x=>[(46,bB x)],[],fun _=>[],[]⟩
  (.iteB 0 42 (j6)
  (.ret 5 (a0.F_Wide==0))
  (.ret 5 false))
  fun j7=> .iteX 9 66 (j7)
  (.ret 7 1)
  (.ret 7 0))
  (.ite 6 47 (a0.F_Scheme=2)
  (.join 4 4 (γ:=Bool) ⟨fun x=>[(54,bB x)],[2],fun _=>[],[.s 15]⟩
  (.iteB 0 50 (j1)
  (.ret 5 (a0.F_K==0))
  (.ret 5 false))
  fun j8=> .join 1 4 (γ:=Bool) ⟨fun x=>[(59,bB x)],[2],fun _=>[],[.s 15]⟩
  (.iteB 0 55 (j8)
  (.ret 5 (decide (a0.F_Wide≥1)))
  (.ret 5 false))
  fun j9=> .join 1 4 (γ:=Bool) ⟨fun x=>[(64,bB x)],[],fun _=>[],[]⟩
  (.iteB 0 60 (j9)
  (.ret 5 (decide (a0.F_Wide≤8)))
  (.ret 5 false))
  fun j10=> .iteX 9 66 (j10)
  (.ret 7 1)
  (.ret 7 0))
  (.ret 18 1))))
noncomputable abbrev zD6:Fe:= .of Tryz.prog 70 zAg
def zMz (a0:Int) (a1:Int) (a3:List zAa) (x0:Int):St:=⟨[(30,nI x0),(29,nI (a3.length:Int)),(28, .d (.lst (List.map zAa.en a3))),(0,nI a0),(1,nI a1),(3, .d (.lst (List.map zAa.en a3)))],[]⟩
def zMK (a0:Int) (a1:Int) (a3:List zAa) (x:Unit):St:=⟨[(1,nI a1),(3, .d (.lst (List.map zAa.en a3)))],[]⟩
theorem zLG (a0:Int) (a1:Int) (a3:List zAa):∀(x0:Int),Ok (zBo a0 a1 a3 x0) (LR zD6 (.exit 0) (zMK a0 a1 a3) 70 0 (zMz a0 a1 a3 x0)):=by
 refine zBo.partial_correctness a0 a1 a3 _ ?_
 intro f IH x0
 exact Tr.lpR (F:=zD6) (X:=Int)
  (.ite 6 31 (x0<(a3.length:Int))
   (.idx 6 zAa.e a3 x0<| .len 8 eI ((at' a3 x0).F_X)<| .iteN 3 38 ((((at' a3 x0).F_X).length:Int)=a0)
   (.ret 9 (.inl 4))
   (.again 7 (IntKind.i64.wrap (x0+1))))
   (.ret 4 (.inr ()))) _ fun x r=>IH x r
def zMv (a1:Int) (a3:List zAa) (x0:Int):St:=⟨[(50,nI x0),(49,nI (a3.length:Int)),(48, .d (.lst (List.map zAa.en a3))),(1,nI a1)],[]⟩
def zL8 (a1:Int) (a3:List zAa) (x:Unit):St:=⟨[],[]⟩
theorem zLx (a1:Int) (a3:List zAa):∀(x0:Int),Ok (zBm a1 a3 x0) (LR zD6 (.exit 2) (zL8 a1 a3) 70 1 (zMv a1 a3 x0)):=by
 refine zBm.partial_correctness a1 a3 _ ?_
 intro f IH x0
 exact Tr.lpR (F:=zD6) (X:=Int)
  (.ite 6 51 (x0<(a3.length:Int))
   (.idx 6 zAa.e a3 x0<| .join 10 5 (γ:=Bool) ⟨fun x=>[(62,bB x)],[50,49,48,1],fun _=>[],[]⟩
   (.ite 0 57 (((at' a3 x0).F_Y)<0)
   (.ret 6 true)
   (.ret 6 (decide (((at' a3 x0).F_Y)≥a1))))
   fun j4=> .iteB 1 62 (j4)
   (.ret 9 (.inl 1))
   (.again 7 (IntKind.i64.wrap (x0+1))))
   (.ret 4 (.inr ()))) _ fun x r=>IH x r
theorem zIQ (a0:Int) (a1:Int) (a2:List Int) (a3:List zAa):HS 70 (zDo a0 a1 a2 a3) [.int .i64 a0, .int .i64 a1, .lst (List.map (D.int .i64) a2), .lst (List.map zAa.en a3)] zAg:=Tr.fn (F:=zD6)
 (.call 8 (zJ0 a0 a1) zAd fun r1=> .iteN 12 22 (r1.2=0)
  (.ret 8 r1.2)
  (.len 6 eI a2<| .iteN 3 27 ((a2.length:Int)=r1.1)
  (.ret 7 4)
  (.len 6 zAa.e a3<| .loopR 4 id ⟨_,_,_,_,_,zLG a0 a1 a3 0⟩ fun j2=> .len 5 zAa.e a3<| .join 2 4 (γ:=Bool) ⟨fun x=>[(47,bB x)],[1,3],fun _=>[],[]⟩
  (.ite 0 43 ((a3.length:Int)=0)
  (.ret 5 true)
  (.len 1 zAa.e a3<| .ret 3 (decide ((a3.length:Int)>64))))
  fun j3=> .iteB 1 47 (j3)
  (.ret 7 1)
  (.len 6 zAa.e a3<| .loopR 4 id ⟨_,_,_,_,_,zLx a1 a3 0⟩ fun j5=> .ret 6 0))))
noncomputable abbrev zGJ:Fe:= .of Tryz.prog 71 zAg
def zMG (a0:Int) (a3:List zAa) (x0:Int):St:=⟨[(28,nI x0),(27,nI (a3.length:Int)),(26, .d (.lst (List.map zAa.en a3))),(0,nI a0),(3, .d (.lst (List.map zAa.en a3)))],[]⟩
def zMM (a0:Int) (a3:List zAa) (x:Unit):St:=⟨[(3, .d (.lst (List.map zAa.en a3)))],[]⟩
theorem zLT (a0:Int) (a3:List zAa):∀(x0:Int),Ok (zBq a0 a3 x0) (LR zGJ (.exit 0) (zMM a0 a3) 71 0 (zMG a0 a3 x0)):=by
 refine zBq.partial_correctness a0 a3 _ ?_
 intro f IH x0
 exact Tr.lpR (F:=zGJ) (X:=Int)
  (.ite 6 29 (x0<(a3.length:Int))
   (.idx 6 zAa.e a3 x0<| .len 8 eI ((at' a3 x0).F_X)<| .iteN 3 36 ((((at' a3 x0).F_X).length:Int)=a0)
   (.ret 9 (.inl 4))
   (.again 7 (IntKind.i64.wrap (x0+1))))
   (.ret 4 (.inr ()))) _ fun x r=>IH x r
theorem zIO (a0:Int) (a1:Int) (a2:List Int) (a3:List zAa):HS 71 (zDl a0 a1 a2 a3) [.int .i64 a0, .int .i64 a1, .lst (List.map (D.int .i64) a2), .lst (List.map zAa.en a3)] zAg:=Tr.fn (F:=zGJ)
 (.call 8 (zHu a0 a1) zAd fun r1=> .iteN 12 20 (r1.2=0)
  (.ret 8 r1.2)
  (.len 6 eI a2<| .iteN 3 25 ((a2.length:Int)=r1.1)
  (.ret 7 4)
  (.len 6 zAa.e a3<| .loopR 4 id ⟨_,_,_,_,_,zLT a0 a3 0⟩ fun j2=> .len 5 zAa.e a3<| .join 2 4 (γ:=Bool) ⟨fun x=>[(45,bB x)],[],fun _=>[],[]⟩
  (.ite 0 41 ((a3.length:Int)=0)
  (.ret 5 true)
  (.len 1 zAa.e a3<| .ret 3 (decide ((a3.length:Int)>64))))
  fun j3=> .iteB 1 45 (j3)
  (.ret 7 1)
  (.ret 7 0))))
noncomputable abbrev zGZ:Fe:= .of Tryz.prog 72 zAg
def zMO (a0:Int) (a2:List zAa) (x0:Int):St:=⟨[(25,nI x0),(24,nI (a2.length:Int)),(23, .d (.lst (List.map zAa.en a2))),(0,nI a0),(2, .d (.lst (List.map zAa.en a2)))],[]⟩
def zM3 (a0:Int) (a2:List zAa) (x:Unit):St:=⟨[(2, .d (.lst (List.map zAa.en a2)))],[]⟩
theorem zLP (a0:Int) (a2:List zAa):∀(x0:Int),Ok (zBl a0 a2 x0) (LR zGZ (.exit 0) (zM3 a0 a2) 72 0 (zMO a0 a2 x0)):=by
 refine zBl.partial_correctness a0 a2 _ ?_
 intro f IH x0
 exact Tr.lpR (F:=zGZ) (X:=Int)
  (.ite 6 26 (x0<(a2.length:Int))
   (.idx 6 zAa.e a2 x0<| .len 8 eI ((at' a2 x0).F_X)<| .iteN 3 33 ((((at' a2 x0).F_X).length:Int)=a0)
   (.ret 9 (.inl 4))
   (.again 7 (IntKind.i64.wrap (x0+1))))
   (.ret 4 (.inr ()))) _ fun x r=>IH x r
theorem zGx (a0:Int) (a1:List Int) (a2:List zAa):HS 72 (zB1 a0 a1 a2) [.int .i64 a0, .lst (List.map (D.int .i64) a1), .lst (List.map zAa.en a2)] zAg:=Tr.fn (F:=zGZ)
 (.call 7 (zJZ a0) zAd fun r1=> .iteN 12 17 (r1.2=0)
  (.ret 8 r1.2)
  (.len 6 eI a1<| .iteN 3 22 ((a1.length:Int)=r1.1)
  (.ret 7 4)
  (.len 6 zAa.e a2<| .loopR 4 id ⟨_,_,_,_,_,zLP a0 a2 0⟩ fun j2=> .len 5 zAa.e a2<| .join 2 4 (γ:=Bool) ⟨fun x=>[(42,bB x)],[],fun _=>[],[]⟩
  (.ite 0 38 ((a2.length:Int)=0)
  (.ret 5 true)
  (.len 1 zAa.e a2<| .ret 3 (decide ((a2.length:Int)>64))))
  fun j3=> .iteB 1 42 (j3)
  (.ret 7 1)
  (.ret 7 0))))
noncomputable abbrev zQW:Fe:= .of Tryz.prog 36 zAg
theorem zGV (a0:zAf) (a1:List Int) (a2:List zAa):HS 36 (zCG a0 a1 a2) [.agg [.int .i64 a0.F_Kind, .int .i64 a0.F_In, .int .i64 a0.F_Out, .int .i64 a0.F_Hid, .int .i64 a0.F_Frac], .lst (List.map (D.int .i64) a1), .lst (List.map zAa.en a2)] zAg:=Tr.fn (F:=zQW)
 (.call 9 (zIP a0) zAj fun r1=> .iteN 7 11 (r1=0)
  (.ret 8 r1)
  (.ite 14 15 (a0.F_Kind=1)
  (.call 9 (zIQ a0.F_In a0.F_Out a1 a2) zAj fun r2=> .ret 5 r2)
  (.ite 6 24 (a0.F_Kind=2)
  (.call 9 (zIO a0.F_In a0.F_Hid a1 a2) zAj fun r3=> .ret 5 r3)
  (.call 9 (zGx a0.F_In a1 a2) zAj fun r4=> .ret 3 r4))))
noncomputable abbrev zG5:Fe:= .of Tryz.prog 19 zAg
def zMT (a0:zAq) (r1:Int×Int) (x0:Int):St:=⟨[(97,nI x0),(96,nI (a0.F_L.length:Int)),(95, .d (.lst (List.map zAa.en a0.F_L))),(3,nI r1.1),(1, .ptr (.s 15) 0)],[(.s 15,[nI a0.F_N,nI a0.F_M.F_Kind,nI a0.F_M.F_In,nI a0.F_M.F_Out,nI a0.F_M.F_Hid,nI a0.F_M.F_Frac,nI a0.F_H.F_Scheme,nI a0.F_H.F_K,nI a0.F_H.F_Wide,nI a0.F_Warm,nI a0.F_Rate,nI a0.F_Mom,nI a0.F_Clip,nI a0.F_Batch,nU a0.F_Seed, .d (.lst (List.map zAa.en a0.F_L))])]⟩
def zMi (a0:zAq) (r1:Int×Int) (x:Unit):St:=⟨[],[]⟩
theorem zLz (a0:zAq) (r1:Int×Int):∀(x0:Int),Ok (zBT a0 r1 x0) (LR zG5 (.exit 0) (zMi a0 r1) 19 0 (zMT a0 r1 x0)):=by
 refine zBT.partial_correctness a0 r1 _ ?_
 intro f IH x0
 exact Tr.lpR (F:=zG5) (X:=Int)
  (.ite 6 98 (x0<(a0.F_L.length:Int))
   (.idx 6 zAa.e a0.F_L x0<| .join 5 0 (γ:=Bool) ⟨fun x=>[(108,bB x)],[97,96,95,3,1],fun _=>[],[.s 15]⟩
   (.draws 0 (.mk 4 eI 8 0 r1.1 r1.1<| .hold 1 []<| .hold 2 []<| .call 0 (zGV a0.F_M (List.replicate (Int.toNat r1.1) 0) [at' a0.F_L x0]) zAj fun r15=> .ret 3 (r15 !=0)) (.hold 6 []<| .mk 0 eI 8 0 r1.1 r1.1<| .hold 1 []<| .call 0 (zGV a0.F_M (List.replicate (Int.toNat r1.1) 0) [at' a0.F_L x0]) zAj fun r15=> .ret 3 (r15 !=0)))
   fun j16=> .iteB 0 108 (j16)
   (.ret 9 (.inl 1))
   (.again 7 (IntKind.i64.wrap (x0+1))))
   (.ret 4 (.inr ()))) _ fun x r=>IH x r
theorem zOA (a0:zAq):HS 19 (zE4 a0) [.agg [.int .i64 a0.F_N, .int .i64 a0.F_M.F_Kind, .int .i64 a0.F_M.F_In, .int .i64 a0.F_M.F_Out, .int .i64 a0.F_M.F_Hid, .int .i64 a0.F_M.F_Frac, .int .i64 a0.F_H.F_Scheme, .int .i64 a0.F_H.F_K, .int .i64 a0.F_H.F_Wide, .int .i64 a0.F_Warm, .int .i64 a0.F_Rate, .int .i64 a0.F_Mom, .int .i64 a0.F_Clip, .int .i64 a0.F_Batch, .int .u64 a0.F_Seed, .lst (List.map zAa.en a0.F_L)]] zAg:=Tr.fn (F:=zG5)
 (.call 9 (zQB a0.F_M) zAd fun r1=> .join 12 4 (γ:=Bool) ⟨fun x=>[(20,bB x)],[3,1],fun _=>[],[.s 15]⟩
  (.iteN 0 16 (r1.2=0)
  (.ret 5 true)
  (.ret 5 (decide (a0.F_N<1))))
  fun j2=> .join 1 4 (γ:=Bool) ⟨fun x=>[(25,bB x)],[3,1],fun _=>[],[.s 15]⟩
  (.iteB 0 21 (j2)
  (.ret 5 true)
  (.ret 5 (decide (a0.F_N>64))))
  fun j3=> .join 1 6 (γ:=Bool) ⟨fun x=>[(32,bB x)],[3,1],fun _=>[],[.s 15]⟩
  (.iteB 0 26 (j3)
  (.ret 7 true)
  (.call 3 (zOK a0.F_H r1.1) zAj fun r4=> .ret 3 (r4 !=0)))
  fun j5=> .join 1 4 (γ:=Bool) ⟨fun x=>[(37,bB x)],[3,1],fun _=>[],[.s 15]⟩
  (.iteB 0 33 (j5)
  (.ret 5 true)
  (.ret 5 (decide (a0.F_Warm<0))))
  fun j6=> .join 1 4 (γ:=Bool) ⟨fun x=>[(42,bB x)],[3,1],fun _=>[],[.s 15]⟩
  (.iteB 0 38 (j6)
  (.ret 5 true)
  (.ret 5 (decide (a0.F_Warm>1048576))))
  fun j7=> .iteB 1 42 (j7)
  (.ret 7 1)
  (.rd 7 (0≤a0.F_M.F_Frac) (nI (sShl .i64 1 a0.F_M.F_Frac))<| .join 9 5 (γ:=Bool) ⟨fun x=>[(55,bB x)],[5,3,1],fun _=>[],[.s 15]⟩
  (.ite 0 50 (a0.F_Rate<0)
  (.ret 6 true)
  (.ret 6 (decide (a0.F_Rate>(sShl .i64 1 a0.F_M.F_Frac)))))
  fun j8=> .join 1 4 (γ:=Bool) ⟨fun x=>[(60,bB x)],[5,3,1],fun _=>[],[.s 15]⟩
  (.iteB 0 56 (j8)
  (.ret 5 true)
  (.ret 5 (decide (a0.F_Mom<0))))
  fun j9=> .join 1 5 (γ:=Bool) ⟨fun x=>[(66,bB x)],[3,1],fun _=>[],[.s 15]⟩
  (.iteB 0 61 (j9)
  (.ret 6 true)
  (.ret 6 (decide (a0.F_Mom>(sShl .i64 1 a0.F_M.F_Frac)))))
  fun j10=> .join 1 4 (γ:=Bool) ⟨fun x=>[(71,bB x)],[3,1],fun _=>[],[.s 15]⟩
  (.iteB 0 67 (j10)
  (.ret 5 true)
  (.ret 5 (decide (a0.F_Clip<0))))
  fun j11=> .iteB 1 71 (j11)
  (.ret 7 1)
  (.len 7 zAa.e a0.F_L<| .join 2 4 (γ:=Bool) ⟨fun x=>[(80,bB x)],[3,1],fun _=>[],[.s 15]⟩
  (.ite 0 76 ((a0.F_L.length:Int)>256)
  (.ret 5 true)
  (.ret 5 (decide (a0.F_Batch<1))))
  fun j12=> .join 1 4 (γ:=Bool) ⟨fun x=>[(85,bB x)],[3,1],fun _=>[],[.s 15]⟩
  (.iteB 0 81 (j12)
  (.ret 5 true)
  (.ret 5 (decide (a0.F_Batch>64))))
  fun j13=> .join 1 7 (γ:=Bool) ⟨fun x=>[(93,bB x)],[3,1],fun _=>[],[.s 15]⟩
  (.iteB 0 86 (j13)
  (.ret 8 true)
  (.len 4 zAa.e a0.F_L<| .ret 3 (decide (a0.F_Batch>(a0.F_L.length:Int)))))
  fun j14=> .iteB 1 93 (j14)
  (.ret 7 1)
  (.len 7 zAa.e a0.F_L<| .loopR 4 id ⟨_,_,_,_,_,zLz a0 r1 0⟩ fun j17=> .ret 6 0))))
noncomputable abbrev zIK:Fe:= .of Tryz.prog 124 zAy
def zO5 (a1:List Int) (x0:Int) (x1:Int):St:=⟨[(11,nI x0),(10,nI (a1.length:Int)),(9,lI a1),(5,nU x1)],[]⟩
def zPa (a1:List Int) (x:Int):St:=⟨[(5,nU x)],[]⟩
theorem zOL (a1:List Int):∀(x0:Int) (x1:Int),Ok (zCw a1 x0 x1) (LN zIK (.exit 0) (zPa a1) 124 0 (zO5 a1 x0 x1)):=by
 refine zCw.partial_correctness a1 _ ?_
 intro f IH x0 x1
 exact Tr.lpN (F:=zIK) (X:=Int×Int)
  (.ite 6 12 (x0<(a1.length:Int))
   (.idx 6 eI a1 x0<| .let_ (bXor .u64 (IntKind.u64.wrap ((bXor .u64 x1 (IntKind.u64.wrap (at' a1 x0)))*11400714819323198485)) (sShr .u64 (IntKind.u64.wrap ((bXor .u64 x1 (IntKind.u64.wrap (at' a1 x0)))*11400714819323198485)) 29):Int) fun y1=> .again 29 (IntKind.i64.wrap (x0+1),y1))
   (.ret 4 x1)) _ fun x r=>IH x.1 x.2 r
theorem zRH (a0:Int) (a1:List Int):HS 124 (zIj a0 a1) [.int .u64 a0, .lst (List.map (D.int .i64) a1)] zAy:=Tr.fn (F:=zIK)
 (.len 13 eI a1<| .loop 4 ⟨_,_,_,_,_,zOL a1 0 a0⟩ fun j3=> .ret 16 (bXor .u64 (IntKind.u64.wrap (j3*13787848793156543929)) (sShr .u64 (IntKind.u64.wrap (j3*13787848793156543929)) 32)))
def zGA (v:Int×Int):PV:= .tup [nU v.1,nI v.2]
noncomputable abbrev zPV:Fe:= .of Tryz.prog 98 zGA
theorem zOU:∀v,(zGA v).noLst:=fun _=>⟨trivial,trivial,trivial⟩
theorem zOE (a0:Int) (a1:Int) (a2:List Int):HS 98 (zEW a0 a1 a2) [.int .u64 a0, .int .u64 a1, .lst (List.map (D.int .i64) a2)] zGA:=Tr.fn (F:=zPV)
 (.ite 11 9 (a0=0)
  (.ret 8 (0,1))
  (.call 6 (zRH a1 a2) zAo fun r1=> .rd 1 (a0≠0) (nU (Int.tmod r1 a0))<| .ret 4 (Int.tmod r1 a0,0)))
noncomputable abbrev zDX:Fe:= .of Tryz.prog 69 zAc
def zMP (a0:Int) (a1:Int) (a2:List Int) (y1:List Int) (x0:Int) (x1:List Int):St:=⟨[(22,nI x0),(21,nI (y1.length:Int)),(8,sI (.h 0) x1),(0,nI a0),(1,nU a1),(2,lI a2)],[]⟩
def zL2 (a0:Int) (a1:Int) (a2:List Int) (y1:List Int) (x:(List Int)):St:=⟨[(8,sI (.h 1) x),(0,nI a0),(1,nU a1),(2,lI a2)],[]⟩
theorem zLJ (a0:Int) (a1:Int) (a2:List Int) (y1:List Int):∀(x0:Int) (x1:List Int),Ok (zBY a0 a1 a2 y1 x0 x1) (LN zDX (.exit 0) (zL2 a0 a1 a2 y1) 69 0 (zMP a0 a1 a2 y1 x0 x1)):=by
 refine zBY.partial_correctness a0 a1 a2 y1 _ ?_
 intro f IH x0 x1
 exact Tr.lpN (F:=zDX) (X:=Int×(List Int))
  (.ite 6 23 (x0<(y1.length:Int))
   (.idx 13 eI x1 x0<| .sto 0 [8] eI x1 x0 x0<| .again 6 (IntKind.i64.wrap (x0+1),x1.set (Int.toNat x0) x0))
   (.ret 4 x1)) _ fun x r=>IH x.1 x.2 r
def zM1 (a1:Int) (a2:List Int) (x0:Int) (x1:List Int):St:=⟨[(10,nI x0),(8,sI (.h 2) x1),(1,nU a1),(2,lI a2)],[]⟩
def zMr (a1:Int) (a2:List Int) (x:(List Int)):St:=⟨[(8,sI (.h 3) x)],[]⟩
theorem zLZ (a1:Int) (a2:List Int):∀(x0:Int) (x1:List Int),Ok (zBI a1 a2 x0 x1) (LN zDX (.exit 2) (zMr a1 a2) 69 1 (zM1 a1 a2 x0 x1)):=by
 refine zBI.partial_correctness a1 a2 _ ?_
 intro f IH x0 x1
 exact Tr.lpN (F:=zDX) (X:=Int×(List Int))
  (.ite 7 33 (x0≥1)
   (.appN 11 eI 8 a2<| .app 2 eI 8 a2 [x0]<| .call 0 (zOE (IntKind.u64.wrap (IntKind.i64.wrap (x0+1))) a1 (a2++[x0])) zOU fun r4=> .idx 10 eI x1 x0<| .idx 9 eI x1 r4.1<| .idx 1 eI x1 x0<| .sto 0 [8] eI x1 x0 (at' x1 r4.1)<| .let_ (x1.set (Int.toNat x0) (at' x1 r4.1):List Int) fun y5=> .idx 5 eI y5 r4.1<| .sto 0 [8] eI y5 r4.1 (at' x1 x0)<| .let_ (y5.set (Int.toNat r4.1) (at' x1 x0):List Int) fun y7=> .again 7 (IntKind.i64.wrap (x0-1),y7))
   (.ret 4 x1)) _ fun x r=>IH x.1 x.2 r
theorem zOV (a0:Int) (a1:Int) (a2:List Int):HS 69 (zE5 a0 a1 a2) [.int .i64 a0, .int .u64 a1, .lst (List.map (D.int .i64) a2)] zAc:=Tr.fn (F:=zDX)
 (.ite 11 15 (a0<0)
  (.ret 8 ([],1))
  (.ite 8 17 (a0>4096)
  (.ret 8 ([],3))
  (.mk 5 eI 8 0 a0 a0<| .let_ (List.replicate (Int.toNat a0) 0:List Int) fun y1=> .len 6 eI y1<| .loop 4 ⟨_,_,_,_,_,zLJ a0 a1 a2 y1 0 y1⟩ fun j3=> .loop 10 ⟨_,_,_,_,_,zLZ a1 a2 (IntKind.i64.wrap (a0-1)) j3⟩ fun j9=> .ret 8 (j9,0))))
noncomputable abbrev zQL:Fe:= .of Tryz.prog 34 zAc
theorem zPL (a0:Int) (a1:Int) (a2:Int) (a3:List Int):HS 34 (zHw a0 a1 a2 a3) [.int .i64 a0, .int .i64 a1, .int .u64 a2, .lst (List.map (D.int .i64) a3)] zAc:=Tr.fn (F:=zQL)
 (.join 11 4 (γ:=Bool) ⟨fun x=>[(18,bB x)],[0,1,2,3],fun _=>[],[]⟩
  (.ite 0 14 (a0<0)
  (.ret 5 true)
  (.ret 5 (decide (a0>a1))))
  fun j1=> .iteB 1 18 (j1)
  (.ret 8 ([],1))
  (.call 7 (zOV a1 a2 a3) zAh fun r2=> .iteN 12 27 (r2.2=0)
  (.ret 9 ([],r2.2))
  (.cut 6 eI r2.1 none (some a0)<| .ret 4 (cut' r2.1 none (some a0),0))))
noncomputable abbrev zPK:Fe:= .of Tryz.prog 16 zAc
theorem zOx (a0:zAq) (a1:Int) (a2:Int):HS 16 (zEX a0 a1 a2) [.agg [.int .i64 a0.F_N, .int .i64 a0.F_M.F_Kind, .int .i64 a0.F_M.F_In, .int .i64 a0.F_M.F_Out, .int .i64 a0.F_M.F_Hid, .int .i64 a0.F_M.F_Frac, .int .i64 a0.F_H.F_Scheme, .int .i64 a0.F_H.F_K, .int .i64 a0.F_H.F_Wide, .int .i64 a0.F_Warm, .int .i64 a0.F_Rate, .int .i64 a0.F_Mom, .int .i64 a0.F_Clip, .int .i64 a0.F_Batch, .int .u64 a0.F_Seed, .lst (List.map zAa.en a0.F_L)], .int .i64 a1, .int .i64 a2] zAc:=Tr.fn (F:=zPK)
 (.call 10 (zOA a0) zAj fun r1=> .join 2 3 (γ:=Bool) ⟨fun x=>[(14,bB x)],[3,1,2],fun _=>[],[.s 15]⟩
  (.iteN 0 11 (r1=0)
  (.ret 4 true)
  (.ret 4 (decide (a2<0))))
  fun j2=> .join 1 3 (γ:=Bool) ⟨fun x=>[(18,bB x)],[3,1,2],fun _=>[],[.s 15]⟩
  (.iteB 0 15 (j2)
  (.ret 4 true)
  (.ret 4 (decide (a2>1073741824))))
  fun j3=> .join 1 3 (γ:=Bool) ⟨fun x=>[(22,bB x)],[3,1,2],fun _=>[],[.s 15]⟩
  (.iteB 0 19 (j3)
  (.ret 4 true)
  (.ret 4 (decide (a1<0))))
  fun j4=> .join 1 5 (γ:=Bool) ⟨fun x=>[(28,bB x)],[3,1,2],fun _=>[],[.s 15]⟩
  (.iteB 0 23 (j4)
  (.ret 6 true)
  (.ret 6 (decide (a1≥a0.F_N))))
  fun j5=> .iteB 1 28 (j5)
  (.ret 8 ([],1))
  (.len 8 zAa.e a0.F_L<| .call 5 (zPL a0.F_Batch (a0.F_L.length:Int) a0.F_Seed [a1,a2]) zAh fun r6=> .ret 6 (r6.1,r6.2)))
noncomputable abbrev zHy:Fe:= .of Tryz.prog 147 zII
def zNF (a0:Int) (a1:List Int) (x0:Int) (x1:List (List Int)):St:=⟨[(33,nI x0),(32,nI a0),(7, .sl (.h 0) 1 0 (List.map (enL (D.int .i64)) x1)),(6,nI (IntKind.i64.wrap (Int.tdiv (a1.length:Int) a0))),(1,lI a1)],[]⟩
def zNi (a0:Int) (a1:List Int) (x:(List (List Int))):St:=⟨[(7, .sl (.h 1) 1 0 (List.map (enL (D.int .i64)) x))],[]⟩
theorem zML (a0:Int) (a1:List Int):∀(x0:Int) (x1:List (List Int)),Ok (zCd a0 a1 x0 x1) (LN zHy (.exit 0) (zNi a0 a1) 147 0 (zNF a0 a1 x0 x1)):=by
 refine zCd.partial_correctness a0 a1 _ ?_
 intro f IH x0 x1
 exact Tr.lpN (F:=zHy) (X:=Int×(List (List Int)))
  (.ite 6 34 (x0<a0)
   (.let_ (IntKind.i64.wrap (x0*(IntKind.i64.wrap (Int.tdiv (a1.length:Int) a0))):Int) fun y4=> .let_ (IntKind.i64.wrap ((IntKind.i64.wrap (x0+1))*(IntKind.i64.wrap (Int.tdiv (a1.length:Int) a0))):Int) fun y6=> .cut 19 eI a1 (some y4) (some y6)<| .let_ (cut' a1 (some y4) (some y6):List Int) fun y8=> .appN 0 eI 8 y8<| .app 1 (eL eI) 24 x1 [y8]<| .again 7 (IntKind.i64.wrap (x0+1),x1++[y8]))
   (.ret 4 x1)) _ fun x r=>IH x.1 x.2 r
theorem zJI (a0:Int) (a1:List Int):HS 147 (zEn a0 a1) [.int .i64 a0, .lst (List.map (D.int .i64) a1)] zII:=Tr.fn (F:=zHy)
 (.join 11 3 (γ:=Bool) ⟨fun x=>[(14,bB x)],[0,1],fun _=>[],[]⟩
  (.ite 0 11 (a0<2)
  (.ret 4 true)
  (.ret 4 (decide (a0>8))))
  fun j1=> .iteB 1 14 (j1)
  (.ret 8 ([],1))
  (.len 5 eI a1<| .rd 1 (a0≠0) (nI (IntKind.i64.wrap (Int.tdiv (a1.length:Int) a0)))<| .len 6 eI a1<| .rd 1 (a0≠0) (nI (Int.tmod (a1.length:Int) a0))<| .join 2 3 (γ:=Bool) ⟨fun x=>[(27,bB x)],[6,0,1],fun _=>[],[]⟩
  (.iteN 0 24 ((Int.tmod (a1.length:Int) a0)=0)
  (.ret 4 true)
  (.ret 4 (decide ((IntKind.i64.wrap (Int.tdiv (a1.length:Int) a0))<2))))
  fun j2=> .join 1 3 (γ:=Bool) ⟨fun x=>[(31,bB x)],[6,0,1],fun _=>[],[]⟩
  (.iteB 0 28 (j2)
  (.ret 4 true)
  (.ret 4 (decide ((IntKind.i64.wrap (Int.tdiv (a1.length:Int) a0))>17))))
  fun j3=> .iteB 1 31 (j3)
  (.ret 8 ([],4))
  (.loop 14 ⟨_,_,_,_,_,zML a0 a1 0 []⟩ fun j10=> .ret 8 (j10,0))))
noncomputable abbrev zRL:Fe:= .of Tryz.prog 125 zAg
theorem zQ0 (a0:Int) (a1:List Int) (a2:List zAa):HS 125 (zH2 a0 a1 a2) [.int .i64 a0, .lst (List.map (D.int .i64) a1), .lst (List.map zAa.en a2)] zAg:=Tr.fn (F:=zRL)
 (.callZ 8 (zJI a0 a1) fun r1=> .iteN 12 16 (r1.2=0)
  (.ret 8 r1.2)
  (.idx 5 (eL eI) r1.1 0<| .len 1 eI (at' r1.1 0)<| .call 4 (zIQ (IntKind.i64.wrap (((at' r1.1 0).length:Int)-1)) a0 a1 a2) zAj fun r2=> .ret 3 r2))
noncomputable abbrev zRV:Fe:= .of Tryz.prog 190 zAg
theorem zJ1 (a0:List Int) (a1:List Int):HS 190 (zEI a0 a1) [.lst (List.map (D.int .i64) a0), .lst (List.map (D.int .i64) a1)] zAg:=Tr.fn (F:=zRV)
 (.len 8 eI a0<| .join 2 4 (γ:=Bool) ⟨fun x=>[(12,bB x)],[0,1],fun _=>[],[]⟩
  (.ite 0 8 ((a0.length:Int)>4096)
  (.ret 5 true)
  (.len 1 eI a1<| .ret 3 (decide ((a1.length:Int)>4096))))
  fun j1=> .iteB 1 12 (j1)
  (.ret 7 3)
  (.len 6 eI a0<| .len 1 eI a1<| .iteN 2 17 ((a0.length:Int)=(a1.length:Int))
  (.ret 7 4)
  (.ret 7 0)))
noncomputable abbrev zQz:Fe:= .of Tryz.prog 189 zAy
theorem zET (a0:Int):HS 189 (zCP a0) [.int .i64 a0] zAy:=Tr.fn (F:=zQz)
 (.ite 10 4 (a0<0)
  (.ret 12 (IntKind.u64.wrap ((IntKind.u64.wrap (IntKind.i64.wrap (0-(IntKind.i64.wrap (a0+1)))))+1)))
  (.ret 9 (IntKind.u64.wrap a0)))
noncomputable abbrev zPo:Fe:= .of Tryz.prog 188 zCv
theorem zIS (a0:Int) (a1:Int):HS 188 (zDZ a0 a1) [.int .u64 a0, .int .u64 a1] zCv:=Tr.fn (F:=zPo)
 (.ret 70 (IntKind.u64.wrap ((IntKind.u64.wrap ((IntKind.u64.wrap ((sShr .u64 a0 32)*(sShr .u64 a1 32)))+(sShr .u64 (IntKind.u64.wrap ((IntKind.u64.wrap ((sShr .u64 a0 32)*(bAnd .u64 a1 4294967295)))+(sShr .u64 (IntKind.u64.wrap ((bAnd .u64 a0 4294967295)*(bAnd .u64 a1 4294967295))) 32))) 32)))+(sShr .u64 (IntKind.u64.wrap ((IntKind.u64.wrap ((bAnd .u64 a0 4294967295)*(sShr .u64 a1 32)))+(bAnd .u64 (IntKind.u64.wrap ((IntKind.u64.wrap ((sShr .u64 a0 32)*(bAnd .u64 a1 4294967295)))+(sShr .u64 (IntKind.u64.wrap ((bAnd .u64 a0 4294967295)*(bAnd .u64 a1 4294967295))) 32))) 4294967295))) 32)),bOr .u64 (sShl .u64 (IntKind.u64.wrap ((IntKind.u64.wrap ((bAnd .u64 a0 4294967295)*(sShr .u64 a1 32)))+(bAnd .u64 (IntKind.u64.wrap ((IntKind.u64.wrap ((sShr .u64 a0 32)*(bAnd .u64 a1 4294967295)))+(sShr .u64 (IntKind.u64.wrap ((bAnd .u64 a0 4294967295)*(bAnd .u64 a1 4294967295))) 32))) 4294967295))) 32) (bAnd .u64 (IntKind.u64.wrap ((bAnd .u64 a0 4294967295)*(bAnd .u64 a1 4294967295))) 4294967295)))
def zGW (v:Int×Int):PV:= .tup [nI v.1,nU v.2]
noncomputable abbrev zQJ:Fe:= .of Tryz.prog 172 zGW
theorem zPp:∀v,(zGW v).noLst:=fun _=>⟨trivial,trivial,trivial⟩
theorem zO1 (a0:Int) (a1:Int):HS 172 (zFm a0 a1) [.int .i64 a0, .int .i64 a1] zGW:=Tr.fn (F:=zQJ)
 (.call 8 (zET a0) zAo fun r1=> .call 1 (zET a1) zAo fun r2=> .call 0 (zIS r1 r2) zDV fun r3=> .ite 15 20 ((decide (a0<0))=(decide (a1<0)))
  (.ret 11 (IntKind.i64.wrap r3.1,r3.2))
  (.let_ (bXor .u64 (if IntKind.signed .u64 then -1 else IntKind.max .u64) r3.1:Int) fun y4=> .let_ (IntKind.u64.wrap ((bXor .u64 (if IntKind.signed .u64 then -1 else IntKind.max .u64) r3.2)+1):Int) fun y6=> .ite 21 30 (y6=0)
  (.ret 15 (IntKind.i64.wrap (IntKind.u64.wrap (y4+1)),y6))
  (.ret 11 (IntKind.i64.wrap y4,y6))))
noncomputable abbrev zH1:Fe:= .of Tryz.prog 149 zAe
def zOM (a2:Int) (x0:Int) (x1:Int) (x2:Int):St:=⟨[(24,nI x0),(23,nI a2),(9,nU x1),(8,nI x2)],[]⟩
def zOR (a2:Int) (x:Int×Int):St:=⟨[(9,nU x.1),(8,nI x.2)],[]⟩
theorem zM8 (a2:Int):∀(x0:Int) (x1:Int) (x2:Int),Ok (zCh a2 x0 x1 x2) (LN zH1 (.exit 0) (zOR a2) 149 0 (zOM a2 x0 x1 x2)):=by
 refine zCh.partial_correctness a2 _ ?_
 intro f IH x0 x1 x2
 exact Tr.lpN (F:=zH1) (X:=Int×Int×Int)
  (.ite 6 25 (x0<a2)
   (.let_ (bOr .u64 (sShr .u64 x1 1) (sShl .u64 (IntKind.u64.wrap (bAnd .i64 x2 1)) 63):Int) fun y3=> .again 25 (IntKind.i64.wrap (x0+1),y3,sShr .i64 x2 1))
   (.ret 4 (x1,x2))) _ fun x r=>IH x.1 x.2.1 x.2.2 r
theorem zHx (a0:Int) (a1:Int) (a2:Int):HS 149 (zDJ a0 a1 a2) [.int .i64 a0, .int .i64 a1, .int .i64 a2] zAe:=Tr.fn (F:=zH1)
 (.join 11 3 (γ:=Bool) ⟨fun x=>[(16,bB x)],[0,1,2],fun _=>[],[]⟩
  (.ite 0 13 (a2<0)
  (.ret 4 true)
  (.ret 4 (decide (a2>30))))
  fun j1=> .iteB 1 16 (j1)
  (.ret 8 (0,1))
  (.call 6 (zO1 a0 a1) zPp fun r2=> .loop 14 ⟨_,_,_,_,_,zM8 a2 0 r2.2 r2.1⟩ fun j5=> .iteN 15 41 (j5.2=(sShr .i64 (IntKind.i64.wrap j5.1) 63))
  (.ret 8 (0,2))
  (.ret 9 (IntKind.i64.wrap j5.1,0))))
noncomputable abbrev zRx:Fe:= .of Tryz.prog 179 zAe
theorem zHr (a0:Int) (a1:Int):HS 179 (zDO a0 a1) [.int .i64 a0, .int .i64 a1] zAe:=Tr.fn (F:=zRx)
 (.join 11 5 (γ:=Bool) ⟨fun x=>[(13,bB x)],[0,1],fun _=>[],[]⟩
  (.ite 0 8 (a1>0)
  (.ret 6 (decide (a0>(IntKind.i64.wrap (9223372036854775807-a1)))))
  (.ret 6 false))
  fun j1=> .iteB 1 14 (j1)
  (.ret 18 (0,2))
  (.ite 3 17 (a1<0)
  (.ite 7 23 (a0<(IntKind.i64.wrap ((-9223372036854775808)-a1)))
  (.ret 8 (0,2))
  (.ret 11 (IntKind.i64.wrap (a0+a1),0)))
  (.ret 18 (IntKind.i64.wrap (a0+a1),0))))
noncomputable abbrev zHY:Fe:= .of Tryz.prog 178 zAe
def zOF (a0:List Int) (a1:List Int) (a2:Int) (x0:Int) (x1:Int):St:=⟨[(27,nI x0),(26,nI (a0.length:Int)),(9,nI x1),(0,lI a0),(1,lI a1),(2,nI a2)],[]⟩
def zOI (a0:List Int) (a1:List Int) (a2:Int) (x:Int):St:=⟨[(9,nI x)],[]⟩
theorem zNC (a0:List Int) (a1:List Int) (a2:Int):∀(x0:Int) (x1:Int),Ok (zBH a0 a1 a2 x0 x1) (LR zHY (.exit 0) (zOI a0 a1 a2) 178 0 (zOF a0 a1 a2 x0 x1)):=by
 refine zBH.partial_correctness a0 a1 a2 _ ?_
 intro f IH x0 x1
 exact Tr.lpR (F:=zHY) (X:=Int×Int)
  (.ite 6 28 (x0<(a0.length:Int))
   (.idx 13 eI a0 x0<| .idx 3 eI a1 x0<| .call 2 (zHx (at' a0 x0) (at' a1 x0) a2) zAd fun r3=> .iteN 12 44 (r3.2=0)
   (.ret 12 (.inl (0,r3.2)))
   (.call 6 (zHr x1 r3.1) zAd fun r4=> .iteN 11 53 (r4.2=0)
   (.ret 11 (.inl (0,r4.2)))
   (.again 7 (IntKind.i64.wrap (x0+1),r4.1))))
   (.ret 4 (.inr x1))) _ fun x r=>IH x.1 x.2 r
theorem zQ1 (a0:List Int) (a1:List Int) (a2:Int):HS 178 (zF4 a0 a1 a2) [.lst (List.map (D.int .i64) a0), .lst (List.map (D.int .i64) a1), .int .i64 a2] zAe:=Tr.fn (F:=zHY)
 (.call 10 (zJ1 a0 a1) zAj fun r1=> .iteN 7 17 (r1=0)
  (.ret 9 (0,r1))
  (.join 8 3 (γ:=Bool) ⟨fun x=>[(24,bB x)],[0,1,2],fun _=>[],[]⟩
  (.ite 0 21 (a2<0)
  (.ret 4 true)
  (.ret 4 (decide (a2>30))))
  fun j2=> .iteB 1 24 (j2)
  (.ret 8 (0,1))
  (.len 10 eI a0<| .loopR 4 id ⟨_,_,_,_,_,zNC a0 a1 a2 0 0⟩ fun j5=> .ret 8 (j5,0))))
noncomputable abbrev zQA:Fe:= .of Tryz.prog 154 zAe
theorem zEU (a0:List Int) (a1:List Int) (a2:Int):HS 154 (zBQ a0 a1 a2) [.lst (List.map (D.int .i64) a0), .lst (List.map (D.int .i64) a1), .int .i64 a2] zAe:=Tr.fn (F:=zQA)
 (.len 9 eI a1<| .call 4 (zGx (a1.length:Int) a0 [(⟨a1,0⟩:zAa)]) zAj fun r1=> .iteN 7 19 (r1=0)
  (.ret 9 (0,r1))
  (.len 6 eI a1<| .cut 0 eI a0 none (some (a1.length:Int))<| .let_ (cut' a0 none (some (a1.length:Int)):List Int) fun y2=> .call 2 (zQ1 y2 a1 a2) zAd fun r4=> .iteN 12 32 (r4.2=0)
  (.ret 9 (0,r4.2))
  (.len 7 eI a1<| .idx 0 eI a0 (a1.length:Int)<| .call 1 (zHr r4.1 (at' a0 (a1.length:Int))) zAd fun r5=> .ret 6 (r5.1,r5.2))))
noncomputable abbrev zGP:Fe:= .of Tryz.prog 170 zAc
def zL7 (a2:List Int) (a3:Int) (r1:(List (List Int))×Int) (x0:Int) (x1:List Int):St:=⟨[(42,nI x0),(41,nI (r1.1.length:Int)),(40, .sl (.s 1632) 1 0 (List.map (enL (D.int .i64)) r1.1)),(12,sI (.h 0) x1),(2,lI a2),(3,nI a3)],[]⟩
def zMh (a2:List Int) (a3:Int) (r1:(List (List Int))×Int) (x:(List Int)):St:=⟨[(12,sI (.h 1) x)],[]⟩
theorem zLW (a2:List Int) (a3:Int) (r1:(List (List Int))×Int):∀(x0:Int) (x1:List Int),Ok (zBn a2 a3 r1 x0 x1) (LR zGP (.exit 0) (zMh a2 a3 r1) 170 0 (zL7 a2 a3 r1 x0 x1)):=by
 refine zBn.partial_correctness a2 a3 r1 _ ?_
 intro f IH x0 x1
 exact Tr.lpR (F:=zGP) (X:=Int×(List Int))
  (.ite 6 43 (x0<(r1.1.length:Int))
   (.idx 6 (eL eI) r1.1 x0<| .call 8 (zEU (at' r1.1 x0) a2 a3) zAd fun r3=> .iteN 12 54 (r3.2=0)
   (.ret 12 (.inl ([],r3.2)))
   (.app 6 eI 8 x1 [r3.1]<| .again 7 (IntKind.i64.wrap (x0+1),x1++[r3.1])))
   (.ret 4 (.inr x1))) _ fun x r=>IH x.1 x.2 r
theorem zOT (a0:Int) (a1:List Int) (a2:List Int) (a3:Int):HS 170 (zE1 a0 a1 a2 a3) [.int .i64 a0, .lst (List.map (D.int .i64) a1), .lst (List.map (D.int .i64) a2), .int .i64 a3] zAc:=Tr.fn (F:=zGP)
 (.callZ 9 (zJI a0 a1) fun r1=> .iteN 12 24 (r1.2=0)
  (.ret 9 ([],r1.2))
  (.idx 6 (eL eI) r1.1 0<| .len 1 eI (at' r1.1 0)<| .len 1 eI a2<| .iteN 3 33 (((at' r1.1 0).length:Int)=(IntKind.i64.wrap ((a2.length:Int)+1)))
  (.ret 8 ([],4))
  (.join 8 3 (γ:=Bool) ⟨fun x=>[(39,bB x)],[10,2,3],fun _=>[],[]⟩
  (.ite 0 36 (a3<0)
  (.ret 4 true)
  (.ret 4 (decide (a3>30))))
  fun j2=> .iteB 1 39 (j2)
  (.ret 8 ([],1))
  (.len 10 (eL eI) r1.1<| .loopR 4 id ⟨_,_,_,_,_,zLW a2 a3 r1 0 []⟩ fun j4=> .ret 8 (j4,0)))))
noncomputable abbrev zHo:Fe:= .of Tryz.prog 186 zAe
def zOf (a0:List Int) (x0:Int) (x1:Int):St:=⟨[(14,nI x0),(13,nI (a0.length:Int)),(4,nI x1),(0,lI a0)],[]⟩
def zOe (a0:List Int) (x:Int):St:=⟨[(4,nI x)],[]⟩
theorem zMY (a0:List Int):∀(x0:Int) (x1:Int),Ok (zBP a0 x0 x1) (LN zHo (.exit 0) (zOe a0) 186 0 (zOf a0 x0 x1)):=by
 refine zBP.partial_correctness a0 _ ?_
 intro f IH x0 x1
 exact Tr.lpN (F:=zHo) (X:=Int×Int)
  (.ite 6 15 (x0<(a0.length:Int))
   (.idx 13 eI a0 x0<| .idx 3 eI a0 x1<| .ite 3 25 ((at' a0 x0)>(at' a0 x1))
   (.again 10 (IntKind.i64.wrap (x0+1),x0))
   (.again 7 (IntKind.i64.wrap (x0+1),x1)))
   (.ret 4 x1)) _ fun x r=>IH x.1 x.2 r
theorem zPJ (a0:List Int):HS 186 (zFk a0) [.lst (List.map (D.int .i64) a0)] zAe:=Tr.fn (F:=zHo)
 (.len 9 eI a0<| .ite 2 8 ((a0.length:Int)=0)
  (.ret 8 (0,1))
  (.len 6 eI a0<| .ite 2 11 ((a0.length:Int)>4096)
  (.ret 8 (0,3))
  (.len 10 eI a0<| .loop 4 ⟨_,_,_,_,_,zMY a0 0 0⟩ fun j1=> .ret 8 (j1,0))))
noncomputable abbrev zRs:Fe:= .of Tryz.prog 155 zAe
theorem zFq (a0:Int) (a1:Int):HS 155 (zDh a0 a1) [.int .i64 a0, .int .i64 a1] zAe:=Tr.fn (F:=zRs)
 (.join 11 5 (γ:=Bool) ⟨fun x=>[(13,bB x)],[0,1],fun _=>[],[]⟩
  (.ite 0 8 (a1<0)
  (.ret 6 (decide (a0>(IntKind.i64.wrap (9223372036854775807+a1)))))
  (.ret 6 false))
  fun j1=> .iteB 1 14 (j1)
  (.ret 18 (0,2))
  (.ite 3 17 (a1>0)
  (.ite 7 23 (a0<(IntKind.i64.wrap ((-9223372036854775808)+a1)))
  (.ret 8 (0,2))
  (.ret 11 (IntKind.i64.wrap (a0-a1),0)))
  (.ret 18 (IntKind.i64.wrap (a0-a1),0))))
noncomputable abbrev zRp:Fe:= .of Tryz.prog 193 zAe
theorem zQT (a0:Int):HS 193 (zGh a0) [.int .i64 a0] zAe:=Tr.fn (F:=zRp)
 (.call 8 (zFq 0 a0) zAd fun r1=> .ret 6 (r1.1,r1.2))
noncomputable abbrev zHm:Fe:= .of Tryz.prog 195 zAy
def zN5 (a0:Int) (x0:Int) (x1:Int):St:=⟨[(4,nI x0),(3,nU x1),(0,nU a0)],[]⟩
def zOa (a0:Int) (x:Int):St:=⟨[(3,nU x)],[]⟩
theorem zMs (a0:Int):∀(x0:Int) (x1:Int),Ok (zBN a0 x0 x1) (LN zHm (.exit 0) (zOa a0) 195 0 (zN5 a0 x0 x1)):=by
 refine zBN.partial_correctness a0 _ ?_
 intro f IH x0 x1
 exact Tr.lpN (F:=zHm) (X:=Int×Int)
  (.ite 7 7 (x0≥0)
   (.rd 8 (0≤x0) (nU (sShl .u64 1 x0))<| .ite 11 18 ((IntKind.u64.wrap ((IntKind.u64.wrap (x1+(sShl .u64 1 x0)))*(IntKind.u64.wrap (x1+(sShl .u64 1 x0)))))≤a0)
   (.again 11 (IntKind.i64.wrap (x0-1),IntKind.u64.wrap (x1+(sShl .u64 1 x0))))
   (.again 8 (IntKind.i64.wrap (x0-1),x1)))
   (.ret 4 x1)) _ fun x r=>IH x.1 x.2 r
theorem zPD (a0:Int):HS 195 (zAH a0) [.int .u64 a0] zAy:=Tr.fn (F:=zHm)
 (.loop 15 ⟨_,_,_,_,_,zMs a0 31 0⟩ fun j1=> .ret 7 j1)
def zGT (v:(List Int)):PV:=sU (.s 0) v
noncomputable abbrev zEr:Fe:= .of Tryz.prog 194 zGT
def zNB (x0:Int) (x0_:Int) (x1_:List Int):St:=⟨[(4,nI x0_),(3,nI (at' [8,4,2,1] x0)),(12,nI x0),(11,nI ([8,4,2,1].length:Int)),(10,sI (.s 6415) [8,4,2,1]),(1,sU (.h 1) x1_)],[]⟩
def zN8 (x0:Int) (x:(List Int)):St:=⟨[(12,nI x0),(11,nI ([8,4,2,1].length:Int)),(10,sI (.s 6415) [8,4,2,1]),(1,sU (.h 2) x)],[]⟩
theorem zMI (x0:Int):∀(x0_:Int) (x1_:List Int),Ok (zAQ x0 x0_ x1_) (LN zEr (.exit 2) (zN8 x0) 194 1 (zNB x0 x0_ x1_)):=by
 refine zAQ.partial_correctness x0 _ ?_
 intro f IH x0_ x1_
 exact Tr.lpN (F:=zEr) (X:=Int×(List Int))
  (.ite 7 18 (x0_<16)
   (.idx 11 eU x1_ (IntKind.i64.wrap (x0_-(at' [8,4,2,1] x0)))<| .idx 5 eU x1_ (IntKind.i64.wrap (x0_+(at' [8,4,2,1] x0)))<| .call 2 (zPD (IntKind.u64.wrap ((at' x1_ (IntKind.i64.wrap (x0_-(at' [8,4,2,1] x0))))*(at' x1_ (IntKind.i64.wrap (x0_+(at' [8,4,2,1] x0))))))) zAo fun r7=> .hold 1 []<| .idx 0 eU x1_ x0_<| .sto 0 [31,25,23,1] eU x1_ x0_ r7<| .let_ (x1_.set (Int.toNat x0_) r7:List Int) fun y8=> .let_ (IntKind.i64.wrap (x0_+(IntKind.i64.wrap (2*(at' [8,4,2,1] x0)))):Int) fun y10=> .again 10 (y10,y8))
   (.ret 4 x1_)) _ fun x r=>IH x.1 x.2 r
def zNJ (x0:Int) (x1:List Int):St:=⟨[(12,nI x0),(11,nI ([8,4,2,1].length:Int)),(10,sI (.s 6415) [8,4,2,1]),(1,sU (.h 0) x1)],[]⟩
def zN3 (x:(List Int)):St:=⟨[(1,sU (.h 1) x)],[]⟩
theorem zMD:∀(x0:Int) (x1:List Int),Ok (zBA x0 x1) (LN zEr (.exit 0) zN3 194 0 (zNJ x0 x1)):=by
 refine zBA.partial_correctness _ ?_
 intro f IH x0 x1
 exact Tr.lpN (F:=zEr) (X:=Int×(List Int))
  (.ite 6 13 (x0<([8,4,2,1].length:Int))
   (.idx 6 eI [8,4,2,1] x0<| .loop 10 ⟨_,_,_,_,_,zMI x0 (at' [8,4,2,1] x0) x1⟩ fun j12=> .again 6 (IntKind.i64.wrap (x0+1),j12))
   (.ret 4 x1)) _ fun x r=>IH x.1 x.2 r
theorem zPZ:∀v,(zGT v).noLst:=fun _=>(zHD fun _=>trivial)
theorem zPI:HS 194 zFr [] zGT:=Tr.fn (F:=zEr)
 (.mk 6 eU 8 0 17 17<| .let_ (List.replicate (Int.toNat 17) 0:List Int) fun y1=> .idx 5 eU y1 0<| .sto 0 [1] eU y1 0 1073741824<| .let_ (y1.set (Int.toNat 0) 1073741824:List Int) fun y3=> .idx 4 eU y3 16<| .sto 0 [1] eU y3 16 536870912<| .let_ (y3.set (Int.toNat 16) 536870912:List Int) fun y5=> .len 5 eI [8,4,2,1]<| .loop 4 ⟨_,_,_,_,_,zMD 0 y5⟩ fun j13=> .ret 7 j13)
noncomputable abbrev zEK:Fe:= .of Tryz.prog 187 zAe
def zOC (a1:Int) (r3:Int×Int) (x0:Int) (x1:Int):St:=⟨[(48,nI x0),(47,nI (IntKind.i64.wrap (30-a1))),(11,nU x1),(9,nI (IntKind.i64.wrap (Int.tdiv r3.1 (sShl .i64 1 a1))))],[]⟩
def zOG (a1:Int) (r3:Int×Int) (x:Int):St:=⟨[(11,nU x),(9,nI (IntKind.i64.wrap (Int.tdiv r3.1 (sShl .i64 1 a1))))],[]⟩
theorem zNx (a1:Int) (r3:Int×Int):∀(x0:Int) (x1:Int),Ok (zCj a1 r3 x0 x1) (LN zEK (.exit 0) (zOG a1 r3) 187 0 (zOC a1 r3 x0 x1)):=by
 refine zCj.partial_correctness a1 r3 _ ?_
 intro f IH x0 x1
 exact Tr.lpN (F:=zEK) (X:=Int×Int)
  (.ite 6 49 (x0<(IntKind.i64.wrap (30-a1)))
   (.again 14 (IntKind.i64.wrap (x0+1),IntKind.u64.wrap (Int.tdiv x1 2)))
   (.ret 4 x1)) _ fun x r=>IH x.1 x.2 r
def zOO (a1:Int) (r3:Int×Int) (x0:Int) (x1:Int):St:=⟨[(12,nI x0),(11,nU x1),(9,nI (IntKind.i64.wrap (Int.tdiv r3.1 (sShl .i64 1 a1))))],[]⟩
def zOz (a1:Int) (r3:Int×Int) (x:Int):St:=⟨[(11,nU x)],[]⟩
theorem zNS (a1:Int) (r3:Int×Int):∀(x0:Int) (x1:Int),Ok (zCl a1 r3 x0 x1) (LN zEK (.exit 2) (zOz a1 r3) 187 1 (zOO a1 r3 x0 x1)):=by
 refine zCl.partial_correctness a1 r3 _ ?_
 intro f IH x0 x1
 exact Tr.lpN (F:=zEK) (X:=Int×Int)
  (.join 8 3 (γ:=Bool) ⟨fun x=>[(59,bB x)],[12,11,9],fun _=>[],[]⟩
   (.ite 0 56 (x0<(IntKind.i64.wrap (Int.tdiv r3.1 (sShl .i64 1 a1))))
   (.ret 4 (decide (x1>0)))
   (.ret 4 false))
   fun j8=> .iteB 1 59 (j8)
   (.again 15 (IntKind.i64.wrap (x0+1),IntKind.u64.wrap (Int.tdiv x1 2)))
   (.ret 4 x1)) _ fun x r=>IH x.1 x.2 r
theorem zQE (a0:Int) (a1:Int):HS 187 (zGg a0 a1) [.int .i64 a0, .int .i64 a1] zAe:=Tr.fn (F:=zEK)
 (.join 11 3 (γ:=Bool) ⟨fun x=>[(18,bB x)],[0,1],fun _=>[],[]⟩
  (.ite 0 15 (a1<0)
  (.ret 4 true)
  (.ret 4 (decide (a1>30))))
  fun j1=> .join 1 3 (γ:=Bool) ⟨fun x=>[(22,bB x)],[0,1],fun _=>[],[]⟩
  (.iteB 0 19 (j1)
  (.ret 4 true)
  (.ret 4 (decide (a0>0))))
  fun j2=> .iteB 1 22 (j2)
  (.ret 8 (0,1))
  (.call 5 (zQT a0) zAd fun r3=> .iteN 12 29 (r3.2=0)
  (.ret 9 (0,r3.2))
  (.rd 5 (0≤a1) (nI (sShl .i64 1 a1))<| .rd 6 (sShl .i64 1 a1≠0) (nI (IntKind.i64.wrap (Int.tdiv r3.1 (sShl .i64 1 a1))))<| .rd 6 (sShl .i64 1 a1≠0) (nI (Int.tmod r3.1 (sShl .i64 1 a1)))<| .rd 7 (sShl .i64 1 a1≠0) (nI (IntKind.i64.wrap (Int.tdiv (IntKind.i64.wrap ((Int.tmod r3.1 (sShl .i64 1 a1))*16)) (sShl .i64 1 a1))))<| .call 0 zPI zPZ fun r4=> .hold 1 [.c, .c, .c, .rd (sShl .i64 1 a1≠0) (nI (IntKind.i64.wrap (Int.tdiv (IntKind.i64.wrap ((Int.tmod r3.1 (sShl .i64 1 a1))*16)) (sShl .i64 1 a1)))) 0]<| .idx 0 eU r4 (IntKind.i64.wrap (Int.tdiv (IntKind.i64.wrap ((Int.tmod r3.1 (sShl .i64 1 a1))*16)) (sShl .i64 1 a1)))<| .let_ (at' r4 (IntKind.i64.wrap (Int.tdiv (IntKind.i64.wrap ((Int.tmod r3.1 (sShl .i64 1 a1))*16)) (sShl .i64 1 a1))):Int) fun y5=> .loop 13 ⟨_,_,_,_,_,zNx a1 r3 0 y5⟩ fun j7=> .loop 8 ⟨_,_,_,_,_,zNS a1 r3 0 j7⟩ fun j9=> .ret 9 (IntKind.i64.wrap j9,0))))
def zGU (v:Int×Int×Bool):PV:= .tup [nU v.1,nU v.2.1,bB v.2.2]
noncomputable abbrev zHz:Fe:= .of Tryz.prog 191 zGU
def zNu (a0:Int) (a1:Int) (a2:Int) (x0:Int) (x1:Bool) (x2:Int) (x3:Int):St:=⟨[(12,nI x0),(11,bB x1),(10,nU x2),(9,nU x3),(0,nU a0),(1,nU a1),(2,nU a2)],[]⟩
def zNh (a0:Int) (a1:Int) (a2:Int) (x:Bool×Int×Int):St:=⟨[(11,bB x.1),(10,nU x.2.1),(9,nU x.2.2)],[]⟩
theorem zMu (a0:Int) (a1:Int) (a2:Int):∀(x0:Int) (x1:Bool) (x2:Int) (x3:Int),Ok (zAM a0 a1 a2 x0 x1 x2 x3) (LN zHz (.exit 0) (zNh a0 a1 a2) 191 0 (zNu a0 a1 a2 x0 x1 x2 x3)):=by
 refine zAM.partial_correctness a0 a1 a2 _ ?_
 intro f IH x0 x1 x2 x3
 exact Tr.lpN (F:=zHz) (X:=Int×Bool×Int×Int)
  (.ite 7 17 (x0≥0)
   (.rd 9 (0≤bAnd .i64 x0 63) (nU (sShr .u64 a1 (bAnd .i64 x0 63)))<| .join 9 0 (γ:=Int) ⟨fun x=>[(13,nU x)],[12,11,10,9,0,1,2],fun _=>[],[]⟩
   (.ite 0 26 (x0≥64)
   (.rd 5 (0≤bAnd .i64 x0 63) (nU (sShr .u64 a0 (bAnd .i64 x0 63)))<| .ret 3 (bAnd .u64 (sShr .u64 a0 (bAnd .i64 x0 63)) 1))
   (.ret 2 (bAnd .u64 (sShr .u64 a1 (bAnd .i64 x0 63)) 1)))
   fun j1=> .join 24 4 (γ:=Bool) ⟨fun x=>[(44,bB x)],[15,10,12,11,9,0,1,2],fun _=>[],[]⟩
   (.ite 0 40 ((sShr .u64 x2 63)=1)
   (.ret 5 true)
   (.ret 5 (decide ((bOr .u64 (sShl .u64 x2 1) j1)≥a2))))
   fun j2=> .iteB 1 44 (j2)
   (.ite 16 49 (x0<64)
   (.rd 5 (0≤x0) (nU (sShl .u64 1 x0))<| .again 9 (IntKind.i64.wrap (x0-1),x1,IntKind.u64.wrap ((bOr .u64 (sShl .u64 x2 1) j1)-a2),bOr .u64 x3 (sShl .u64 1 x0)))
   (.ite 6 56 (1=1)
   (.again 10 (IntKind.i64.wrap (x0-1),false,IntKind.u64.wrap ((bOr .u64 (sShl .u64 x2 1) j1)-a2),x3))
   (.again 8 (IntKind.i64.wrap (x0-1),x1,IntKind.u64.wrap ((bOr .u64 (sShl .u64 x2 1) j1)-a2),x3))))
   (.ite 7 49 (x0<64)
   (.rd 5 (0≤x0) (nU (sShl .u64 0 x0))<| .again 9 (IntKind.i64.wrap (x0-1),x1,bOr .u64 (sShl .u64 x2 1) j1,bOr .u64 x3 (sShl .u64 0 x0)))
   (.ite 6 56 (0=1)
   (.again 10 (IntKind.i64.wrap (x0-1),false,bOr .u64 (sShl .u64 x2 1) j1,x3))
   (.again 8 (IntKind.i64.wrap (x0-1),x1,bOr .u64 (sShl .u64 x2 1) j1,x3)))))
   (.ret 4 (x1,x2,x3))) _ fun x r=>IH x.1 x.2.1 x.2.2.1 x.2.2.2 r
theorem zPr:∀v,(zGU v).noLst:=fun _=>⟨trivial,trivial,trivial,trivial⟩
theorem zQb (a0:Int) (a1:Int) (a2:Int):HS 191 (zFo a0 a1 a2) [.int .u64 a0, .int .u64 a1, .int .u64 a2] zGU:=Tr.fn (F:=zHz)
 (.loop 25 ⟨_,_,_,_,_,zMu a0 a1 a2 127 true 0 0⟩ fun j3=> .ret 11 (j3.2.2,j3.2.1,j3.1))
noncomputable abbrev zRA:Fe:= .of Tryz.prog 175 zAe
theorem zJ2 (a0:Int) (a1:Int) (a2:Int):HS 175 (zEL a0 a1 a2) [.int .i64 a0, .int .i64 a1, .int .i64 a2] zAe:=Tr.fn (F:=zRA)
 (.join 11 3 (γ:=Bool) ⟨fun x=>[(18,bB x)],[0,1,2],fun _=>[],[]⟩
  (.ite 0 15 (a2<0)
  (.ret 4 true)
  (.ret 4 (decide (a2>30))))
  fun j1=> .join 1 3 (γ:=Bool) ⟨fun x=>[(22,bB x)],[0,1,2],fun _=>[],[]⟩
  (.iteB 0 19 (j1)
  (.ret 4 true)
  (.ret 4 (a1==0)))
  fun j2=> .iteB 1 22 (j2)
  (.ret 8 (0,1))
  (.rd 6 (0≤a2) (nU (sShl .u64 1 a2))<| .call 0 (zET a0) zAo fun r3=> .hold 1 [.c, .rd (0≤a2) (nU (sShl .u64 1 a2)) 0]<| .call 0 (zIS r3 (sShl .u64 1 a2)) zDV fun r4=> .call 12 (zET a1) zAo fun r5=> .call 0 (zQb r4.1 r4.2 r5) zPr fun r6=> .join 14 3 (γ:=Bool) ⟨fun x=>[(45,bB x)],[11,10,0,1],fun _=>[],[]⟩
  (.iteX 0 42 (r6.2.2)
  (.ret 4 true)
  (.ret 4 (decide (r6.1>9223372036854775808))))
  fun j7=> .iteB 1 45 (j7)
  (.ret 8 (0,2))
  (.ite 11 50 ((decide (a0<0))=(decide (a1<0)))
  (.ite 7 52 (r6.1=9223372036854775808)
  (.ret 9 (0,2))
  (.ret 11 (IntKind.i64.wrap r6.1,0)))
  (.ite 8 56 (r6.2.1>0)
  (.ite 12 60 ((IntKind.u64.wrap (r6.1+1))>9223372036854775808)
  (.ret 8 (0,2))
  (.ret 11 (IntKind.i64.wrap (IntKind.u64.wrap (0-(IntKind.u64.wrap (r6.1+1)))),0)))
  (.ite 8 60 (r6.1>9223372036854775808)
  (.ret 8 (0,2))
  (.ret 11 (IntKind.i64.wrap (IntKind.u64.wrap (0-r6.1)),0)))))))
noncomputable abbrev zEu:Fe:= .of Tryz.prog 171 zAc
def zNV (a0:Int) (a1:List Int) (r1:Int×Int) (x0:Int) (x1:Int) (x2:List Int):St:=⟨[(36,nI x0),(35,nI (a1.length:Int)),(34,lI a1),(9,nI x1),(8,sI (.h 0) x2),(6,nI r1.1),(0,nI a0),(1,lI a1)],[]⟩
def zOh (a0:Int) (a1:List Int) (r1:Int×Int) (x:Int×(List Int)):St:=⟨[(9,nI x.1),(8,sI (.h 1) x.2),(0,nI a0)],[]⟩
theorem zMy (a0:Int) (a1:List Int) (r1:Int×Int):∀(x0:Int) (x1:Int) (x2:List Int),Ok (zB3 a0 a1 r1 x0 x1 x2) (LR zEu (.exit 0) (zOh a0 a1 r1) 171 0 (zNV a0 a1 r1 x0 x1 x2)):=by
 refine zB3.partial_correctness a0 a1 r1 _ ?_
 intro f IH x0 x1 x2
 exact Tr.lpR (F:=zEu) (X:=Int×Int×(List Int))
  (.ite 6 37 (x0<(a1.length:Int))
   (.idx 6 eI a1 x0<| .idx 8 eI a1 r1.1<| .call 1 (zFq (at' a1 x0) (at' a1 r1.1)) zAd fun r3=> .iteN 12 50 (r3.2=0)
   (.ret 12 (.inl ([],r3.2)))
   (.call 6 (zQE r3.1 a0) zAd fun r4=> .iteN 12 59 (r4.2=0)
   (.ret 12 (.inl ([],r4.2)))
   (.app 7 eI 8 x2 [r4.1]<| .again 13 (IntKind.i64.wrap (x0+1),IntKind.i64.wrap (x1+r4.1),x2++[r4.1]))))
   (.ret 4 (.inr (x1,x2)))) _ fun x r=>IH x.1 x.2.1 x.2.2 r
def zNz (a0:Int) (j5:Int×(List Int)) (x0:Int) (x1:List Int):St:=⟨[(71,nI x0),(70,nI (j5.2.length:Int)),(69,sI (.h 1) j5.2),(15,sI (.h 2) x1),(9,nI j5.1),(0,nI a0)],[]⟩
def zNN (a0:Int) (j5:Int×(List Int)) (x:(List Int)):St:=⟨[(15,sI (.h 3) x)],[]⟩
theorem zM2 (a0:Int) (j5:Int×(List Int)):∀(x0:Int) (x1:List Int),Ok (zBh a0 j5 x0 x1) (LR zEu (.exit 2) (zNN a0 j5) 171 1 (zNz a0 j5 x0 x1)):=by
 refine zBh.partial_correctness a0 j5 _ ?_
 intro f IH x0 x1
 exact Tr.lpR (F:=zEu) (X:=Int×(List Int))
  (.ite 6 72 (x0<(j5.2.length:Int))
   (.idx 6 eI j5.2 x0<| .call 8 (zJ2 (at' j5.2 x0) j5.1 a0) zAd fun r6=> .iteN 12 83 (r6.2=0)
   (.ret 12 (.inl ([],r6.2)))
   (.app 6 eI 8 x1 [r6.1]<| .again 7 (IntKind.i64.wrap (x0+1),x1++[r6.1])))
   (.ret 4 (.inr x1))) _ fun x r=>IH x.1 x.2 r
theorem zP7 (a0:Int) (a1:List Int):HS 171 (zFe a0 a1) [.int .i64 a0, .lst (List.map (D.int .i64) a1)] zAc:=Tr.fn (F:=zEu)
 (.call 8 (zPJ a1) zAd fun r1=> .iteN 12 26 (r1.2=0)
  (.ret 9 ([],r1.2))
  (.join 8 3 (γ:=Bool) ⟨fun x=>[(33,bB x)],[6,0,1],fun _=>[],[]⟩
  (.ite 0 30 (a0<0)
  (.ret 4 true)
  (.ret 4 (decide (a0>30))))
  fun j2=> .iteB 1 33 (j2)
  (.ret 8 ([],1))
  (.len 14 eI a1<| .loopR 4 id ⟨_,_,_,_,_,zMy a0 a1 r1 0 0 []⟩ fun j5=> .len 9 eI j5.2<| .loopR 4 id ⟨_,_,_,_,_,zM2 a0 j5 0 []⟩ fun j7=> .ret 8 (j7,0))))
noncomputable abbrev zQN:Fe:= .of Tryz.prog 148 zAc
theorem zPG (a0:Int) (a1:List Int) (a2:List Int) (a3:Int):HS 148 (zEm a0 a1 a2 a3) [.int .i64 a0, .lst (List.map (D.int .i64) a1), .lst (List.map (D.int .i64) a2), .int .i64 a3] zAc:=Tr.fn (F:=zQN)
 (.call 11 (zOT a0 a1 a2 a3) zAh fun r1=> .iteN 12 21 (r1.2=0)
  (.ret 9 ([],r1.2))
  (.call 6 (zP7 a3 r1.1) zAh fun r2=> .ret 6 (r2.1,r2.2)))
noncomputable abbrev zRI:Fe:= .of Tryz.prog 126 zAc
theorem zQI (a0:Int) (a1:List Int) (a2:zAa) (a3:Int):HS 126 (zEH a0 a1 a2 a3) [.int .i64 a0, .lst (List.map (D.int .i64) a1), .agg [.lst (List.map (D.int .i64) a2.F_X), .int .i64 a2.F_Y], .int .i64 a3] zAc:=Tr.fn (F:=zRI)
 (.call 13 (zPG a0 a1 a2.F_X a3) zAh fun r1=> .iteN 12 22 (r1.2=0)
  (.ret 9 ([],r1.2))
  (.join 9 5 (γ:=Bool) ⟨fun x=>[(32,bB x)],[10,6,3],fun _=>[],[.s 15]⟩
  (.ite 0 27 (a2.F_Y<0)
  (.ret 6 true)
  (.ret 6 (decide (a2.F_Y≥a0))))
  fun j2=> .iteB 1 32 (j2)
  (.ret 8 ([],1))
  (.idx 7 eI r1.1 a2.F_Y<| .rd 2 (0≤a3) (nI (sShl .i64 1 a3))<| .idx 1 eI r1.1 a2.F_Y<| .sto 0 [33,10] eI r1.1 a2.F_Y (IntKind.i64.wrap ((at' r1.1 a2.F_Y)-(sShl .i64 1 a3)))<| .ret 8 (r1.1.set (Int.toNat a2.F_Y) (IntKind.i64.wrap ((at' r1.1 a2.F_Y)-(sShl .i64 1 a3))),0))))
noncomputable abbrev zGR:Fe:= .of Tryz.prog 127 zAc
def zMl (a0:List Int) (a1:Int) (a2:Int) (x0:Int) (x1:List Int):St:=⟨[(24,nI x0),(23,nI (a0.length:Int)),(22,lI a0),(8,sI (.h 0) x1),(1,nI a1),(2,nI a2)],[]⟩
def zMo (a0:List Int) (a1:Int) (a2:Int) (x:(List Int)):St:=⟨[(8,sI (.h 1) x)],[]⟩
theorem zLO (a0:List Int) (a1:Int) (a2:Int):∀(x0:Int) (x1:List Int),Ok (zBp a0 a1 a2 x0 x1) (LR zGR (.exit 0) (zMo a0 a1 a2) 127 0 (zMl a0 a1 a2 x0 x1)):=by
 refine zBp.partial_correctness a0 a1 a2 _ ?_
 intro f IH x0 x1
 exact Tr.lpR (F:=zGR) (X:=Int×(List Int))
  (.ite 6 25 (x0<(a0.length:Int))
   (.idx 6 eI a0 x0<| .call 8 (zHx (at' a0 x0) a1 a2) zAd fun r2=> .iteN 12 36 (r2.2=0)
   (.ret 12 (.inl ([],r2.2)))
   (.app 6 eI 8 x1 [r2.1]<| .again 7 (IntKind.i64.wrap (x0+1),x1++[r2.1])))
   (.ret 4 (.inr x1))) _ fun x r=>IH x.1 x.2 r
theorem zEN (a0:List Int) (a1:Int) (a2:Int):HS 127 (zCt a0 a1 a2) [.lst (List.map (D.int .i64) a0), .int .i64 a1, .int .i64 a2] zAc:=Tr.fn (F:=zGR)
 (.len 9 eI a0<| .ite 2 15 ((a0.length:Int)>4096)
  (.ret 8 ([],3))
  (.join 8 3 (γ:=Bool) ⟨fun x=>[(21,bB x)],[0,1,2],fun _=>[],[]⟩
  (.ite 0 18 (a2<0)
  (.ret 4 true)
  (.ret 4 (decide (a2>30))))
  fun j1=> .iteB 1 21 (j1)
  (.ret 8 ([],1))
  (.len 10 eI a0<| .loopR 4 id ⟨_,_,_,_,_,zLO a0 a1 a2 0 []⟩ fun j3=> .ret 8 (j3,0))))
noncomputable abbrev zPf:Fe:= .of Tryz.prog 173 zAg
theorem zOJ (a0:List Int):HS 173 (zGQ a0) [.lst (List.map (D.int .i64) a0)] zAg:=Tr.fn (F:=zPf)
 (.len 8 eI a0<| .ite 2 5 ((a0.length:Int)>4096)
  (.ret 7 3)
  (.ret 7 0))
noncomputable abbrev zH3:Fe:= .of Tryz.prog 174 zAc
def zOD (a0:List Int) (a1:List Int) (x0:Int) (x1:List Int):St:=⟨[(19,nI x0),(18,nI (a0.length:Int)),(7,sI (.h 0) x1),(0,lI a0),(1,lI a1)],[]⟩
def zOP (a0:List Int) (a1:List Int) (x:(List Int)):St:=⟨[(7,sI (.h 1) x)],[]⟩
theorem zN9 (a0:List Int) (a1:List Int):∀(x0:Int) (x1:List Int),Ok (zBG a0 a1 x0 x1) (LR zH3 (.exit 0) (zOP a0 a1) 174 0 (zOD a0 a1 x0 x1)):=by
 refine zBG.partial_correctness a0 a1 _ ?_
 intro f IH x0 x1
 exact Tr.lpR (F:=zH3) (X:=Int×(List Int))
  (.ite 6 20 (x0<(a0.length:Int))
   (.idx 13 eI a0 x0<| .idx 3 eI a1 x0<| .call 1 (zHr (at' a0 x0) (at' a1 x0)) zAd fun r2=> .iteN 12 35 (r2.2=0)
   (.ret 12 (.inl ([],r2.2)))
   (.app 6 eI 8 x1 [r2.1]<| .again 7 (IntKind.i64.wrap (x0+1),x1++[r2.1])))
   (.ret 4 (.inr x1))) _ fun x r=>IH x.1 x.2 r
theorem zQS (a0:List Int) (a1:List Int):HS 174 (zFZ a0 a1) [.lst (List.map (D.int .i64) a0), .lst (List.map (D.int .i64) a1)] zAc:=Tr.fn (F:=zH3)
 (.call 10 (zJ1 a0 a1) zAj fun r1=> .iteN 7 15 (r1=0)
  (.ret 9 ([],r1))
  (.len 10 eI a0<| .loopR 4 id ⟨_,_,_,_,_,zN9 a0 a1 0 []⟩ fun j3=> .ret 8 (j3,0)))
noncomputable abbrev zHX:Fe:= .of Tryz.prog 150 zAc
def zOS (a0:List (List Int)) (x0:Int) (x1:List Int):St:=⟨[(12,nI x0),(11,nI (a0.length:Int)),(10, .d (.lst (List.map (enL (D.int .i64)) a0))),(4,sI (.h 0) x1)],[]⟩
def zOQ (a0:List (List Int)) (x:(List Int)):St:=⟨[(4,sI (.h 1) x)],[]⟩
theorem zM7 (a0:List (List Int)):∀(x0:Int) (x1:List Int),Ok (zBr a0 x0 x1) (LR zHX (.exit 0) (zOQ a0) 150 0 (zOS a0 x0 x1)):=by
 refine zBr.partial_correctness a0 _ ?_
 intro f IH x0 x1
 exact Tr.lpR (F:=zHX) (X:=Int×(List Int))
  (.ite 6 13 (x0<(a0.length:Int))
   (.idx 7 (eL eI) a0 x0<| .ite 10 18 (x0=0)
   (.call 5 (zOJ (at' a0 x0)) zAj fun r1=> .iteN 7 22 (r1=0)
   (.ret 13 (.inl ([],r1)))
   (.app 6 eI 8 x1 (at' a0 x0)<| .again 9 (IntKind.i64.wrap (x0+1),x1++(at' a0 x0))))
   (.call 6 (zQS x1 (at' a0 x0)) zAh fun r2=> .iteN 12 34 (r2.2=0)
   (.ret 12 (.inl ([],r2.2)))
   (.again 11 (IntKind.i64.wrap (x0+1),r2.1))))
   (.ret 4 (.inr x1))) _ fun x r=>IH x.1 x.2 r
theorem zQC (a0:List (List Int)):HS 150 (zEC a0) [.lst (List.map (enL (D.int .i64)) a0)] zAc:=Tr.fn (F:=zHX)
 (.len 13 (eL eI) a0<| .loopR 4 id ⟨_,_,_,_,_,zM7 a0 0 []⟩ fun j3=> .ret 8 (j3,0))
noncomputable abbrev zQQ:Fe:= .of Tryz.prog 151 zAe
theorem zP9 (a0:Int) (a1:Int):HS 151 (zFl a0 a1) [.int .i64 a0, .int .i64 a1] zAe:=Tr.fn (F:=zQQ)
 (.call 9 (zJ2 a0 a1 0) zAd fun r1=> .ret 6 (r1.1,r1.2))
end Go.Proofs.YtnmlihfpenjeiaaGreat.Abs
