/- Models of functions, printed by a program. Conditions: none. -/
import Derived.Test.YtnmlihfpenjeiaaGreatMathS
import Derived.Test.YtnmlihfpenjeiaaGreatChunk
import Derived.Test.YtnmlihfpenjeiaaGreatAbs5
namespace Go.Proofs.YtnmlihfpenjeiaaGreat.Abs
open Go Go.RowKit
set_option linter.unusedVariables false
set_option maxRecDepth 100000
structure zAc where
 F_Kind:Int
 F_In:Int
 F_Out:Int
 F_Hid:Int
 F_Frac:Int
 deriving Inhabited,DecidableEq
structure zBb where
 F_Scheme:Int
 F_K:Int
 F_Wide:Int
 deriving Inhabited,DecidableEq
structure zAa where
 F_X:List Int
 F_Y:Int
 deriving Inhabited,DecidableEq
structure zAl where
 F_N:Int
 F_M:zAc
 F_H:zBb
 F_Warm:Int
 F_Rate:Int
 F_Mom:Int
 F_Clip:Int
 F_Batch:Int
 F_Seed:Int
 F_L:List zAa
 deriving Inhabited,DecidableEq
structure zAv where
 F_Model:zAc
 deriving Inhabited,DecidableEq
structure zAx where
 F_Model:zAc
 deriving Inhabited,DecidableEq
structure zAD where
 F_Model:zAc
 deriving Inhabited,DecidableEq
structure zBv where
 F_c0:Int
 F_c1:Int
 deriving Inhabited,DecidableEq
structure zEG where
 F_last:List Int
 deriving Inhabited,DecidableEq
structure zBf where
 F_line:zEG
 F_rows:List (List Int)
 F_in:Int
 deriving Inhabited,DecidableEq
def zAc.en (x:zAc):D:= .agg [.int .i64 x.F_Kind, .int .i64 x.F_In, .int .i64 x.F_Out, .int .i64 x.F_Hid, .int .i64 x.F_Frac]
def zBb.en (x:zBb):D:= .agg [.int .i64 x.F_Scheme, .int .i64 x.F_K, .int .i64 x.F_Wide]
def zAa.en (x:zAa):D:= .agg [.lst (List.map (D.int .i64) x.F_X), .int .i64 x.F_Y]
def zAl.en (x:zAl):D:= .agg [.int .i64 x.F_N, .int .i64 x.F_M.F_Kind, .int .i64 x.F_M.F_In, .int .i64 x.F_M.F_Out, .int .i64 x.F_M.F_Hid, .int .i64 x.F_M.F_Frac, .int .i64 x.F_H.F_Scheme, .int .i64 x.F_H.F_K, .int .i64 x.F_H.F_Wide, .int .i64 x.F_Warm, .int .i64 x.F_Rate, .int .i64 x.F_Mom, .int .i64 x.F_Clip, .int .i64 x.F_Batch, .int .u64 x.F_Seed, .lst (List.map zAa.en x.F_L)]
def zAv.en (x:zAv):D:= .agg [.int .i64 x.F_Model.F_Kind, .int .i64 x.F_Model.F_In, .int .i64 x.F_Model.F_Out, .int .i64 x.F_Model.F_Hid, .int .i64 x.F_Model.F_Frac]
def zAx.en (x:zAx):D:= .agg [.int .i64 x.F_Model.F_Kind, .int .i64 x.F_Model.F_In, .int .i64 x.F_Model.F_Out, .int .i64 x.F_Model.F_Hid, .int .i64 x.F_Model.F_Frac]
def zAD.en (x:zAD):D:= .agg [.int .i64 x.F_Model.F_Kind, .int .i64 x.F_Model.F_In, .int .i64 x.F_Model.F_Out, .int .i64 x.F_Model.F_Hid, .int .i64 x.F_Model.F_Frac]
def zBv.en (x:zBv):D:= .agg [.int .u64 x.F_c0, .int .u64 x.F_c1]
def zEG.en (x:zEG):D:= .agg [.lst (List.map (D.int .i64) x.F_last)]
def zBf.en (x:zBf):D:= .agg [.lst (List.map (D.int .i64) x.F_line.F_last), .lst (List.map (enL (D.int .i64)) x.F_rows), .int .i64 x.F_in]
def zBc (a0:Int) (a1:Int) (a2:Int):Option Bool:=
 ((
  if a0≥a1 then
   some (decide (a0≤a2))
  else
   some false):Option Bool)>>=fun j1=>
 some j1
def zDN (a0:Int) (a1:Int) (a2:Int) (a3:Int):Option (Int×Int):=
 (zBc a0 1 4096)>>=fun r1=>
 ((
  if r1=false then
   some true
  else
   (zBc a1 0 a0)>>=fun r2=>
   some (!r2)):Option Bool)>>=fun j3=>
 ((
  if j3=true then
   some true
  else
   (zBc a2 0 1048576)>>=fun r4=>
   some (!r4)):Option Bool)>>=fun j5=>
 ((
  if j5=true then
   some true
  else
   (zBc a3 0 1073741824)>>=fun r6=>
   some (!r6)):Option Bool)>>=fun j7=>
 if j7=true then
  some (0,1)
 else
  if a3≥a2 then
   some (a1,0)
  else
   if a2≠0 then
    some (IntKind.i64.wrap (a0-(IntKind.i64.wrap (Int.tdiv (IntKind.i64.wrap ((IntKind.i64.wrap (a0-a1))*a3)) a2))),0)
   else none
def zD2 (a0:Int):Option (Int×Int):=
 ((
  if a0<1 then
   some true
  else
   some (decide (a0>16))):Option Bool)>>=fun j1=>
 if j1=true then
  some (0,1)
 else
  some (IntKind.i64.wrap (a0+1),0)
def zBi (a0:zAv):Option (Int×Int):=
 (zD2 a0.F_Model.F_In)>>=fun r1=>
 some (r1.1,r1.2)
def zFe (a0:Int):Option Bool:=
 ((
  if a0>1 then
   some (decide (a0≤8))
  else
   some false):Option Bool)>>=fun j1=>
 some j1
def zHT (a0:Int) (a1:Int):Option (Int×Int):=
 (zD2 a0)>>=fun r1=>
 ((
  if r1.2≠0 then
   some true
  else
   (zFe a1)>>=fun r2=>
   some (!r2)):Option Bool)>>=fun j3=>
 if j3=true then
  some (0,1)
 else
  some (IntKind.i64.wrap (r1.1*a1),0)
def zBn (a0:zAx):Option (Int×Int):=
 (zHT a0.F_Model.F_In a0.F_Model.F_Out)>>=fun r1=>
 some (r1.1,r1.2)
def zG6 (a0:Int):Option Bool:=
 ((
  if a0>0 then
   some (decide (a0≤8))
  else
   some false):Option Bool)>>=fun j1=>
 some j1
def zHx (a0:Int) (a1:Int):Option (Int×Int):=
 (zD2 a0)>>=fun r1=>
 ((
  if r1.2≠0 then
   some true
  else
   (zG6 a1)>>=fun r2=>
   some (!r2)):Option Bool)>>=fun j3=>
 if j3=true then
  some (0,1)
 else
  some (IntKind.i64.wrap ((IntKind.i64.wrap ((IntKind.i64.wrap (a1*r1.1))+a1))+1),0)
def zBr (a0:zAD):Option (Int×Int):=
 (zHx a0.F_Model.F_In a0.F_Model.F_Hid)>>=fun r1=>
 some (r1.1,r1.2)
abbrev zAq:Type:=(Int×Int) ⊕ (Int×Int×Int×Int×Int×Int×Int) ⊕ (Int×Int×Int×Int×Int×Int×Int) ⊕ (Int×Int×Int×Int×Int×Int×Int)
def zFx (a0:zAc):Option zAq:=
 if a0.F_Kind=(0:Int) then
  ((
   if a0.F_Frac<0 then
    some true
   else
    some (decide (a0.F_Frac>30))):Option Bool)>>=fun j1=>
  if j1=true then
   some (.inl (0,1):zAq)
  else
   if a0.F_Kind≠1 then
    if a0.F_Out≠0 then
     some (.inl (0,1):zAq)
    else
     if a0.F_Kind≠2 then
      if a0.F_Hid≠0 then
       some (.inl (0,1):zAq)
      else
       (zBi (⟨a0⟩:zAv))>>=fun r2=>
       some (.inr (.inl (a0.F_Kind,a0.F_In,a0.F_Out,a0.F_Hid,a0.F_Frac,r2.1,r2.2)):zAq)
     else
      (zBi (⟨a0⟩:zAv))>>=fun r3=>
      some (.inr (.inl (a0.F_Kind,a0.F_In,a0.F_Out,a0.F_Hid,a0.F_Frac,r3.1,r3.2)):zAq)
   else
    if a0.F_Kind≠2 then
     if a0.F_Hid≠0 then
      some (.inl (0,1):zAq)
     else
      (zBi (⟨a0⟩:zAv))>>=fun r4=>
      some (.inr (.inl (a0.F_Kind,a0.F_In,a0.F_Out,a0.F_Hid,a0.F_Frac,r4.1,r4.2)):zAq)
    else
     (zBi (⟨a0⟩:zAv))>>=fun r5=>
     some (.inr (.inl (a0.F_Kind,a0.F_In,a0.F_Out,a0.F_Hid,a0.F_Frac,r5.1,r5.2)):zAq)
 else
  if a0.F_Kind=(1:Int) then
   ((
    if a0.F_Frac<0 then
     some true
    else
     some (decide (a0.F_Frac>30))):Option Bool)>>=fun j6=>
   if j6=true then
    some (.inl (0,1):zAq)
   else
    if a0.F_Kind≠1 then
     if a0.F_Out≠0 then
      some (.inl (0,1):zAq)
     else
      if a0.F_Kind≠2 then
       if a0.F_Hid≠0 then
        some (.inl (0,1):zAq)
       else
        (zBn (⟨a0⟩:zAx))>>=fun r7=>
        some (.inr (.inr (.inl (a0.F_Kind,a0.F_In,a0.F_Out,a0.F_Hid,a0.F_Frac,r7.1,r7.2))):zAq)
      else
       (zBn (⟨a0⟩:zAx))>>=fun r8=>
       some (.inr (.inr (.inl (a0.F_Kind,a0.F_In,a0.F_Out,a0.F_Hid,a0.F_Frac,r8.1,r8.2))):zAq)
    else
     if a0.F_Kind≠2 then
      if a0.F_Hid≠0 then
       some (.inl (0,1):zAq)
      else
       (zBn (⟨a0⟩:zAx))>>=fun r9=>
       some (.inr (.inr (.inl (a0.F_Kind,a0.F_In,a0.F_Out,a0.F_Hid,a0.F_Frac,r9.1,r9.2))):zAq)
     else
      (zBn (⟨a0⟩:zAx))>>=fun r10=>
      some (.inr (.inr (.inl (a0.F_Kind,a0.F_In,a0.F_Out,a0.F_Hid,a0.F_Frac,r10.1,r10.2))):zAq)
  else
   if a0.F_Kind=(2:Int) then
    ((
     if a0.F_Frac<0 then
      some true
     else
      some (decide (a0.F_Frac>30))):Option Bool)>>=fun j11=>
    if j11=true then
     some (.inl (0,1):zAq)
    else
     if a0.F_Kind≠1 then
      if a0.F_Out≠0 then
       some (.inl (0,1):zAq)
      else
       if a0.F_Kind≠2 then
        if a0.F_Hid≠0 then
         some (.inl (0,1):zAq)
        else
         (zBr (⟨a0⟩:zAD))>>=fun r12=>
         some (.inr (.inr (.inr (a0.F_Kind,a0.F_In,a0.F_Out,a0.F_Hid,a0.F_Frac,r12.1,r12.2))):zAq)
       else
        (zBr (⟨a0⟩:zAD))>>=fun r13=>
        some (.inr (.inr (.inr (a0.F_Kind,a0.F_In,a0.F_Out,a0.F_Hid,a0.F_Frac,r13.1,r13.2))):zAq)
     else
      if a0.F_Kind≠2 then
       if a0.F_Hid≠0 then
        some (.inl (0,1):zAq)
       else
        (zBr (⟨a0⟩:zAD))>>=fun r14=>
        some (.inr (.inr (.inr (a0.F_Kind,a0.F_In,a0.F_Out,a0.F_Hid,a0.F_Frac,r14.1,r14.2))):zAq)
      else
       (zBr (⟨a0⟩:zAD))>>=fun r15=>
       some (.inr (.inr (.inr (a0.F_Kind,a0.F_In,a0.F_Out,a0.F_Hid,a0.F_Frac,r15.1,r15.2))):zAq)
   else
    some (.inl (0,1):zAq)
def zFR (a0:zAc):Option (Int×Int):=
 (zFx a0)>>=fun e=>match e with
 | .inl r1=>
  some (r1.1,r1.2)
 | .inr (.inl r2)=>
  some (r2.2.2.2.2.2.1,r2.2.2.2.2.2.2)
 | .inr (.inr (.inl r3))=>
  some (r3.2.2.2.2.2.1,r3.2.2.2.2.2.2)
 | .inr (.inr (.inr r4))=>
  some (r4.2.2.2.2.2.1,r4.2.2.2.2.2.2)
def zJO:Option Unit:=
 some ()
def zGi (a0:zBb) (a1:Int):Option Bool:=
 ((
  if a0.F_K=0 then
   some (a0.F_Wide==0)
  else
   some false):Option Bool)>>=fun j1=>
 some j1
def zH5 (a0:zBb) (a1:Int):Option Bool:=
 ((
  if a0.F_K≥0 then
   some (decide (a0.F_K≤a1))
  else
   some false):Option Bool)>>=fun j1=>
 ((
  if j1=true then
   some (a0.F_Wide==0)
  else
   some false):Option Bool)>>=fun j2=>
 some j2
def zH8 (a0:zBb) (a1:Int):Option Bool:=
 ((
  if a0.F_K=0 then
   some (decide (a0.F_Wide>0))
  else
   some false):Option Bool)>>=fun j1=>
 ((
  if j1=true then
   some (decide (a0.F_Wide≤8))
  else
   some false):Option Bool)>>=fun j2=>
 some j2
def zHa (a0:zBb) (a1:Int):Option Int:=
 (zJO)>>=fun r1=>
 if a0.F_Scheme=(0:Int) then
  ((
   if (hasK a0.F_Scheme [0,1,2,3])=false then
    some true
   else
    some (decide (a1<1))):Option Bool)>>=fun j2=>
  ((
   if j2=true then
    some true
   else
    some (decide (a1>4096))):Option Bool)>>=fun j3=>
  ((
   if j3=true then
    some true
   else
    (zGi a0 a1)>>=fun r4=>
    some (!r4)):Option Bool)>>=fun j5=>
  if j5=true then
   some 1
  else
   some 0
 else
  if a0.F_Scheme=(1:Int) then
   ((
    if (hasK a0.F_Scheme [0,1,2,3])=false then
     some true
    else
     some (decide (a1<1))):Option Bool)>>=fun j6=>
   ((
    if j6=true then
     some true
    else
     some (decide (a1>4096))):Option Bool)>>=fun j7=>
   ((
    if j7=true then
     some true
    else
     (zH5 a0 a1)>>=fun r8=>
     some (!r8)):Option Bool)>>=fun j9=>
   if j9=true then
    some 1
   else
    some 0
  else
   if a0.F_Scheme=(2:Int) then
    ((
     if (hasK a0.F_Scheme [0,1,2,3])=false then
      some true
     else
      some (decide (a1<1))):Option Bool)>>=fun j10=>
    ((
     if j10=true then
      some true
     else
      some (decide (a1>4096))):Option Bool)>>=fun j11=>
    ((
     if j11=true then
      some true
     else
      (zH8 a0 a1)>>=fun r12=>
      some (!r12)):Option Bool)>>=fun j13=>
    if j13=true then
     some 1
    else
     some 0
   else
    if a0.F_Scheme=(3:Int) then
     ((
      if (hasK a0.F_Scheme [0,1,2,3])=false then
       some true
      else
       some (decide (a1<1))):Option Bool)>>=fun j14=>
     ((
      if j14=true then
       some true
      else
       some (decide (a1>4096))):Option Bool)>>=fun j15=>
     ((
      if j15=true then
       some true
      else
       (zGi a0 a1)>>=fun r16=>
       some (!r16)):Option Bool)>>=fun j17=>
     if j17=true then
      some 1
     else
      some 0
    else
     ((
      if (hasK a0.F_Scheme [0,1,2,3])=false then
       some true
      else
       some (decide (a1<1))):Option Bool)>>=fun j18=>
     ((
      if j18=true then
       some true
      else
       some (decide (a1>4096))):Option Bool)>>=fun j19=>
     ((
      if j19=true then
       some ()
      else
       none):Option Unit)>>=fun j20=>
     some 1
def zDF (a0:Int) (a1:Int) (a2:Int):Option Bool:=
 ((
  if a0≥a1 then
   some (decide (a0≤a2))
  else
   some false):Option Bool)>>=fun j1=>
 some j1
def zBD (a0:Int) (a2:List zAa) (x0:Int) (x1:Bool):Option Bool:=
 if x0<(a2.length:Int) then
  if 0≤x0∧x0<(a2.length:Int) then
   ((
    if x1=true then
     some ((((at' a2 x0).F_X).length:Int)==a0)
    else
     some false):Option Bool)>>=fun j2=>
   zBD a0 a2 (IntKind.i64.wrap (x0+1)) j2
  else none
 else
  some x1
 partial_fixpoint
def zCi (a0:Int) (a1:List Int) (a2:List zAa):Option Int:=
 (zD2 a0)>>=fun r1=>
 if r1.2≠0 then
  some r1.2
 else
  (zBD a0 a2 0 ((a1.length:Int)==r1.1))>>=fun j3=>
  if j3=false then
   some 4
  else
   ((
    if (a2.length:Int)=0 then
     some true
    else
     some (decide ((a2.length:Int)>64))):Option Bool)>>=fun j4=>
   if j4=true then
    some 1
   else
    some 0
def zBO (a0:zAv) (a1:List Int) (a2:List zAa):Option Int:=
 (zCi a0.F_Model.F_In a1 a2)>>=fun r1=>
 some r1
def zFp (a0:zAa) (a1:Int):Option Bool:=
 some ((a0.F_X.length:Int) !=a1)
def zAh (a0:List zAa) (a1:Int) (x0:Int):Option (Sum Int Unit):=
 if x0<(a0.length:Int) then
  if 0≤x0∧x0<(a0.length:Int) then
   (zFp (at' a0 x0) a1)>>=fun r1=>
   if r1=true then
    some (.inl x0)
   else
    zAh a0 a1 (IntKind.i64.wrap (x0+1))
  else none
 else
  some (.inr ())
 partial_fixpoint
def zAL (a0:List zAa) (a1:Int):Option Int:=
 (zAh a0 a1 0)>>=fun e=>match e with
 | .inl r=>some r
 | .inr j2=>
  some (-1)
def zAy (a0:List zAa) (a1:Int):Option Bool:=
 (zAL a0 a1)>>=fun r1=>
 some (decide (r1≥0))
def zFr (a0:zAa) (a1:Int):Option Bool:=
 ((
  if a0.F_Y<0 then
   some true
  else
   some (decide (a0.F_Y≥a1))):Option Bool)>>=fun j1=>
 some j1
def zAi (a0:List zAa) (a1:Int) (x0:Int):Option (Sum Int Unit):=
 if x0<(a0.length:Int) then
  if 0≤x0∧x0<(a0.length:Int) then
   (zFr (at' a0 x0) a1)>>=fun r1=>
   if r1=true then
    some (.inl x0)
   else
    zAi a0 a1 (IntKind.i64.wrap (x0+1))
  else none
 else
  some (.inr ())
 partial_fixpoint
def zAK (a0:List zAa) (a1:Int):Option Int:=
 (zAi a0 a1 0)>>=fun e=>match e with
 | .inl r=>some r
 | .inr j2=>
  some (-1)
def zAA (a0:List zAa) (a1:Int):Option Bool:=
 (zAK a0 a1)>>=fun r1=>
 some (decide (r1≥0))
def zFd (a0:Int) (a1:Int) (a2:List Int) (a3:List zAa):Option Int:=
 (zHT a0 a1)>>=fun r1=>
 if r1.2≠0 then
  some r1.2
 else
  ((
   if (a2.length:Int)≠r1.1 then
    some true
   else
    (zAy a3 a0)>>=fun r2=>
    some r2):Option Bool)>>=fun j3=>
  if j3=true then
   some 4
  else
   ((
    if (a3.length:Int)=0 then
     some true
    else
     some (decide ((a3.length:Int)>64))):Option Bool)>>=fun j4=>
   ((
    if j4=true then
     some true
    else
     (zAA a3 a1)>>=fun r5=>
     some r5):Option Bool)>>=fun j6=>
   if j6=true then
    some 1
   else
    some 0
def zB1 (a0:zAx) (a1:List Int) (a2:List zAa):Option Int:=
 (zFd a0.F_Model.F_In a0.F_Model.F_Out a1 a2)>>=fun r1=>
 some r1
def zF3 (a0:zAa) (a1:Int):Option Bool:=
 some ((a0.F_X.length:Int) !=a1)
def zAj (a0:List zAa) (a1:Int) (x0:Int):Option (Sum Int Unit):=
 if x0<(a0.length:Int) then
  if 0≤x0∧x0<(a0.length:Int) then
   (zF3 (at' a0 x0) a1)>>=fun r1=>
   if r1=true then
    some (.inl x0)
   else
    zAj a0 a1 (IntKind.i64.wrap (x0+1))
  else none
 else
  some (.inr ())
 partial_fixpoint
def zAM (a0:List zAa) (a1:Int):Option Int:=
 (zAj a0 a1 0)>>=fun e=>match e with
 | .inl r=>some r
 | .inr j2=>
  some (-1)
def zAB (a0:List zAa) (a1:Int):Option Bool:=
 (zAM a0 a1)>>=fun r1=>
 some (decide (r1≥0))
def zFQ (a0:Int) (a1:Int) (a2:List Int) (a3:List zAa):Option Int:=
 (zHx a0 a1)>>=fun r1=>
 if r1.2≠0 then
  some r1.2
 else
  ((
   if (a2.length:Int)≠r1.1 then
    some true
   else
    (zAB a3 a0)>>=fun r2=>
    some r2):Option Bool)>>=fun j3=>
  if j3=true then
   some 4
  else
   ((
    if (a3.length:Int)=0 then
     some true
    else
     some (decide ((a3.length:Int)>64))):Option Bool)>>=fun j4=>
   if j4=true then
    some 1
   else
    some 0
def zCa (a0:zAD) (a1:List Int) (a2:List zAa):Option Int:=
 (zFQ a0.F_Model.F_In a0.F_Model.F_Hid a1 a2)>>=fun r1=>
 some r1
def zHF (a0:zAc) (a1:List Int) (a2:List zAa):Option Int:=
 (zFx a0)>>=fun e=>match e with
 | .inl r1=>
  if r1.2≠0 then
   some r1.2
  else
   none
 | .inr (.inl r2)=>
  if r2.2.2.2.2.2.2≠0 then
   some r2.2.2.2.2.2.2
  else
   (zBO (⟨(⟨r2.1,r2.2.1,r2.2.2.1,r2.2.2.2.1,r2.2.2.2.2.1⟩:zAc)⟩:zAv) a1 a2)>>=fun r3=>
   some r3
 | .inr (.inr (.inl r4))=>
  if r4.2.2.2.2.2.2≠0 then
   some r4.2.2.2.2.2.2
  else
   (zB1 (⟨(⟨r4.1,r4.2.1,r4.2.2.1,r4.2.2.2.1,r4.2.2.2.2.1⟩:zAc)⟩:zAx) a1 a2)>>=fun r5=>
   some r5
 | .inr (.inr (.inr r6))=>
  if r6.2.2.2.2.2.2≠0 then
   some r6.2.2.2.2.2.2
  else
   (zCa (⟨(⟨r6.1,r6.2.1,r6.2.2.1,r6.2.2.2.1,r6.2.2.2.2.1⟩:zAc)⟩:zAD) a1 a2)>>=fun r7=>
   some r7
def zF6 (a0:zAa) (a1:Int) (a2:Int) (a3:Int) (a4:Int) (a5:Int) (a6:Int) (a7:Int) (a8:Int) (a9:Int) (a10:Int) (a11:Int) (a12:Int) (a13:Int) (a14:Int) (a15:Int) (a16:List zAa) (a17:List Int):Option Bool:=
 (zHF (⟨a2,a3,a4,a5,a6⟩:zAc) a17 [a0])>>=fun r1=>
 some (r1 !=0)
def zAp (a0:List zAa) (a1:Int) (a2:Int) (a3:Int) (a4:Int) (a5:Int) (a6:Int) (a7:Int) (a8:Int) (a9:Int) (a10:Int) (a11:Int) (a12:Int) (a13:Int) (a14:Int) (a15:Int) (a16:List zAa) (a17:List Int) (x0:Int):Option (Sum Int Unit):=
 if x0<(a0.length:Int) then
  if 0≤x0∧x0<(a0.length:Int) then
   (zF6 (at' a0 x0) a1 a2 a3 a4 a5 a6 a7 a8 a9 a10 a11 a12 a13 a14 a15 a16 a17)>>=fun r1=>
   if r1=true then
    some (.inl x0)
   else
    zAp a0 a1 a2 a3 a4 a5 a6 a7 a8 a9 a10 a11 a12 a13 a14 a15 a16 a17 (IntKind.i64.wrap (x0+1))
  else none
 else
  some (.inr ())
 partial_fixpoint
def zA0 (a0:List zAa) (a1:Int) (a2:Int) (a3:Int) (a4:Int) (a5:Int) (a6:Int) (a7:Int) (a8:Int) (a9:Int) (a10:Int) (a11:Int) (a12:Int) (a13:Int) (a14:Int) (a15:Int) (a16:List zAa) (a17:List Int):Option Int:=
 (zAp a0 a1 a2 a3 a4 a5 a6 a7 a8 a9 a10 a11 a12 a13 a14 a15 a16 a17 0)>>=fun e=>match e with
 | .inl r=>some r
 | .inr j2=>
  some (-1)
def zAH (a0:List zAa) (a1:Int) (a2:Int) (a3:Int) (a4:Int) (a5:Int) (a6:Int) (a7:Int) (a8:Int) (a9:Int) (a10:Int) (a11:Int) (a12:Int) (a13:Int) (a14:Int) (a15:Int) (a16:List zAa) (a17:List Int):Option Bool:=
 (zA0 a0 a1 a2 a3 a4 a5 a6 a7 a8 a9 a10 a11 a12 a13 a14 a15 a16 a17)>>=fun r1=>
 some (decide (r1≥0))
def zE1 (a0:zAl):Option Int:=
 (zFR a0.F_M)>>=fun r1=>
 ((
  if r1.2≠0 then
   some true
  else
   (zHa a0.F_H r1.1)>>=fun r2=>
   some (r2 !=0)):Option Bool)>>=fun j3=>
 if j3=true then
  some 1
 else
  if 0≤a0.F_M.F_Frac then
   (zBc a0.F_N 1 64)>>=fun r4=>
   ((
    if r4=false then
     some true
    else
     (zBc a0.F_Warm 0 1048576)>>=fun r5=>
     some (!r5)):Option Bool)>>=fun j6=>
   ((
    if j6=true then
     some true
    else
     (zDF a0.F_Rate 0 (sShl .i64 1 a0.F_M.F_Frac))>>=fun r7=>
     some (!r7)):Option Bool)>>=fun j8=>
   ((
    if j8=true then
     some true
    else
     (zDF a0.F_Mom 0 (sShl .i64 1 a0.F_M.F_Frac))>>=fun r9=>
     some (!r9)):Option Bool)>>=fun j10=>
   ((
    if j10=true then
     some true
    else
     some (decide (a0.F_Clip<0))):Option Bool)>>=fun j11=>
   if j11=true then
    some 1
   else
    ((
     if (a0.F_L.length:Int)>256 then
      some true
     else
      some (if (a0.F_L.length:Int)<64 then (a0.F_L.length:Int) else 64)>>=fun y12=>
      (zBc a0.F_Batch 1 y12)>>=fun r14=>
      some (!r14)):Option Bool)>>=fun j15=>
    if j15=true then
     some 1
    else
     if 0≤r1.1∧r1.1≤r1.1∧r1.1≤140737488355328∧r1.1*((8:Nat):Int)≤140737488355328 then
      some (List.replicate (Int.toNat r1.1) 0)>>=fun y16=>
      (zAH a0.F_L a0.F_N a0.F_M.F_Kind a0.F_M.F_In a0.F_M.F_Out a0.F_M.F_Hid a0.F_M.F_Frac a0.F_H.F_Scheme a0.F_H.F_K a0.F_H.F_Wide a0.F_Warm a0.F_Rate a0.F_Mom a0.F_Clip a0.F_Batch a0.F_Seed a0.F_L y16)>>=fun r18=>
      if r18=true then
       some 1
      else
       some 0
     else none
  else none
def zBm (x0:Int):Option (Sum Bool Unit):=
 if x0<([10,8,6,4,2,2].length:Int) then
  if 0≤x0∧x0<([10,8,6,4,2,2].length:Int) then
   (zDN 10 2 4 x0)>>=fun r1=>
   ((
    if r1.1≠(at' [10,8,6,4,2,2] x0) then
     some true
    else
     some (r1.2 !=0)):Option Bool)>>=fun j2=>
   if j2=true then
    some (.inl false)
   else
    zBm (IntKind.i64.wrap (x0+1))
  else none
 else
  some (.inr ())
 partial_fixpoint
def zEQ:Option Bool:=
 (zBm 0)>>=fun e=>match e with
 | .inl r=>some r
 | .inr j3=>
  (zE1 (⟨1,(⟨0,1,0,0,0⟩:zAc),(⟨0,0,0⟩:zBb),0,0,0,0,1,0,[(⟨[1],0⟩:zAa)]⟩:zAl))>>=fun r4=>
  ((
   if r4=0 then
    (zE1 (⟨0,(⟨0,0,0,0,0⟩:zAc),(⟨0,0,0⟩:zBb),0,0,0,0,0,0,[]⟩:zAl))>>=fun r5=>
    some (r5==1)
   else
    some false):Option Bool)>>=fun j6=>
  some j6
def zB4 (a0:zAl) (x0:Int):Option (Sum Bool Unit):=
 if x0<(a0.F_L.length:Int) then
  if 0≤x0∧x0<(a0.F_L.length:Int) then
   if (((at' a0.F_L x0).F_X).length:Int)>100 then
    some (.inl false)
   else
    zB4 a0 (IntKind.i64.wrap (x0+1))
  else none
 else
  some (.inr ())
 partial_fixpoint
def zFn (a0:zAl):Option Bool:=
 (zB4 a0 0)>>=fun e=>match e with
 | .inl r=>some r
 | .inr j1=>
  some (decide ((a0.F_L.length:Int)≤300))
def zKA (a0:zAl) (a1:Int):Option Bool:=
 (zBc a1 0 1073741824)>>=fun r1=>
 ((
  if r1=true then
   (zE1 a0)>>=fun r2=>
   some (r2==0)
  else
   some false):Option Bool)>>=fun j3=>
 some j3
def zBp (a0:Int) (a1:Int):Option Int:=
 some (bXor .u64 (IntKind.u64.wrap ((bXor .u64 a0 (IntKind.u64.wrap a1))*11400714819323198485)) (sShr .u64 (IntKind.u64.wrap ((bXor .u64 a0 (IntKind.u64.wrap a1))*11400714819323198485)) 29))
def zDL (a1:List Int) (x0:Int) (x1:Int):Option Int:=
 if x0<(a1.length:Int) then
  if 0≤x0∧x0<(a1.length:Int) then
   (zBp x1 (at' a1 x0))>>=fun r1=>
   zDL a1 (IntKind.i64.wrap (x0+1)) r1
  else none
 else
  some x1
 partial_fixpoint
def zIr (a0:Int) (a1:List Int):Option Int:=
 (zDL a1 0 a0)>>=fun j2=>
 some j2
def zCc (a0:Int):Option Int:=
 some (bXor .u64 (IntKind.u64.wrap (a0*13787848793156543929)) (sShr .u64 (IntKind.u64.wrap (a0*13787848793156543929)) 32))
def zBN (a0:Int) (a1:Int) (a2:List Int) (y1:List Int) (x0:Int) (x1:List Int):Option (List Int):=
 if x0<(y1.length:Int) then
  if 0≤x0∧x0<(x1.length:Int) then
   zBN a0 a1 a2 y1 (IntKind.i64.wrap (x0+1)) (x1.set (Int.toNat x0) x0)
  else none
 else
  some x1
 partial_fixpoint
def zBq (r4:Int) (x0:Int) (x1:List Int):Option (List Int):=
 if x0>0 then
  (zBp r4 x0)>>=fun r5=>
  (zCc r5)>>=fun r6=>
  if IntKind.u64.wrap (IntKind.i64.wrap (x0+1))≠0 then
   if 0≤Int.tmod r6 (IntKind.u64.wrap (IntKind.i64.wrap (x0+1)))∧Int.tmod r6 (IntKind.u64.wrap (IntKind.i64.wrap (x0+1)))<(x1.length:Int) then
    if 0≤x0∧x0<(x1.length:Int) then
     if 0≤x0∧x0<(x1.length:Int) then
      if 0≤Int.tmod r6 (IntKind.u64.wrap (IntKind.i64.wrap (x0+1)))∧Int.tmod r6 (IntKind.u64.wrap (IntKind.i64.wrap (x0+1)))<((x1.set (Int.toNat x0) (at' x1 (Int.tmod r6 (IntKind.u64.wrap (IntKind.i64.wrap (x0+1)))))).length:Int) then
       some ((x1.set (Int.toNat x0) (at' x1 (Int.tmod r6 (IntKind.u64.wrap (IntKind.i64.wrap (x0+1)))))).set (Int.toNat (Int.tmod r6 (IntKind.u64.wrap (IntKind.i64.wrap (x0+1))))) (at' x1 x0))>>=fun y7=>
       zBq r4 (IntKind.i64.wrap (x0-1)) y7
      else none
     else none
    else none
   else none
  else none
 else
  some x1
 partial_fixpoint
def zEZ (a0:Int) (a1:Int) (a2:List Int):Option ((List Int)×Int):=
 if a0<0 then
  some ([],1)
 else
  if a0>4096 then
   some ([],3)
  else
   if 0≤a0∧a0≤a0∧a0≤140737488355328∧a0*((8:Nat):Int)≤140737488355328 then
    some (List.replicate (Int.toNat a0) 0)>>=fun y1=>
    (zBN a0 a1 a2 y1 0 y1)>>=fun j3=>
    (zIr a1 a2)>>=fun r4=>
    (zBq r4 (IntKind.i64.wrap (a0-1)) j3)>>=fun j9=>
    some (j9,0)
   else none
def zEJ (a0:Int) (a1:Int) (a2:Int) (a3:List Int):Option ((List Int)×Int):=
 ((
  if a0<0 then
   some true
  else
   some (decide (a0>a1))):Option Bool)>>=fun j1=>
 if j1=true then
  some ([],1)
 else
  (zEZ a1 a2 a3)>>=fun r2=>
  if r2.2≠0 then
   some ([],r2.2)
  else
   if cutOk none (some a0) r2.1.length then
    some (cut' r2.1 none (some a0),0)
   else none
def zCN (a0:zAl) (a1:Int) (a2:Int):Option ((List Int)×Int):=
 (zKA a0 a2)>>=fun r1=>
 ((
  if r1=false then
   some true
  else
   (zBc a1 0 (IntKind.i64.wrap (a0.F_N-1)))>>=fun r2=>
   some (!r2)):Option Bool)>>=fun j3=>
 if j3=true then
  some ([],1)
 else
  (zEJ a0.F_Batch (a0.F_L.length:Int) a0.F_Seed [a1,a2])>>=fun r4=>
  some (r4.1,r4.2)
def zDb (a0:List Int) (a1:List Int) (x0:Int):Option (Sum Bool Unit):=
 if x0<(a0.length:Int) then
  if 0≤x0∧x0<(a0.length:Int) then
   if 0≤x0∧x0<(a1.length:Int) then
    if (at' a0 x0)≠(at' a1 x0) then
     some (.inl false)
    else
     zDb a0 a1 (IntKind.i64.wrap (x0+1))
   else none
  else none
 else
  some (.inr ())
 partial_fixpoint
def zEE (a0:List Int) (a1:List Int):Option Bool:=
 if (a0.length:Int)≠(a1.length:Int) then
  some false
 else
  (zDb a0 a1 0)>>=fun e=>match e with
  | .inl r=>some r
  | .inr j1=>
   some true
def zHR (a0:List Int) (a1:List Int):Option Int:=
 if (if (a1.length:Int)>(a0.length:Int) then (a1.length:Int) else (a0.length:Int))>4096 then
  some 3
 else
  if (a0.length:Int)≠(a1.length:Int) then
   some 4
  else
   some 0
def zF4 (a0:Int):Option Bool:=
 ((
  if a0≥0 then
   some (decide (a0≤30))
  else
   some false):Option Bool)>>=fun j1=>
 some j1
def zDx (a0:Int) (a1:Int):Option (Int×Int):=
 some (IntKind.u64.wrap ((IntKind.u64.wrap ((IntKind.u64.wrap ((sShr .u64 a0 32)*(sShr .u64 a1 32)))+(sShr .u64 (IntKind.u64.wrap ((IntKind.u64.wrap ((sShr .u64 a0 32)*(bAnd .u64 a1 4294967295)))+(sShr .u64 (IntKind.u64.wrap ((bAnd .u64 a0 4294967295)*(bAnd .u64 a1 4294967295))) 32))) 32)))+(sShr .u64 (IntKind.u64.wrap ((bAnd .u64 (IntKind.u64.wrap ((IntKind.u64.wrap ((sShr .u64 a0 32)*(bAnd .u64 a1 4294967295)))+(sShr .u64 (IntKind.u64.wrap ((bAnd .u64 a0 4294967295)*(bAnd .u64 a1 4294967295))) 32))) 4294967295)+(IntKind.u64.wrap ((bAnd .u64 a0 4294967295)*(sShr .u64 a1 32))))) 32)),IntKind.u64.wrap (a0*a1))
def zIg (a0:Int) (a1:Int):Option (Int×Int):=
 (zDx (IntKind.u64.wrap a0) (IntKind.u64.wrap a1))>>=fun r1=>
 if a0<0 then
  if a1<0 then
   some (IntKind.u64.wrap ((IntKind.u64.wrap (r1.1-(IntKind.u64.wrap a1)))-(IntKind.u64.wrap a0)),r1.2)
  else
   some (IntKind.u64.wrap (r1.1-(IntKind.u64.wrap a1)),r1.2)
 else
  if a1<0 then
   some (IntKind.u64.wrap (r1.1-(IntKind.u64.wrap a0)),r1.2)
  else
   some (r1.1,r1.2)
def zDs (a0:zBv) (a1:Int):Option (Int×Int):=
 if a1=0 then
  some (a0.F_c0,a0.F_c1)
 else
  if 0≤a1 then
   if 0≤IntKind.i64.wrap (64-a1) then
    if 0≤a1 then
     some (IntKind.u64.wrap (sShr .i64 (IntKind.i64.wrap a0.F_c0) a1),bOr .u64 (sShl .u64 a0.F_c0 (IntKind.i64.wrap (64-a1))) (sShr .u64 a0.F_c1 a1))
    else none
   else none
  else none
def zCX (a0:zBv):Option (Int×Int):=
 if (!(([a0.F_c0,a0.F_c1]:List Int)==[IntKind.u64.wrap (sShr .i64 (IntKind.i64.wrap a0.F_c1) 63),a0.F_c1]))=true then
  some (0,2)
 else
  some (IntKind.i64.wrap a0.F_c1,0)
def zGb (a0:Int) (a1:Int) (a2:Int):Option (Int×Int):=
 (zF4 a2)>>=fun r1=>
 if r1=false then
  some (0,1)
 else
  (zIg a0 a1)>>=fun r2=>
  (zDs (⟨r2.1,r2.2⟩:zBv) a2)>>=fun r3=>
  (zCX (⟨r3.1,r3.2⟩:zBv))>>=fun r4=>
  some (r4.1,r4.2)
def zGr (a0:Int):Option Int:=
 (zGb 0 0 a0)>>=fun r1=>
 some r1.2
def zGL (a0:Int) (a1:List Int) (a2:List Int) (a3:Int):Option (Int×Int):=
 if 0≤a0∧a0<(a1.length:Int) then
  if 0≤a0∧a0<(a2.length:Int) then
   (zGb (at' a1 a0) (at' a2 a0) a3)>>=fun r1=>
   some (r1.1,r1.2)
  else none
 else none
def zHv (a0:Int) (a1:Int):Option (Int×Int):=
 if (bAnd .i64 (bXor .i64 a0 (IntKind.i64.wrap (a0+a1))) (bXor .i64 a1 (IntKind.i64.wrap (a0+a1))))<0 then
  some (0,2)
 else
  some (IntKind.i64.wrap (a0+a1),0)
def zAU (a0:Int) (a1:List Int) (a2:List Int) (a3:Int) (x0:Int) (x1:Int):Option (Sum (Int×Int) Int):=
 if x0<a0 then
  (zGL x0 a1 a2 a3)>>=fun r1=>
  if r1.2=0 then
   (zHv x1 r1.1)>>=fun r2=>
   if r2.2≠0 then
    some (.inl (0,r2.2))
   else
    zAU a0 a1 a2 a3 (IntKind.i64.wrap (x0+1)) r2.1
  else
   if r1.2≠0 then
    some (.inl (0,r1.2))
   else
    zAU a0 a1 a2 a3 (IntKind.i64.wrap (x0+1)) x1
 else
  some (.inr x1)
 partial_fixpoint
def zE8 (a0:Int) (a1:List Int) (a2:List Int) (a3:Int):Option (Int×Int):=
 (zAU a0 a1 a2 a3 0 0)>>=fun e=>match e with
 | .inl r=>some r
 | .inr j3=>
  some (j3,0)
def zKD (a0:List Int) (a1:List Int) (a2:Int):Option (Int×Int):=
 (zHR a0 a1)>>=fun r1=>
 ((
  if r1=0 then
   (zGr a2)>>=fun r2=>
   some r2
  else
   some r1):Option Int)>>=fun j3=>
 if j3≠0 then
  some (0,j3)
 else
  (zE8 (a0.length:Int) a0 a1 a2)>>=fun r4=>
  some (r4.1,r4.2)
def zCW (a0:List Int) (a1:List Int) (a2:Int):Option (Int×Int):=
 (zCi (a1.length:Int) a0 [(⟨a1,0⟩:zAa)])>>=fun r1=>
 if r1≠0 then
  some (0,r1)
 else
  if cutOk none (some (a1.length:Int)) a0.length then
   some (cut' a0 none (some (a1.length:Int)))>>=fun y2=>
   (zKD y2 a1 a2)>>=fun r4=>
   if r4.2≠0 then
    some (0,r4.2)
   else
    if 0≤(a1.length:Int)∧(a1.length:Int)<(a0.length:Int) then
     (zHv r4.1 (at' a0 (a1.length:Int)))>>=fun r5=>
     some (r5.1,r5.2)
    else none
  else none
def zEH (a0:Int) (a1:Int):Option (Int×Int):=
 if (bAnd .i64 (bXor .i64 a0 a1) (bXor .i64 a0 (IntKind.i64.wrap (a0-a1))))<0 then
  some (0,2)
 else
  some (IntKind.i64.wrap (a0-a1),0)
def zHQ (a0:List Int) (a1:zAa) (a2:Int):Option (Int×Int):=
 (zCW a0 a1.F_X a2)>>=fun r1=>
 if r1.2≠0 then
  some (0,r1.2)
 else
  (zEH r1.1 a1.F_Y)>>=fun r2=>
  some (r2.1,r2.2)
def zDO (a0:List Int):Option Int:=
 if (a0.length:Int)>4096 then
  some 3
 else
  some 0
def zFW (a0:Int) (a1:List Int) (a2:Int) (a3:Int):Option (Int×Int):=
 if 0≤a0∧a0<(a1.length:Int) then
  (zGb (at' a1 a0) a2 a3)>>=fun r1=>
  some (r1.1,r1.2)
 else none
def zA4 (a1:List Int) (a2:Int) (a3:Int) (y1:List Int) (x0:Int) (x1:List Int):Option (Sum ((List Int)×Int) (List Int)):=
 if x0<(y1.length:Int) then
  (zFW x0 a1 a2 a3)>>=fun r3=>
  if 0≤x0∧x0<(x1.length:Int) then
   some (x1.set (Int.toNat x0) r3.1)>>=fun y4=>
   if r3.2≠0 then
    some (.inl ([],r3.2))
   else
    zA4 a1 a2 a3 y1 (IntKind.i64.wrap (x0+1)) y4
  else none
 else
  some (.inr x1)
 partial_fixpoint
def zEL (a0:Int) (a1:List Int) (a2:Int) (a3:Int):Option ((List Int)×Int):=
 if 0≤a0∧a0≤a0∧a0≤140737488355328∧a0*((8:Nat):Int)≤140737488355328 then
  some (List.replicate (Int.toNat a0) 0)>>=fun y1=>
  (zA4 a1 a2 a3 y1 0 y1)>>=fun e=>match e with
  | .inl r=>some r
  | .inr j6=>
   some (j6,0)
 else none
def zFV (a0:List Int) (a1:Int) (a2:Int):Option ((List Int)×Int):=
 (zDO a0)>>=fun r1=>
 ((
  if r1=0 then
   (zGr a2)>>=fun r2=>
   some r2
  else
   some r1):Option Int)>>=fun j3=>
 if j3≠0 then
  some ([],j3)
 else
  (zEL (a0.length:Int) a0 a1 a2)>>=fun r4=>
  some (r4.1,r4.2)
def zD5 (a0:zAa) (a1:Int) (a2:Int) (a3:List (List Int)):Option (Int×Int×(List (List Int))):=
 (zFV a0.F_X a1 a2)>>=fun r1=>
 if room 8 (r1.1++[a1]).length then
  if room 24 (a3++[r1.1++[a1]]).length then
   some (r1.2,a2,a3++[r1.1++[a1]])
  else none
 else none
def zAu (a0:List Int) (a1:Int) (a2:List zAa) (x0:Int) (x1:Int) (x2:Int) (x3:List (List Int)):Option (Int×Int×(List (List Int))):=
 if x0<(a2.length:Int) then
  if 0≤x0∧x0<(a2.length:Int) then
   if x1=0 then
    (zHQ a0 (at' a2 x0) a1)>>=fun r2=>
    if r2.2=0 then
     (zD5 (at' a2 x0) r2.1 x2 x3)>>=fun r3=>
     zAu a0 a1 a2 (IntKind.i64.wrap (x0+1)) r3.1 r3.2.1 r3.2.2
    else
     zAu a0 a1 a2 (IntKind.i64.wrap (x0+1)) r2.2 x2 x3
   else
    if x1=0 then
     (zD5 (at' a2 x0) 0 x2 x3)>>=fun r4=>
     zAu a0 a1 a2 (IntKind.i64.wrap (x0+1)) r4.1 r4.2.1 r4.2.2
    else
     zAu a0 a1 a2 (IntKind.i64.wrap (x0+1)) x1 x2 x3
  else none
 else
  some (x1,x2,x3)
 partial_fixpoint
def zD0 (a0:List Int) (a1:Int) (a2:List zAa) (a3:Int) (a4:List (List Int)):Option (Int×Int×(List (List Int))):=
 (zCi (IntKind.i64.wrap ((a0.length:Int)-1)) a0 a2)>>=fun r1=>
 (zAu a0 a1 a2 0 r1 a3 a4)>>=fun j5=>
 some (j5.1,j5.2.1,j5.2.2)
def zBk (a0:List Int):Option (List Int):=
 if room 8 ([]++a0).length then
  some ([]++a0)
 else none
def zHA (a0:Int) (a1:List Int) (a2:List Int):Option (Int×Int):=
 if 0≤a0∧a0<(a1.length:Int) then
  if 0≤a0∧a0<(a2.length:Int) then
   (zHv (at' a1 a0) (at' a2 a0))>>=fun r1=>
   some (r1.1,r1.2)
  else none
 else none
def zBa (a1:List Int) (a2:List Int) (y1:List Int) (x0:Int) (x1:List Int):Option (Sum ((List Int)×Int) (List Int)):=
 if x0<(y1.length:Int) then
  (zHA x0 a1 a2)>>=fun r3=>
  if 0≤x0∧x0<(x1.length:Int) then
   some (x1.set (Int.toNat x0) r3.1)>>=fun y4=>
   if r3.2≠0 then
    some (.inl ([],r3.2))
   else
    zBa a1 a2 y1 (IntKind.i64.wrap (x0+1)) y4
  else none
 else
  some (.inr x1)
 partial_fixpoint
def zFv (a0:Int) (a1:List Int) (a2:List Int):Option ((List Int)×Int):=
 if 0≤a0∧a0≤a0∧a0≤140737488355328∧a0*((8:Nat):Int)≤140737488355328 then
  some (List.replicate (Int.toNat a0) 0)>>=fun y1=>
  (zBa a1 a2 y1 0 y1)>>=fun e=>match e with
  | .inl r=>some r
  | .inr j6=>
   some (j6,0)
 else none
def zKl (a0:List Int) (a1:List Int):Option ((List Int)×Int):=
 (zHR a0 a1)>>=fun r1=>
 if r1≠0 then
  some ([],r1)
 else
  (zFv (a0.length:Int) a0 a1)>>=fun r2=>
  some (r2.1,r2.2)
def zCQ (a0:List (List Int)) (x0:Int) (x1:List Int):Option (Sum ((List Int)×Int) (List Int)):=
 if x0<(a0.length:Int) then
  if 0≤x0∧x0<(a0.length:Int) then
   if x0=0 then
    (zBk (at' a0 x0))>>=fun r1=>
    (zDO (at' a0 x0))>>=fun r2=>
    if r2≠0 then
     some (.inl ([],r2))
    else
     zCQ a0 (IntKind.i64.wrap (x0+1)) r1
   else
    (zKl x1 (at' a0 x0))>>=fun r3=>
    if r3.2≠0 then
     some (.inl ([],r3.2))
    else
     zCQ a0 (IntKind.i64.wrap (x0+1)) r3.1
  else none
 else
  some (.inr x1)
 partial_fixpoint
def zIJ (a0:List (List Int)):Option ((List Int)×Int):=
 (zCQ a0 0 [])>>=fun e=>match e with
 | .inl r=>some r
 | .inr j4=>
  some (j4,0)
def zGC (a0:Int):Option Int:=
 if a0<0 then
  some (IntKind.u64.wrap (0-(IntKind.u64.wrap a0)))
 else
  some (IntKind.u64.wrap a0)
def zET (a0:Int):Option Int:=
 ((
  if a0≥4294967296 then
   some (32,sShr .u64 a0 32)
  else
   some (0,a0)):Option (Int×Int))>>=fun j1=>
 ((
  if j1.2≥65536 then
   some (IntKind.i64.wrap (j1.1+16),sShr .u64 j1.2 16)
  else
   some (j1.1,j1.2)):Option (Int×Int))>>=fun j2=>
 if j2.2≥256 then
  if 0≤(IntKind.u8.wrap (sShr .u64 j2.2 8))∧(IntKind.u8.wrap (sShr .u64 j2.2 8))<((ByteArray.mk #[0,1,2,2,3,3,3,3,4,4,4,4,4,4,4,4,5,5,5,5,5,5,5,5,5,5,5,5,5,5,5,5,6,6,6,6,6,6,6,6,6,6,6,6,6,6,6,6,6,6,6,6,6,6,6,6,6,6,6,6,6,6,6,6,7,7,7,7,7,7,7,7,7,7,7,7,7,7,7,7,7,7,7,7,7,7,7,7,7,7,7,7,7,7,7,7,7,7,7,7,7,7,7,7,7,7,7,7,7,7,7,7,7,7,7,7,7,7,7,7,7,7,7,7,7,7,7,7,8,8,8,8,8,8,8,8,8,8,8,8,8,8,8,8,8,8,8,8,8,8,8,8,8,8,8,8,8,8,8,8,8,8,8,8,8,8,8,8,8,8,8,8,8,8,8,8,8,8,8,8,8,8,8,8,8,8,8,8,8,8,8,8,8,8,8,8,8,8,8,8,8,8,8,8,8,8,8,8,8,8,8,8,8,8,8,8,8,8,8,8,8,8,8,8,8,8,8,8,8,8,8,8,8,8,8,8,8,8,8,8,8,8,8,8,8,8,8,8,8,8,8,8,8,8,8,8]).size:Int) then
   some (IntKind.i64.wrap ((IntKind.i64.wrap (j2.1+8))+(IntKind.i64.wrap (((ByteArray.mk #[0,1,2,2,3,3,3,3,4,4,4,4,4,4,4,4,5,5,5,5,5,5,5,5,5,5,5,5,5,5,5,5,6,6,6,6,6,6,6,6,6,6,6,6,6,6,6,6,6,6,6,6,6,6,6,6,6,6,6,6,6,6,6,6,7,7,7,7,7,7,7,7,7,7,7,7,7,7,7,7,7,7,7,7,7,7,7,7,7,7,7,7,7,7,7,7,7,7,7,7,7,7,7,7,7,7,7,7,7,7,7,7,7,7,7,7,7,7,7,7,7,7,7,7,7,7,7,7,8,8,8,8,8,8,8,8,8,8,8,8,8,8,8,8,8,8,8,8,8,8,8,8,8,8,8,8,8,8,8,8,8,8,8,8,8,8,8,8,8,8,8,8,8,8,8,8,8,8,8,8,8,8,8,8,8,8,8,8,8,8,8,8,8,8,8,8,8,8,8,8,8,8,8,8,8,8,8,8,8,8,8,8,8,8,8,8,8,8,8,8,8,8,8,8,8,8,8,8,8,8,8,8,8,8,8,8,8,8,8,8,8,8,8,8,8,8,8,8,8,8,8,8,8,8,8,8]).data.getD (Int.toNat (IntKind.u8.wrap (sShr .u64 j2.2 8))) 0).toNat:Int))))
  else none
 else
  if 0≤(IntKind.u8.wrap j2.2)∧(IntKind.u8.wrap j2.2)<((ByteArray.mk #[0,1,2,2,3,3,3,3,4,4,4,4,4,4,4,4,5,5,5,5,5,5,5,5,5,5,5,5,5,5,5,5,6,6,6,6,6,6,6,6,6,6,6,6,6,6,6,6,6,6,6,6,6,6,6,6,6,6,6,6,6,6,6,6,7,7,7,7,7,7,7,7,7,7,7,7,7,7,7,7,7,7,7,7,7,7,7,7,7,7,7,7,7,7,7,7,7,7,7,7,7,7,7,7,7,7,7,7,7,7,7,7,7,7,7,7,7,7,7,7,7,7,7,7,7,7,7,7,8,8,8,8,8,8,8,8,8,8,8,8,8,8,8,8,8,8,8,8,8,8,8,8,8,8,8,8,8,8,8,8,8,8,8,8,8,8,8,8,8,8,8,8,8,8,8,8,8,8,8,8,8,8,8,8,8,8,8,8,8,8,8,8,8,8,8,8,8,8,8,8,8,8,8,8,8,8,8,8,8,8,8,8,8,8,8,8,8,8,8,8,8,8,8,8,8,8,8,8,8,8,8,8,8,8,8,8,8,8,8,8,8,8,8,8,8,8,8,8,8,8,8,8,8,8,8,8]).size:Int) then
   some (IntKind.i64.wrap (j2.1+(IntKind.i64.wrap (((ByteArray.mk #[0,1,2,2,3,3,3,3,4,4,4,4,4,4,4,4,5,5,5,5,5,5,5,5,5,5,5,5,5,5,5,5,6,6,6,6,6,6,6,6,6,6,6,6,6,6,6,6,6,6,6,6,6,6,6,6,6,6,6,6,6,6,6,6,7,7,7,7,7,7,7,7,7,7,7,7,7,7,7,7,7,7,7,7,7,7,7,7,7,7,7,7,7,7,7,7,7,7,7,7,7,7,7,7,7,7,7,7,7,7,7,7,7,7,7,7,7,7,7,7,7,7,7,7,7,7,7,7,8,8,8,8,8,8,8,8,8,8,8,8,8,8,8,8,8,8,8,8,8,8,8,8,8,8,8,8,8,8,8,8,8,8,8,8,8,8,8,8,8,8,8,8,8,8,8,8,8,8,8,8,8,8,8,8,8,8,8,8,8,8,8,8,8,8,8,8,8,8,8,8,8,8,8,8,8,8,8,8,8,8,8,8,8,8,8,8,8,8,8,8,8,8,8,8,8,8,8,8,8,8,8,8,8,8,8,8,8,8,8,8,8,8,8,8,8,8,8,8,8,8,8,8,8,8,8,8]).data.getD (Int.toNat (IntKind.u8.wrap j2.2)) 0).toNat:Int))))
  else none
def zC0 (a0:Int):Option Int:=
 (zET a0)>>=fun r1=>
 some (IntKind.i64.wrap (64-r1))
def zBR (a1:Int) (a2:Int) (r3:Int) (y4:Int) (x0:Int) (x1:Int):Option Int:=
 ((
  if x1≥4294967296 then
   some true
  else
   some (decide ((IntKind.u64.wrap (x1*(bAnd .u64 (sShl .u64 a2 (IntKind.u64.wrap r3)) 4294967295)))>(IntKind.u64.wrap ((IntKind.u64.wrap (4294967296*x0))+(sShr .u64 (sShl .u64 a1 (IntKind.u64.wrap r3)) 32)))))):Option Bool)>>=fun j10=>
 if j10=true then
  some (IntKind.u64.wrap (x0+(sShr .u64 (sShl .u64 a2 (IntKind.u64.wrap r3)) 32)))>>=fun y11=>
  if y11≥4294967296 then
   some (IntKind.u64.wrap (x1-1))
  else
   zBR a1 a2 r3 y4 y11 (IntKind.u64.wrap (x1-1))
 else
  some x1
 partial_fixpoint
def zBU (a1:Int) (a2:Int) (r3:Int) (j13:Int) (y14:Int) (x0:Int) (x1:Int):Option Int:=
 ((
  if x1≥4294967296 then
   some true
  else
   some (decide ((IntKind.u64.wrap (x1*(bAnd .u64 (sShl .u64 a2 (IntKind.u64.wrap r3)) 4294967295)))>(IntKind.u64.wrap ((IntKind.u64.wrap (4294967296*x0))+(bAnd .u64 (sShl .u64 a1 (IntKind.u64.wrap r3)) 4294967295)))))):Option Bool)>>=fun j20=>
 if j20=true then
  some (IntKind.u64.wrap (x0+(sShr .u64 (sShl .u64 a2 (IntKind.u64.wrap r3)) 32)))>>=fun y21=>
  if y21≥4294967296 then
   some (IntKind.u64.wrap (x1-1))
  else
   zBU a1 a2 r3 j13 y14 y21 (IntKind.u64.wrap (x1-1))
 else
  some x1
 partial_fixpoint
def zEe (a0:Int) (a1:Int) (a2:Int):Option (Int×Int):=
 ((
  if a2=0 then
   none
  else
   some ()):Option Unit)>>=fun j1=>
 ((
  if a2≤a0 then
   none
  else
   some ()):Option Unit)>>=fun j2=>
 if a0=0 then
  if a2≠0 then
   if a2≠0 then
    some (IntKind.u64.wrap (Int.tdiv a1 a2),Int.tmod a1 a2)
   else none
  else none
 else
  (zC0 a2)>>=fun r3=>
  if 0≤IntKind.u64.wrap r3 then
   if 0≤IntKind.u64.wrap r3 then
    if 0≤IntKind.u64.wrap (64-(IntKind.u64.wrap r3)) then
     some (bOr .u64 (sShl .u64 a0 (IntKind.u64.wrap r3)) (sShr .u64 a1 (IntKind.u64.wrap (64-(IntKind.u64.wrap r3)))))>>=fun y4=>
     if 0≤IntKind.u64.wrap r3 then
      if sShr .u64 (sShl .u64 a2 (IntKind.u64.wrap r3)) 32≠0 then
       some (IntKind.u64.wrap (Int.tdiv y4 (sShr .u64 (sShl .u64 a2 (IntKind.u64.wrap r3)) 32)))>>=fun y6=>
       some (IntKind.u64.wrap (y4-(IntKind.u64.wrap (y6*(sShr .u64 (sShl .u64 a2 (IntKind.u64.wrap r3)) 32)))))>>=fun y8=>
       (zBR a1 a2 r3 y4 y8 y6)>>=fun j13=>
       some (IntKind.u64.wrap ((IntKind.u64.wrap ((IntKind.u64.wrap (y4*4294967296))+(sShr .u64 (sShl .u64 a1 (IntKind.u64.wrap r3)) 32)))-(IntKind.u64.wrap (j13*(sShl .u64 a2 (IntKind.u64.wrap r3))))))>>=fun y14=>
       if sShr .u64 (sShl .u64 a2 (IntKind.u64.wrap r3)) 32≠0 then
        some (IntKind.u64.wrap (Int.tdiv y14 (sShr .u64 (sShl .u64 a2 (IntKind.u64.wrap r3)) 32)))>>=fun y16=>
        some (IntKind.u64.wrap (y14-(IntKind.u64.wrap (y16*(sShr .u64 (sShl .u64 a2 (IntKind.u64.wrap r3)) 32)))))>>=fun y18=>
        (zBU a1 a2 r3 j13 y14 y18 y16)>>=fun j23=>
        some (IntKind.u64.wrap ((IntKind.u64.wrap (j13*4294967296))+j23))>>=fun y24=>
        some (IntKind.u64.wrap ((IntKind.u64.wrap ((IntKind.u64.wrap (y14*4294967296))+(bAnd .u64 (sShl .u64 a1 (IntKind.u64.wrap r3)) 4294967295)))-(IntKind.u64.wrap (j23*(sShl .u64 a2 (IntKind.u64.wrap r3))))))>>=fun y26=>
        if 0≤IntKind.u64.wrap r3 then
         some (y24,sShr .u64 y26 (IntKind.u64.wrap r3))
        else none
       else none
      else none
     else none
    else none
   else none
  else none
def zGp (a0:Int) (a1:Int) (a2:Int):Option (Int×Int):=
 (zF4 a2)>>=fun r1=>
 ((
  if r1=false then
   some true
  else
   some (a1==0)):Option Bool)>>=fun j2=>
 if j2=true then
  some (0,1)
 else
  if 0≤a2 then
   (zGC a0)>>=fun r3=>
   (zDx r3 (sShl .u64 1 a2))>>=fun r4=>
   (zGC a1)>>=fun r5=>
   if r4.1≥r5 then
    some (0,2)
   else
    (zGC a1)>>=fun r6=>
    (zEe r4.1 r4.2 r6)>>=fun r7=>
    if (decide (a0<0))≠(decide (a1<0)) then
     if r7.2>0 then
      if r7.1≥(IntKind.u64.wrap (9223372036854775807+1)) then
       some (0,2)
      else
       if (IntKind.u64.wrap (r7.1+1))>(IntKind.u64.wrap (9223372036854775807+1)) then
        some (0,2)
       else
        some (IntKind.i64.wrap (IntKind.u64.wrap (0-(IntKind.u64.wrap (r7.1+1)))),0)
     else
      if r7.1>(IntKind.u64.wrap (9223372036854775807+1)) then
       some (0,2)
      else
       some (IntKind.i64.wrap (IntKind.u64.wrap (0-r7.1)),0)
    else
     if r7.1>9223372036854775807 then
      some (0,2)
     else
      some (IntKind.i64.wrap r7.1,0)
  else none
def zJp (a0:Int) (a1:Int):Option (Int×Int):=
 (zGp a0 a1 0)>>=fun r1=>
 some (r1.1,r1.2)
def zC1 (a0:Int) (r1:(List Int)×Int) (x0:Int) (x1:List Int):Option (Sum ((List Int)×Int) (List Int)):=
 if x0<(r1.1.length:Int) then
  if 0≤x0∧x0<(x1.length:Int) then
   (zJp (at' x1 x0) a0)>>=fun r2=>
   if 0≤x0∧x0<(x1.length:Int) then
    some (x1.set (Int.toNat x0) r2.1)>>=fun y3=>
    if r2.2≠0 then
     some (.inl ([],r2.2))
    else
     zC1 a0 r1 (IntKind.i64.wrap (x0+1)) y3
   else none
  else none
 else
  some (.inr x1)
 partial_fixpoint
def zEa (a0:Int) (a1:List (List Int)):Option ((List Int)×Int):=
 if a0<1 then
  some ([],1)
 else
  (zIJ a1)>>=fun r1=>
  if r1.2≠0 then
   some ([],r1.2)
  else
   (zC1 a0 r1 0 r1.1)>>=fun e=>match e with
   | .inl r=>some r
   | .inr j5=>
    some (j5,0)
def zG7 (a0:List Int) (a1:Int) (a2:List zAa):Option ((List Int)×Int):=
 (zD0 a0 a1 a2 a1 [])>>=fun r1=>
 if r1.1≠0 then
  some ([],r1.1)
 else
  (zEa (a2.length:Int) r1.2.2)>>=fun r2=>
  some (r2.1,r2.2)
def zCE (a0:zAv) (a1:List Int) (a2:List zAa):Option ((List Int)×Int):=
 (zG7 a1 a0.F_Model.F_Frac a2)>>=fun r1=>
 some (r1.1,r1.2)
def zB0 (a0:List Int) (a1:Int):Option ((List Int)×Int):=
 if a1<1 then
  none
 else
  some (a0,a1)
def zGW (a0:Int) (a1:List Int):Option ((List (List Int))×Int):=
 (zFe a0)>>=fun r1=>
 if r1=false then
  some ([],1)
 else
  if a0≠0 then
   some (IntKind.i64.wrap ((IntKind.i64.wrap (Int.tdiv (a1.length:Int) a0))-1))>>=fun y2=>
   (zD2 y2)>>=fun r4=>
   ((
    if r4.2≠0 then
     some true
    else
     some (IntKind.i64.wrap ((IntKind.i64.wrap (Int.tdiv (a1.length:Int) a0))*a0))>>=fun y5=>
     some (y5 !=(a1.length:Int))):Option Bool)>>=fun j7=>
   if j7=true then
    some ([],4)
   else
    (zB0 a1 (IntKind.i64.wrap (Int.tdiv (a1.length:Int) a0)))>>=fun r8=>
    (if 1≤r8.2∧r8.2≤4611686018427387904∧r8.1.length≤4611686018427387904 then List.foldlM (fun (x_9:(List (List Int))) (c_10:List Int)=>((
     (zBk c_10)>>=fun r11=>
     if room 24 (x_9++[r11]).length then
      some (x_9++[r11])
     else none):Option (List (List Int)))) [] (zEx (Int.toNat r8.2) r8.1) else none)>>=fun j12=>
    some (j12,0)
  else none
def zKH (a0:Int) (a1:List Int) (a2:List zAa):Option Int:=
 (zGW a0 a1)>>=fun r1=>
 if r1.2≠0 then
  some r1.2
 else
  if 0≤(0:Int)∧(0:Int)<(r1.1.length:Int) then
   (zFd (IntKind.i64.wrap (((at' r1.1 0).length:Int)-1)) a0 a1 a2)>>=fun r2=>
   some r2
  else none
def zB8 (a2:List Int) (a3:Int) (r1:(List (List Int))×Int) (x0:Int) (x1:List Int):Option (Sum ((List Int)×Int) (List Int)):=
 if x0<(r1.1.length:Int) then
  if 0≤x0∧x0<(r1.1.length:Int) then
   (zCW (at' r1.1 x0) a2 a3)>>=fun r5=>
   if 0≤x0∧x0<(x1.length:Int) then
    some (x1.set (Int.toNat x0) r5.1)>>=fun y6=>
    if r5.2≠0 then
     some (.inl ([],r5.2))
    else
     zB8 a2 a3 r1 (IntKind.i64.wrap (x0+1)) y6
   else none
  else none
 else
  some (.inr x1)
 partial_fixpoint
def zHE (a0:Int) (a1:List Int) (a2:List Int) (a3:Int):Option ((List Int)×Int):=
 (zGW a0 a1)>>=fun r1=>
 if r1.2≠0 then
  some ([],r1.2)
 else
  if 0≤(0:Int)∧(0:Int)<(r1.1.length:Int) then
   if (IntKind.i64.wrap (((at' r1.1 0).length:Int)-1))≠(a2.length:Int) then
    some ([],4)
   else
    ((
     if a3<0 then
      some true
     else
      some (decide (a3>30))):Option Bool)>>=fun j2=>
    if j2=true then
     some ([],1)
    else
     if 0≤a0∧a0≤a0∧a0≤140737488355328∧a0*((8:Nat):Int)≤140737488355328 then
      some (List.replicate (Int.toNat a0) 0)>>=fun y3=>
      (zB8 a2 a3 r1 0 y3)>>=fun e=>match e with
      | .inl r=>some r
      | .inr j8=>
       some (j8,0)
     else none
  else none
def zBg (a0:List Int) (x0:Int) (x1:Int):Option Int:=
 if x0<(a0.length:Int) then
  if 0≤x0∧x0<(a0.length:Int) then
   zBg a0 (IntKind.i64.wrap (x0+1)) (if (at' a0 x0)>x1 then at' a0 x0 else x1)
  else none
 else
  some x1
 partial_fixpoint
def zEs (a0:List Int):Option Int:=
 ((
  if (a0.length:Int)<1 then
   none
  else
   some ()):Option Unit)>>=fun j1=>
 if 0≤(0:Int)∧(0:Int)<(a0.length:Int) then
  (zBg a0 1 (at' a0 0))>>=fun j2=>
  some j2
 else none
def zBl (a0:List Int) (a1:Int) (x0:Int):Option (Sum Int Unit):=
 if x0<(a0.length:Int) then
  if 0≤x0∧x0<(a0.length:Int) then
   if a1=(at' a0 x0) then
    some (.inl x0)
   else
    zBl a0 a1 (IntKind.i64.wrap (x0+1))
  else none
 else
  some (.inr ())
 partial_fixpoint
def zD9 (a0:List Int) (a1:Int):Option Int:=
 (zBl a0 a1 0)>>=fun e=>match e with
 | .inl r=>some r
 | .inr j1=>
  some (-1)
def zGc (a0:List Int):Option (Int×Int):=
 if (a0.length:Int)=0 then
  some (0,1)
 else
  (zDO a0)>>=fun r1=>
  if r1≠0 then
   some (0,r1)
  else
   (zEs a0)>>=fun r2=>
   (zD9 a0 r2)>>=fun r3=>
   some (r3,0)
def zKp (a0:Int):Option (Int×Int):=
 (zEH 0 a0)>>=fun r1=>
 some (r1.1,r1.2)
def zEB (a0:Int) (x0:Int):Option Int:=
 if (IntKind.u64.wrap (x0*x0))>a0 then
  zEB a0 (IntKind.u64.wrap (x0-1))
 else
  some x0
 partial_fixpoint
def zED (a0:Int) (x0:Int):Option Int:=
 ((
  if x0<4294967295 then
   some (decide ((IntKind.u64.wrap ((IntKind.u64.wrap (x0+1))*(IntKind.u64.wrap (x0+1))))≤a0))
  else
   some false):Option Bool)>>=fun j5=>
 if j5=true then
  zED a0 (IntKind.u64.wrap (x0+1))
 else
  some x0
 partial_fixpoint
def zAz (a0:Int):Option Int:=
 (zG5 (floatOfInt .f64 a0))>>=fun r1=>
 if (floatToIntVal .f64 r1 .u64).isSome=true then
  some (if (4294967295:Int)<((floatToIntVal .f64 r1 .u64).getD 0) then 4294967295 else (floatToIntVal .f64 r1 .u64).getD 0)>>=fun y2=>
  (zEB a0 y2)>>=fun j4=>
  (zED a0 j4)>>=fun j6=>
  some j6
 else none
def zHG:Option (Int×Int×Int×Int×Int×Int×Int×Int×Int×Int×Int×Int×Int×Int×Int×Int×Int):=
 (zAz 576460752303423488)>>=fun r1=>
 (zAz (IntKind.u64.wrap (1073741824*r1)))>>=fun r2=>
 (zAz (IntKind.u64.wrap (r1*536870912)))>>=fun r3=>
 (zAz (IntKind.u64.wrap (1073741824*r2)))>>=fun r4=>
 (zAz (IntKind.u64.wrap (r2*r1)))>>=fun r5=>
 (zAz (IntKind.u64.wrap (r1*r3)))>>=fun r6=>
 (zAz (IntKind.u64.wrap (r3*536870912)))>>=fun r7=>
 (zAz (IntKind.u64.wrap (1073741824*r4)))>>=fun r8=>
 (zAz (IntKind.u64.wrap (r4*r2)))>>=fun r9=>
 (zAz (IntKind.u64.wrap (r2*r5)))>>=fun r10=>
 (zAz (IntKind.u64.wrap (r5*r1)))>>=fun r11=>
 (zAz (IntKind.u64.wrap (r1*r6)))>>=fun r12=>
 (zAz (IntKind.u64.wrap (r6*r3)))>>=fun r13=>
 (zAz (IntKind.u64.wrap (r3*r7)))>>=fun r14=>
 (zAz (IntKind.u64.wrap (r7*536870912)))>>=fun r15=>
 some (1073741824,r8,r4,r9,r2,r10,r5,r11,r1,r12,r6,r13,r3,r14,r7,r15,536870912)
def zFM (a0:Int) (a1:Int):Option (Int×Int):=
 ((
  if a1<0 then
   some true
  else
   some (decide (a1>30))):Option Bool)>>=fun j1=>
 ((
  if j1=true then
   some true
  else
   some (decide (a0>0))):Option Bool)>>=fun j2=>
 if j2=true then
  some (0,1)
 else
  (zKp a0)>>=fun r3=>
  if r3.2≠0 then
   some (0,r3.2)
  else
   if 0≤a1 then
    some (sShl .i64 (bAnd .i64 r3.1 (IntKind.i64.wrap ((sShl .i64 1 a1)-1))) 4)>>=fun y4=>
    if 0≤a1 then
     (zHG)>>=fun r6=>
     if 0≤sShr .i64 y4 a1∧sShr .i64 y4 a1<((17:Nat):Int) then
      if 0≤a1 then
       if 0≤if (63:Int)<(IntKind.u64.wrap ((IntKind.u64.wrap (sShr .i64 r3.1 a1))+(IntKind.u64.wrap (IntKind.i64.wrap (30-a1))))) then 63 else IntKind.u64.wrap ((IntKind.u64.wrap (sShr .i64 r3.1 a1))+(IntKind.u64.wrap (IntKind.i64.wrap (30-a1)))) then
        some (IntKind.i64.wrap (sShr .u64 (at' ([r6.1,r6.2.1,r6.2.2.1,r6.2.2.2.1,r6.2.2.2.2.1,r6.2.2.2.2.2.1,r6.2.2.2.2.2.2.1,r6.2.2.2.2.2.2.2.1,r6.2.2.2.2.2.2.2.2.1,r6.2.2.2.2.2.2.2.2.2.1,r6.2.2.2.2.2.2.2.2.2.2.1,r6.2.2.2.2.2.2.2.2.2.2.2.1,r6.2.2.2.2.2.2.2.2.2.2.2.2.1,r6.2.2.2.2.2.2.2.2.2.2.2.2.2.1,r6.2.2.2.2.2.2.2.2.2.2.2.2.2.2.1,r6.2.2.2.2.2.2.2.2.2.2.2.2.2.2.2.1,r6.2.2.2.2.2.2.2.2.2.2.2.2.2.2.2.2]:List Int) (sShr .i64 y4 a1)) (if (63:Int)<(IntKind.u64.wrap ((IntKind.u64.wrap (sShr .i64 r3.1 a1))+(IntKind.u64.wrap (IntKind.i64.wrap (30-a1))))) then 63 else IntKind.u64.wrap ((IntKind.u64.wrap (sShr .i64 r3.1 a1))+(IntKind.u64.wrap (IntKind.i64.wrap (30-a1)))))),0)
       else none
      else none
     else none
    else none
   else none
def zEF (a0:Int) (a1:List Int) (r1:Int×Int) (x0:Int) (x1:Int) (x2:List Int):Option (Sum ((List Int)×Int) (Int×(List Int))):=
 if x0<(a1.length:Int) then
  if 0≤x0∧x0<(a1.length:Int) then
   if 0≤r1.1∧r1.1<(a1.length:Int) then
    (zEH (at' a1 x0) (at' a1 r1.1))>>=fun r4=>
    if r4.2=0 then
     (zFM r4.1 a0)>>=fun r5=>
     if 0≤x0∧x0<(x2.length:Int) then
      some (x2.set (Int.toNat x0) r5.1)>>=fun y6=>
      if r5.2≠0 then
       some (.inl ([],r5.2))
      else
       if 0≤x0∧x0<(y6.length:Int) then
        zEF a0 a1 r1 (IntKind.i64.wrap (x0+1)) (IntKind.i64.wrap (x1+(at' y6 x0))) y6
       else none
     else none
    else
     if r4.2≠0 then
      some (.inl ([],r4.2))
     else
      if 0≤x0∧x0<(x2.length:Int) then
       zEF a0 a1 r1 (IntKind.i64.wrap (x0+1)) (IntKind.i64.wrap (x1+(at' x2 x0))) x2
      else none
   else none
  else none
 else
  some (.inr (x1,x2))
 partial_fixpoint
def zFX (a0:Int) (j8:Int×(List Int)) (x0:Int) (x1:List Int):Option (Sum ((List Int)×Int) (List Int)):=
 if x0<(j8.2.length:Int) then
  if 0≤x0∧x0<(x1.length:Int) then
   (zGp (at' x1 x0) j8.1 a0)>>=fun r9=>
   if 0≤x0∧x0<(x1.length:Int) then
    some (x1.set (Int.toNat x0) r9.1)>>=fun y10=>
    if r9.2≠0 then
     some (.inl ([],r9.2))
    else
     zFX a0 j8 (IntKind.i64.wrap (x0+1)) y10
   else none
  else none
 else
  some (.inr x1)
 partial_fixpoint
def zCD (a0:Int) (a1:List Int) (r1:Int×Int) (x0:Int) (x1:Int) (x2:List Int):Option (Sum ((List Int)×Int) (Int×(List Int))):=
 if x0<(a1.length:Int) then
  if 0≤x0∧x0<(a1.length:Int) then
   if 0≤r1.1∧r1.1<(a1.length:Int) then
    (zEH (at' a1 x0) (at' a1 r1.1))>>=fun r16=>
    if r16.2=0 then
     (zFM r16.1 a0)>>=fun r17=>
     if 0≤x0∧x0<(x2.length:Int) then
      some (x2.set (Int.toNat x0) r17.1)>>=fun y18=>
      if r17.2≠0 then
       some (.inl ([],r17.2))
      else
       if 0≤x0∧x0<(y18.length:Int) then
        zCD a0 a1 r1 (IntKind.i64.wrap (x0+1)) (IntKind.i64.wrap (x1+(at' y18 x0))) y18
       else none
     else none
    else
     if r16.2≠0 then
      some (.inl ([],r16.2))
     else
      if 0≤x0∧x0<(x2.length:Int) then
       zCD a0 a1 r1 (IntKind.i64.wrap (x0+1)) (IntKind.i64.wrap (x1+(at' x2 x0))) x2
      else none
   else none
  else none
 else
  some (.inr (x1,x2))
 partial_fixpoint
def zCH (a0:Int) (j20:Int×(List Int)) (x0:Int) (x1:List Int):Option (Sum ((List Int)×Int) (List Int)):=
 if x0<(j20.2.length:Int) then
  if 0≤x0∧x0<(x1.length:Int) then
   (zGp (at' x1 x0) j20.1 a0)>>=fun r21=>
   if 0≤x0∧x0<(x1.length:Int) then
    some (x1.set (Int.toNat x0) r21.1)>>=fun y22=>
    if r21.2≠0 then
     some (.inl ([],r21.2))
    else
     zCH a0 j20 (IntKind.i64.wrap (x0+1)) y22
   else none
  else none
 else
  some (.inr x1)
 partial_fixpoint
def zEz (a0:Int) (a1:List Int) (r1:Int×Int) (x0:Int) (x1:Int) (x2:List Int):Option (Sum ((List Int)×Int) (Int×(List Int))):=
 if x0<(a1.length:Int) then
  if 0≤x0∧x0<(a1.length:Int) then
   if 0≤r1.1∧r1.1<(a1.length:Int) then
    (zEH (at' a1 x0) (at' a1 r1.1))>>=fun r27=>
    if r27.2=0 then
     (zFM r27.1 a0)>>=fun r28=>
     if 0≤x0∧x0<(x2.length:Int) then
      some (x2.set (Int.toNat x0) r28.1)>>=fun y29=>
      if r28.2≠0 then
       some (.inl ([],r28.2))
      else
       if 0≤x0∧x0<(y29.length:Int) then
        zEz a0 a1 r1 (IntKind.i64.wrap (x0+1)) (IntKind.i64.wrap (x1+(at' y29 x0))) y29
       else none
     else none
    else
     if r27.2≠0 then
      some (.inl ([],r27.2))
     else
      if 0≤x0∧x0<(x2.length:Int) then
       zEz a0 a1 r1 (IntKind.i64.wrap (x0+1)) (IntKind.i64.wrap (x1+(at' x2 x0))) x2
      else none
   else none
  else none
 else
  some (.inr (x1,x2))
 partial_fixpoint
def zFZ (a0:Int) (j31:Int×(List Int)) (x0:Int) (x1:List Int):Option (Sum ((List Int)×Int) (List Int)):=
 if x0<(j31.2.length:Int) then
  if 0≤x0∧x0<(x1.length:Int) then
   (zGp (at' x1 x0) j31.1 a0)>>=fun r32=>
   if 0≤x0∧x0<(x1.length:Int) then
    some (x1.set (Int.toNat x0) r32.1)>>=fun y33=>
    if r32.2≠0 then
     some (.inl ([],r32.2))
    else
     zFZ a0 j31 (IntKind.i64.wrap (x0+1)) y33
   else none
  else none
 else
  some (.inr x1)
 partial_fixpoint
def zHM (a0:Int) (a1:List Int):Option ((List Int)×Int):=
 (zGc a1)>>=fun r1=>
 if r1.2=0 then
  if a0<0 then
   if 1≠0 then
    some ([],1)
   else
    if 0≤(a1.length:Int)∧(a1.length:Int)≤(a1.length:Int)∧(a1.length:Int)≤140737488355328∧(a1.length:Int)*((8:Nat):Int)≤140737488355328 then
     some (List.replicate (Int.toNat (a1.length:Int)) 0)>>=fun y2=>
     (zEF a0 a1 r1 0 0 y2)>>=fun e=>match e with
     | .inl r=>some r
     | .inr j8=>
      (zFX a0 j8 0 j8.2)>>=fun e=>match e with
      | .inl r=>some r
      | .inr j12=>
       some (j12,0)
    else none
  else
   ((
    if a0>30 then
     some 1
    else
     some r1.2):Option Int)>>=fun j13=>
   if j13≠0 then
    some ([],j13)
   else
    if 0≤(a1.length:Int)∧(a1.length:Int)≤(a1.length:Int)∧(a1.length:Int)≤140737488355328∧(a1.length:Int)*((8:Nat):Int)≤140737488355328 then
     some (List.replicate (Int.toNat (a1.length:Int)) 0)>>=fun y14=>
     (zCD a0 a1 r1 0 0 y14)>>=fun e=>match e with
     | .inl r=>some r
     | .inr j20=>
      (zCH a0 j20 0 j20.2)>>=fun e=>match e with
      | .inl r=>some r
      | .inr j24=>
       some (j24,0)
    else none
 else
  if r1.2≠0 then
   some ([],r1.2)
  else
   if 0≤(a1.length:Int)∧(a1.length:Int)≤(a1.length:Int)∧(a1.length:Int)≤140737488355328∧(a1.length:Int)*((8:Nat):Int)≤140737488355328 then
    some (List.replicate (Int.toNat (a1.length:Int)) 0)>>=fun y25=>
    (zEz a0 a1 r1 0 0 y25)>>=fun e=>match e with
    | .inl r=>some r
    | .inr j31=>
     (zFZ a0 j31 0 j31.2)>>=fun e=>match e with
     | .inl r=>some r
     | .inr j35=>
      some (j35,0)
   else none
def zG0 (a0:Int) (a1:List Int) (a2:List Int) (a3:Int):Option ((List Int)×Int):=
 (zHE a0 a1 a2 a3)>>=fun r1=>
 if r1.2≠0 then
  some ([],r1.2)
 else
  (zHM a3 r1.1)>>=fun r2=>
  some (r2.1,r2.2)
def zHX (a0:Int) (a1:List Int) (a2:zAa) (a3:Int):Option ((List Int)×Int):=
 (zG0 a0 a1 a2.F_X a3)>>=fun r1=>
 if r1.2=0 then
  if a2.F_Y<0 then
   if 1≠0 then
    some ([],1)
   else
    if 0≤a2.F_Y∧a2.F_Y<(r1.1.length:Int) then
     if 0≤a3 then
      if 0≤a2.F_Y∧a2.F_Y<(r1.1.length:Int) then
       some (r1.1.set (Int.toNat a2.F_Y) (IntKind.i64.wrap ((at' r1.1 a2.F_Y)-(sShl .i64 1 a3))),0)
      else none
     else none
    else none
  else
   ((
    if a2.F_Y≥a0 then
     some 1
    else
     some r1.2):Option Int)>>=fun j2=>
   if j2≠0 then
    some ([],j2)
   else
    if 0≤a2.F_Y∧a2.F_Y<(r1.1.length:Int) then
     if 0≤a3 then
      if 0≤a2.F_Y∧a2.F_Y<(r1.1.length:Int) then
       some (r1.1.set (Int.toNat a2.F_Y) (IntKind.i64.wrap ((at' r1.1 a2.F_Y)-(sShl .i64 1 a3))),0)
      else none
     else none
    else none
 else
  if r1.2≠0 then
   some ([],r1.2)
  else
   if 0≤a2.F_Y∧a2.F_Y<(r1.1.length:Int) then
    if 0≤a3 then
     if 0≤a2.F_Y∧a2.F_Y<(r1.1.length:Int) then
      some (r1.1.set (Int.toNat a2.F_Y) (IntKind.i64.wrap ((at' r1.1 a2.F_Y)-(sShl .i64 1 a3))),0)
     else none
    else none
   else none
def zDJ (a0:zAa) (a1:List Int) (a2:Int) (x0:Int) (x1:List Int):Option (Sum ((List Int)×Int) (List Int)):=
 if x0<(a1.length:Int) then
  if 0≤x0∧x0<(a1.length:Int) then
   (zFV a0.F_X (at' a1 x0) a2)>>=fun r1=>
   if r1.2≠0 then
    some (.inl ([],r1.2))
   else
    if room 8 (x1++r1.1).length then
     if room 8 ((x1++r1.1)++[at' a1 x0]).length then
      some ((x1++r1.1)++[at' a1 x0])>>=fun y2=>
      zDJ a0 a1 a2 (IntKind.i64.wrap (x0+1)) y2
     else none
    else none
  else none
 else
  some (.inr x1)
 partial_fixpoint
def zIj (a0:zAa) (a1:List Int) (a2:Int):Option ((List Int)×Int):=
 (zDJ a0 a1 a2 0 [])>>=fun e=>match e with
 | .inl r=>some r
 | .inr j4=>
  some (j4,0)
def zBw (a0:Int) (a1:List Int) (a2:Int) (a3:List zAa) (x0:Int) (x1:List (List Int)) (x2:Int):Option ((List (List Int))×Int):=
 if x0<(a3.length:Int) then
  if 0≤x0∧x0<(a3.length:Int) then
   ((
    if x2=0 then
     (zHX a0 a1 (at' a3 x0) a2)>>=fun r2=>
     some (r2.2,r2.1)
    else
     some (x2,[])):Option (Int×(List Int)))>>=fun j3=>
   if j3.1=0 then
    (zIj (at' a3 x0) j3.2 a2)>>=fun r4=>
    if room 24 (x1++[r4.1]).length then
     zBw a0 a1 a2 a3 (IntKind.i64.wrap (x0+1)) (x1++[r4.1]) r4.2
    else none
   else
    if room 24 (x1++[[]]).length then
     zBw a0 a1 a2 a3 (IntKind.i64.wrap (x0+1)) (x1++[[]]) j3.1
    else none
  else none
 else
  some (x1,x2)
 partial_fixpoint
def zIi (a0:Int) (a1:List Int) (a2:Int) (a3:List zAa):Option ((List Int)×Int):=
 (zKH a0 a1 a3)>>=fun r1=>
 (zBw a0 a1 a2 a3 0 [] r1)>>=fun j5=>
 if j5.2≠0 then
  some ([],j5.2)
 else
  (zEa (a3.length:Int) j5.1)>>=fun r6=>
  some (r6.1,r6.2)
def zCU (a0:zAx) (a1:List Int) (a2:List zAa):Option ((List Int)×Int):=
 (zIi a0.F_Model.F_Out a1 a0.F_Model.F_Frac a2)>>=fun r1=>
 some (r1.1,r1.2)
def zIp (a0:Int) (a1:List Int):Option ((List Int)×(List (List Int))×Int×Int):=
 (zG6 a0)>>=fun r1=>
 if r1=false then
  some ([],[],0,1)
 else
  if a0≠0 then
   some (IntKind.i64.wrap ((IntKind.i64.wrap (Int.tdiv (IntKind.i64.wrap ((a1.length:Int)-1)) a0))-1))>>=fun y2=>
   (zHx (IntKind.i64.wrap (y2-1)) a0)>>=fun r4=>
   ((
    if r4.2≠0 then
     some true
    else
     some (r4.1 !=(a1.length:Int))):Option Bool)>>=fun j5=>
   if j5=true then
    some ([],[],0,4)
   else
    if cutOk (some (IntKind.i64.wrap (a0*y2))) none a1.length then
     some (cut' a1 (some (IntKind.i64.wrap (a0*y2))) none)>>=fun y6=>
     if cutOk none (some (IntKind.i64.wrap (a0*y2))) a1.length then
      some (cut' a1 none (some (IntKind.i64.wrap (a0*y2))))>>=fun y8=>
      (zB0 y8 y2)>>=fun r10=>
      (if 1≤r10.2∧r10.2≤4611686018427387904∧r10.1.length≤4611686018427387904 then List.foldlM (fun (x_11:(List (List Int))) (c_12:List Int)=>((
       if room 24 (x_11++[c_12]).length then
        some (x_11++[c_12])
       else none):Option (List (List Int)))) [] (zEx (Int.toNat r10.2) r10.1) else none)>>=fun j13=>
      some (y6,j13,IntKind.i64.wrap (y2-1),0)
     else none
    else none
  else none
def zEc (r2:(List Int)) (x0:Int) (x1:List Int):Option (List Int):=
 if x0<(r2.length:Int) then
  if 0≤x0∧x0<(x1.length:Int) then
   if 0≤x0∧x0<(x1.length:Int) then
    some (x1.set (Int.toNat x0) (if (0:Int)>(at' x1 x0) then 0 else at' x1 x0))>>=fun y3=>
    zEc r2 (IntKind.i64.wrap (x0+1)) y3
   else none
  else none
 else
  some x1
 partial_fixpoint
def zJG (a0:List Int):Option ((List Int)×Int):=
 (zDO a0)>>=fun r1=>
 if r1≠0 then
  some ([],r1)
 else
  (zBk a0)>>=fun r2=>
  (zEc r2 0 r2)>>=fun j5=>
  some (j5,0)
def zA3 (a0:zBf) (a1:List Int) (a2:Int) (x0:Int) (x1:List Int):Option (Sum ((List Int)×Int) (List Int)):=
 if x0<(a0.F_rows.length:Int) then
  if 0≤x0∧x0<(a0.F_rows.length:Int) then
   (zCW (at' a0.F_rows x0) a1 a2)>>=fun r4=>
   if 0≤x0∧x0<(x1.length:Int) then
    some (x1.set (Int.toNat x0) r4.1)>>=fun y5=>
    if r4.2≠0 then
     some (.inl ([],r4.2))
    else
     zA3 a0 a1 a2 (IntKind.i64.wrap (x0+1)) y5
   else none
  else none
 else
  some (.inr x1)
 partial_fixpoint
def zDP (a0:zBf) (a1:List Int) (a2:Int):Option ((List Int)×Int):=
 if (a1.length:Int)≠a0.F_in then
  some ([],4)
 else
  ((
   if a2<0 then
    some true
   else
    some (decide (a2>30))):Option Bool)>>=fun j1=>
  if j1=true then
   some ([],1)
  else
   if 0≤(a0.F_rows.length:Int)∧(a0.F_rows.length:Int)≤(a0.F_rows.length:Int)∧(a0.F_rows.length:Int)≤140737488355328∧(a0.F_rows.length:Int)*((8:Nat):Int)≤140737488355328 then
    some (List.replicate (Int.toNat (a0.F_rows.length:Int)) 0)>>=fun y2=>
    (zA3 a0 a1 a2 0 y2)>>=fun e=>match e with
    | .inl r=>some r
    | .inr j7=>
     (zJG j7)>>=fun r8=>
     some (r8.1,r8.2)
   else none
def zDr (a0:zBf) (a1:List Int) (a2:Int):Option ((List Int)×Int×Int):=
 (zDP a0 a1 a2)>>=fun r1=>
 if r1.2≠0 then
  some ([],0,r1.2)
 else
  (zCW a0.F_line.F_last r1.1 a2)>>=fun r2=>
  some (r1.1,r2.1,r2.2)
def zAN (a0:List Int) (a1:Int) (a2:Int) (a3:Int) (a4:List Int):Option (Int×Int×(List Int)):=
 if a2=0 then
  (zFV a0 a1 a3)>>=fun r1=>
  if room 8 (a4++r1.1).length then
   if room 8 ((a4++r1.1)++[a1]).length then
    some (r1.2,a3,(a4++r1.1)++[a1])
   else none
  else none
 else
  some (a2,a3,a4)
def zAG (a0:zBf) (a1:zAa) (r1:(List Int)×Int×Int) (r2:Int×Int) (x0:Int) (x1:Int) (x2:List Int) (x3:Int):Option (Int×(List Int)×Int):=
 if x0<(r1.1.length:Int) then
  if 0≤x0∧x0<(r1.1.length:Int) then
   ((
    if (at' r1.1 x0)>0 then
     some (x1==0)
    else
     some false):Option Bool)>>=fun j3=>
   if j3=true then
    if 0≤x0∧x0<(a0.F_line.F_last.length:Int) then
     (zGb r2.1 (at' a0.F_line.F_last x0) x3)>>=fun r4=>
     (zAN a1.F_X r4.1 r4.2 x3 x2)>>=fun r5=>
     zAG a0 a1 r1 r2 (IntKind.i64.wrap (x0+1)) r5.1 r5.2.2 r5.2.1
    else none
   else
    (zAN a1.F_X 0 x1 x3 x2)>>=fun r6=>
    zAG a0 a1 r1 r2 (IntKind.i64.wrap (x0+1)) r6.1 r6.2.2 r6.2.1
  else none
 else
  some (x1,x2,x3)
 partial_fixpoint
def zDn (a0:zBf) (a1:zAa) (a2:Int):Option ((List Int)×Int):=
 (zDr a0 a1.F_X a2)>>=fun r1=>
 if r1.2.2≠0 then
  some ([],r1.2.2)
 else
  (zEH r1.2.1 a1.F_Y)>>=fun r2=>
  if r2.2≠0 then
   some ([],r2.2)
  else
   (zAG a0 a1 r1 r2 0 r2.2 [] a2)>>=fun j7=>
   (zAN r1.1 r2.1 j7.1 j7.2.2 j7.2.1)>>=fun r8=>
   if r8.1≠0 then
    some ([],r8.1)
   else
    some (r8.2.2,0)
def zCY (a2:Int) (a3:List zAa) (r1:(List Int)×(List (List Int))×Int×Int) (x0:Int) (x1:List (List Int)):Option (Sum ((List Int)×Int) (List (List Int))):=
 if x0<(a3.length:Int) then
  if 0≤x0∧x0<(a3.length:Int) then
   (zDn (⟨(⟨r1.1⟩:zEG),r1.2.1,r1.2.2.1⟩:zBf) (at' a3 x0) a2)>>=fun r4=>
   if r4.2≠0 then
    some (.inl ([],r4.2))
   else
    if room 24 (x1++[r4.1]).length then
     zCY a2 a3 r1 (IntKind.i64.wrap (x0+1)) (x1++[r4.1])
    else none
  else none
 else
  some (.inr x1)
 partial_fixpoint
def zJI (a0:Int) (a1:List Int) (a2:Int) (a3:List zAa):Option ((List Int)×Int):=
 (zIp a0 a1)>>=fun r1=>
 ((
  if r1.2.2.2=0 then
   (zFQ r1.2.2.1 a0 a1 a3)>>=fun r2=>
   some r2
  else
   some r1.2.2.2):Option Int)>>=fun j3=>
 if j3≠0 then
  some ([],j3)
 else
  (zCY a2 a3 r1 0 [])>>=fun e=>match e with
  | .inl r=>some r
  | .inr j5=>
   (zEa (a3.length:Int) j5)>>=fun r6=>
   some (r6.1,r6.2)
def zDe (a0:zAD) (a1:List Int) (a2:List zAa):Option ((List Int)×Int):=
 (zJI a0.F_Model.F_Hid a1 a0.F_Model.F_Frac a2)>>=fun r1=>
 some (r1.1,r1.2)
def zHJ (a0:zAc) (a1:List Int) (a2:List zAa):Option ((List Int)×Int):=
 (zFx a0)>>=fun e=>match e with
 | .inl r1=>
  if r1.2=0 then
   none
  else
   if r1.2≠0 then
    some ([],r1.2)
   else
    none
 | .inr (.inl r2)=>
  if r2.2.2.2.2.2.2=0 then
   (zBO (⟨(⟨r2.1,r2.2.1,r2.2.2.1,r2.2.2.2.1,r2.2.2.2.2.1⟩:zAc)⟩:zAv) a1 a2)>>=fun r3=>
   if r3≠0 then
    some ([],r3)
   else
    (zCE (⟨(⟨r2.1,r2.2.1,r2.2.2.1,r2.2.2.2.1,r2.2.2.2.2.1⟩:zAc)⟩:zAv) a1 a2)>>=fun r4=>
    some (r4.1,r4.2)
  else
   if r2.2.2.2.2.2.2≠0 then
    some ([],r2.2.2.2.2.2.2)
   else
    (zCE (⟨(⟨r2.1,r2.2.1,r2.2.2.1,r2.2.2.2.1,r2.2.2.2.2.1⟩:zAc)⟩:zAv) a1 a2)>>=fun r5=>
    some (r5.1,r5.2)
 | .inr (.inr (.inl r6))=>
  if r6.2.2.2.2.2.2=0 then
   (zB1 (⟨(⟨r6.1,r6.2.1,r6.2.2.1,r6.2.2.2.1,r6.2.2.2.2.1⟩:zAc)⟩:zAx) a1 a2)>>=fun r7=>
   if r7≠0 then
    some ([],r7)
   else
    (zCU (⟨(⟨r6.1,r6.2.1,r6.2.2.1,r6.2.2.2.1,r6.2.2.2.2.1⟩:zAc)⟩:zAx) a1 a2)>>=fun r8=>
    some (r8.1,r8.2)
  else
   if r6.2.2.2.2.2.2≠0 then
    some ([],r6.2.2.2.2.2.2)
   else
    (zCU (⟨(⟨r6.1,r6.2.1,r6.2.2.1,r6.2.2.2.1,r6.2.2.2.2.1⟩:zAc)⟩:zAx) a1 a2)>>=fun r9=>
    some (r9.1,r9.2)
 | .inr (.inr (.inr r10))=>
  if r10.2.2.2.2.2.2=0 then
   (zCa (⟨(⟨r10.1,r10.2.1,r10.2.2.1,r10.2.2.2.1,r10.2.2.2.2.1⟩:zAc)⟩:zAD) a1 a2)>>=fun r11=>
   if r11≠0 then
    some ([],r11)
   else
    (zDe (⟨(⟨r10.1,r10.2.1,r10.2.2.1,r10.2.2.2.1,r10.2.2.2.2.1⟩:zAc)⟩:zAD) a1 a2)>>=fun r12=>
    some (r12.1,r12.2)
  else
   if r10.2.2.2.2.2.2≠0 then
    some ([],r10.2.2.2.2.2.2)
   else
    (zDe (⟨(⟨r10.1,r10.2.1,r10.2.2.1,r10.2.2.2.1,r10.2.2.2.2.1⟩:zAc)⟩:zAD) a1 a2)>>=fun r13=>
    some (r13.1,r13.2)
def zHP (a0:Int) (a1:Int):Option (Int×Int):=
 if a1<0 then
  some (0,1)
 else
  some (if a1<(if (IntKind.i64.wrap (0-a1))>a0 then IntKind.i64.wrap (0-a1) else a0) then a1 else if (IntKind.i64.wrap (0-a1))>a0 then IntKind.i64.wrap (0-a1) else a0,0)
def zHk (a0:Int) (a1:List Int) (a2:Int):Option (Int×Int):=
 if 0≤a0∧a0<(a1.length:Int) then
  (zHP (at' a1 a0) a2)>>=fun r1=>
  some (r1.1,r1.2)
 else none
def zA7 (a1:List Int) (a2:Int) (y1:List Int) (x0:Int) (x1:List Int):Option (Sum ((List Int)×Int) (List Int)):=
 if x0<(y1.length:Int) then
  (zHk x0 a1 a2)>>=fun r3=>
  if 0≤x0∧x0<(x1.length:Int) then
   some (x1.set (Int.toNat x0) r3.1)>>=fun y4=>
   if r3.2≠0 then
    some (.inl ([],r3.2))
   else
    zA7 a1 a2 y1 (IntKind.i64.wrap (x0+1)) y4
  else none
 else
  some (.inr x1)
 partial_fixpoint
def zEW (a0:Int) (a1:List Int) (a2:Int):Option ((List Int)×Int):=
 if 0≤a0∧a0≤a0∧a0≤140737488355328∧a0*((8:Nat):Int)≤140737488355328 then
  some (List.replicate (Int.toNat a0) 0)>>=fun y1=>
  (zA7 a1 a2 y1 0 y1)>>=fun e=>match e with
  | .inl r=>some r
  | .inr j6=>
   some (j6,0)
 else none
def zJj (a0:List Int) (a1:Int):Option ((List Int)×Int):=
 (zDO a0)>>=fun r1=>
 ((
  if r1=0 then
   (zHP 0 a1)>>=fun r2=>
   some r2.2
  else
   some r1):Option Int)>>=fun j3=>
 if j3≠0 then
  some ([],j3)
 else
  (zEW (a0.length:Int) a0 a1)>>=fun r4=>
  some (r4.1,r4.2)
def zHN (a0:zAc) (a1:List Int) (a2:Int) (a3:List zAa):Option ((List Int)×Int):=
 (zHJ a0 a1 a3)>>=fun r1=>
 if r1.2≠0 then
  some ([],r1.2)
 else
  (zJj r1.1 a2)>>=fun r2=>
  some (r2.1,r2.2)
def zDH (a0:zAl) (a3:List Int) (r1:(List Int)×Int) (x0:Int) (x1:List zAa):Option (List zAa):=
 if x0<(r1.1.length:Int) then
  if 0≤x0∧x0<(r1.1.length:Int) then
   if 0≤at' r1.1 x0∧at' r1.1 x0<(a0.F_L.length:Int) then
    if room 32 (x1++[at' a0.F_L (at' r1.1 x0)]).length then
     some (x1++[at' a0.F_L (at' r1.1 x0)])>>=fun y4=>
     zDH a0 a3 r1 (IntKind.i64.wrap (x0+1)) y4
    else none
   else none
  else none
 else
  some x1
 partial_fixpoint
def zG3 (a0:zAl) (a1:Int) (a2:Int) (a3:List Int):Option ((List Int)×Int):=
 (zCN a0 a1 a2)>>=fun r1=>
 if r1.2≠0 then
  some ([],r1.2)
 else
  if 0≤(0:Int)∧(0:Int)≤(r1.1.length:Int)∧(r1.1.length:Int)≤140737488355328∧(r1.1.length:Int)*((32:Nat):Int)≤140737488355328 then
   some (List.replicate (Int.toNat 0) (⟨[],0⟩:zAa))>>=fun y2=>
   (zDH a0 a3 r1 0 y2)>>=fun j6=>
   (zHN a0.F_M a3 a0.F_Clip j6)>>=fun r7=>
   some (r7.1,r7.2)
  else none
def zBt (a0:zAl) (a1:Int) (a2:Int) (a3:List Int) (r1:Bool) (r4:(List Int)×Int) (x0:Int) (x1:List Bool):Option (Sum Bool Unit):=
 if x0<(r4.1.length:Int) then
  if 0≤x0∧x0<(r4.1.length:Int) then
   ((
    if (at' r4.1 x0)<0 then
     some true
    else
     some (decide ((at' r4.1 x0)≥(x1.length:Int)))):Option Bool)>>=fun j8=>
   ((
    if j8=true then
     some true
    else
     if 0≤at' r4.1 x0∧at' r4.1 x0<(x1.length:Int) then
      some (at' x1 (at' r4.1 x0))
     else none):Option Bool)>>=fun j9=>
   if j9=true then
    some (.inl false)
   else
    if 0≤at' r4.1 x0∧at' r4.1 x0<(x1.length:Int) then
     some (x1.set (Int.toNat (at' r4.1 x0)) true)>>=fun y10=>
     zBt a0 a1 a2 a3 r1 r4 (IntKind.i64.wrap (x0+1)) y10
    else none
  else none
 else
  some (.inr ())
 partial_fixpoint
def zBs (a0:zAl) (r1:Bool) (r17:(List Int)×Int) (r19:Int×Int) (x0:Int):Option (Sum Bool Unit):=
 if x0<(r17.1.length:Int) then
  if 0≤x0∧x0<(r17.1.length:Int) then
   ((
    if (at' r17.1 x0)>a0.F_Clip then
     some true
    else
     some (decide ((at' r17.1 x0)<(IntKind.i64.wrap (0-a0.F_Clip))))):Option Bool)>>=fun j20=>
   if j20=true then
    some (.inl false)
   else
    zBs a0 r1 r17 r19 (IntKind.i64.wrap (x0+1))
  else none
 else
  some (.inr ())
 partial_fixpoint
def zFb (a0:zAl) (a1:Int) (a2:Int) (a3:List Int):Option Bool:=
 (zEQ)>>=fun r1=>
 if r1=false then
  some false
 else
  (zFn a0)>>=fun r2=>
  ((
   if r2=false then
    some true
   else
    some (decide ((a3.length:Int)>500))):Option Bool)>>=fun j3=>
  if j3=true then
   some r1
  else
   (zCN a0 a1 a2)>>=fun r4=>
   if r4.2≠0 then
    ((
     if r1=true then
      some ((r4.1.length:Int)==0)
     else
      some false):Option Bool)>>=fun j5=>
    some j5
   else
    if 0≤(a0.F_L.length:Int)∧(a0.F_L.length:Int)≤(a0.F_L.length:Int)∧(a0.F_L.length:Int)≤140737488355328∧(a0.F_L.length:Int)*((1:Nat):Int)≤140737488355328 then
     some (List.replicate (Int.toNat (a0.F_L.length:Int)) false)>>=fun y6=>
     (zBt a0 a1 a2 a3 r1 r4 0 y6)>>=fun e=>match e with
     | .inl r=>some r
     | .inr j12=>
      (zCN (⟨64,a0.F_M,a0.F_H,a0.F_Warm,0,a0.F_Mom,0,a0.F_Batch,a0.F_Seed,a0.F_L⟩:zAl) a1 a2)>>=fun r13=>
      ((
       if (r4.1.length:Int)≠a0.F_Batch then
        some true
       else
        some (r13.2 !=0)):Option Bool)>>=fun j14=>
      ((
       if j14=true then
        some true
       else
        (zEE r13.1 r4.1)>>=fun r15=>
        some (!r15)):Option Bool)>>=fun j16=>
      if j16=true then
       some false
      else
       (zG3 a0 a1 a2 a3)>>=fun r17=>
       if r17.2≠0 then
        ((
         if r1=true then
          some ((r17.1.length:Int)==0)
         else
          some false):Option Bool)>>=fun j18=>
        some j18
       else
        (zFR a0.F_M)>>=fun r19=>
        (zBs a0 r1 r17 r19 0)>>=fun e=>match e with
        | .inl r=>some r
        | .inr j21=>
         ((
          if r1=true then
           some (r19.2==0)
          else
           some false):Option Bool)>>=fun j22=>
         ((
          if j22=true then
           some ((r17.1.length:Int)==r19.1)
          else
           some false):Option Bool)>>=fun j23=>
         some j23
    else none
def zEA (a0:zAc):Option Int:=
 ((
  if a0.F_In≥1 then
   some (decide (a0.F_In≤16))
  else
   some false):Option Bool)>>=fun j1=>
 ((
  if j1=true then
   some (decide (a0.F_Frac≥0))
  else
   some false):Option Bool)>>=fun j2=>
 ((
  if j2=true then
   some (decide (a0.F_Frac≤30))
  else
   some false):Option Bool)>>=fun j3=>
 if a0.F_Kind=0 then
  ((
   if j3=true then
    some (a0.F_Out==0)
   else
    some false):Option Bool)>>=fun j4=>
  ((
   if j4=true then
    some (a0.F_Hid==0)
   else
    some false):Option Bool)>>=fun j5=>
  if j5=false then
   some 1
  else
   some 0
 else
  if a0.F_Kind=1 then
   ((
    if j3=true then
     some (decide (a0.F_Out≥2))
    else
     some false):Option Bool)>>=fun j6=>
   ((
    if j6=true then
     some (decide (a0.F_Out≤8))
    else
     some false):Option Bool)>>=fun j7=>
   ((
    if j7=true then
     some (a0.F_Hid==0)
    else
     some false):Option Bool)>>=fun j8=>
   if j8=false then
    some 1
   else
    some 0
  else
   if a0.F_Kind=2 then
    ((
     if j3=true then
      some (a0.F_Out==0)
     else
      some false):Option Bool)>>=fun j9=>
    ((
     if j9=true then
      some (decide (a0.F_Hid≥1))
     else
      some false):Option Bool)>>=fun j10=>
    ((
     if j10=true then
      some (decide (a0.F_Hid≤8))
     else
      some false):Option Bool)>>=fun j11=>
    if j11=false then
     some 1
    else
     some 0
   else
    some 1
def zFz (a0:Int) (a1:Int):Option (Int×Int):=
 ((
  if a0<1 then
   some true
  else
   some (decide (a0>16))):Option Bool)>>=fun j1=>
 ((
  if j1=true then
   some true
  else
   some (decide (a1<2))):Option Bool)>>=fun j2=>
 ((
  if j2=true then
   some true
  else
   some (decide (a1>8))):Option Bool)>>=fun j3=>
 if j3=true then
  some (0,1)
 else
  some (IntKind.i64.wrap (a1*(IntKind.i64.wrap (a0+1))),0)
def zEq (a0:Int) (a1:Int):Option (Int×Int):=
 ((
  if a0<1 then
   some true
  else
   some (decide (a0>16))):Option Bool)>>=fun j1=>
 ((
  if j1=true then
   some true
  else
   some (decide (a1<1))):Option Bool)>>=fun j2=>
 ((
  if j2=true then
   some true
  else
   some (decide (a1>8))):Option Bool)>>=fun j3=>
 if j3=true then
  some (0,1)
 else
  some (IntKind.i64.wrap ((IntKind.i64.wrap ((IntKind.i64.wrap (a1*(IntKind.i64.wrap (a0+1))))+a1))+1),0)
def zFG (a0:Int):Option (Int×Int):=
 ((
  if a0<1 then
   some true
  else
   some (decide (a0>16))):Option Bool)>>=fun j1=>
 if j1=true then
  some (0,1)
 else
  some (IntKind.i64.wrap (a0+1),0)
def zHe (a0:zAc):Option (Int×Int):=
 (zEA a0)>>=fun r1=>
 if r1≠0 then
  some (0,r1)
 else
  if a0.F_Kind=1 then
   (zFz a0.F_In a0.F_Out)>>=fun r2=>
   some (r2.1,r2.2)
  else
   if a0.F_Kind=2 then
    (zEq a0.F_In a0.F_Hid)>>=fun r3=>
    some (r3.1,r3.2)
   else
    (zFG a0.F_In)>>=fun r4=>
    some (r4.1,r4.2)
def zGo (a0:zBb) (a1:Int):Option Int:=
 ((
  if a1≥1 then
   some (decide (a1≤4096))
  else
   some false):Option Bool)>>=fun j1=>
 ((
  if a0.F_Scheme=0 then
   some true
  else
   some (a0.F_Scheme==3)):Option Bool)>>=fun j2=>
 if j2=true then
  ((
   if j1=true then
    some (a0.F_K==0)
   else
    some false):Option Bool)>>=fun j3=>
  ((
   if j3=true then
    some (a0.F_Wide==0)
   else
    some false):Option Bool)>>=fun j4=>
  if j4=false then
   some 1
  else
   some 0
 else
  if a0.F_Scheme=1 then
   ((
    if j1=true then
     some (decide (a0.F_K≥0))
    else
     some false):Option Bool)>>=fun j5=>
   ((
    if j5=true then
     some (decide (a0.F_K≤a1))
    else
     some false):Option Bool)>>=fun j6=>
   ((
    if j6=true then
     some (a0.F_Wide==0)
    else
     some false):Option Bool)>>=fun j7=>
   if j7=false then
    some 1
   else
    some 0
  else
   if a0.F_Scheme=2 then
    ((
     if j1=true then
      some (a0.F_K==0)
     else
      some false):Option Bool)>>=fun j8=>
    ((
     if j8=true then
      some (decide (a0.F_Wide≥1))
     else
      some false):Option Bool)>>=fun j9=>
    ((
     if j9=true then
      some (decide (a0.F_Wide≤8))
     else
      some false):Option Bool)>>=fun j10=>
    if j10=false then
     some 1
    else
     some 0
   else
    some 1
def zBK (a0:Int) (a1:Int) (a3:List zAa) (x0:Int):Option (Sum Int Unit):=
 if x0<(a3.length:Int) then
  if 0≤x0∧x0<(a3.length:Int) then
   if (((at' a3 x0).F_X).length:Int)≠a0 then
    some (.inl 4)
   else
    zBK a0 a1 a3 (IntKind.i64.wrap (x0+1))
  else none
 else
  some (.inr ())
 partial_fixpoint
def zBE (a1:Int) (a3:List zAa) (x0:Int):Option (Sum Int Unit):=
 if x0<(a3.length:Int) then
  if 0≤x0∧x0<(a3.length:Int) then
   ((
    if ((at' a3 x0).F_Y)<0 then
     some true
    else
     some (decide (((at' a3 x0).F_Y)≥a1))):Option Bool)>>=fun j4=>
   if j4=true then
    some (.inl 1)
   else
    zBE a1 a3 (IntKind.i64.wrap (x0+1))
  else none
 else
  some (.inr ())
 partial_fixpoint
def zD1 (a0:Int) (a1:Int) (a2:List Int) (a3:List zAa):Option Int:=
 (zFz a0 a1)>>=fun r1=>
 if r1.2≠0 then
  some r1.2
 else
  if (a2.length:Int)≠r1.1 then
   some 4
  else
   (zBK a0 a1 a3 0)>>=fun e=>match e with
   | .inl r=>some r
   | .inr j2=>
    ((
     if (a3.length:Int)=0 then
      some true
     else
      some (decide ((a3.length:Int)>64))):Option Bool)>>=fun j3=>
    if j3=true then
     some 1
    else
     (zBE a1 a3 0)>>=fun e=>match e with
     | .inl r=>some r
     | .inr j5=>
      some 0
def zBF (a0:Int) (a3:List zAa) (x0:Int):Option (Sum Int Unit):=
 if x0<(a3.length:Int) then
  if 0≤x0∧x0<(a3.length:Int) then
   if (((at' a3 x0).F_X).length:Int)≠a0 then
    some (.inl 4)
   else
    zBF a0 a3 (IntKind.i64.wrap (x0+1))
  else none
 else
  some (.inr ())
 partial_fixpoint
def zDW (a0:Int) (a1:Int) (a2:List Int) (a3:List zAa):Option Int:=
 (zEq a0 a1)>>=fun r1=>
 if r1.2≠0 then
  some r1.2
 else
  if (a2.length:Int)≠r1.1 then
   some 4
  else
   (zBF a0 a3 0)>>=fun e=>match e with
   | .inl r=>some r
   | .inr j2=>
    ((
     if (a3.length:Int)=0 then
      some true
     else
      some (decide ((a3.length:Int)>64))):Option Bool)>>=fun j3=>
    if j3=true then
     some 1
    else
     some 0
def zBH (a0:Int) (a2:List zAa) (x0:Int):Option (Sum Int Unit):=
 if x0<(a2.length:Int) then
  if 0≤x0∧x0<(a2.length:Int) then
   if (((at' a2 x0).F_X).length:Int)≠a0 then
    some (.inl 4)
   else
    zBH a0 a2 (IntKind.i64.wrap (x0+1))
  else none
 else
  some (.inr ())
 partial_fixpoint
def zCd (a0:Int) (a1:List Int) (a2:List zAa):Option Int:=
 (zFG a0)>>=fun r1=>
 if r1.2≠0 then
  some r1.2
 else
  if (a1.length:Int)≠r1.1 then
   some 4
  else
   (zBH a0 a2 0)>>=fun e=>match e with
   | .inl r=>some r
   | .inr j2=>
    ((
     if (a2.length:Int)=0 then
      some true
     else
      some (decide ((a2.length:Int)>64))):Option Bool)>>=fun j3=>
    if j3=true then
     some 1
    else
     some 0
def zDz (a0:zAc) (a1:List Int) (a2:List zAa):Option Int:=
 (zEA a0)>>=fun r1=>
 if r1≠0 then
  some r1
 else
  if a0.F_Kind=1 then
   (zD1 a0.F_In a0.F_Out a1 a2)>>=fun r2=>
   some r2
  else
   if a0.F_Kind=2 then
    (zDW a0.F_In a0.F_Hid a1 a2)>>=fun r3=>
    some r3
   else
    (zCd a0.F_In a1 a2)>>=fun r4=>
    some r4
def zC4 (a0:zAl) (r1:Int×Int) (x0:Int):Option (Sum Int Unit):=
 if x0<(a0.F_L.length:Int) then
  if 0≤x0∧x0<(a0.F_L.length:Int) then
   ((
    if 0≤r1.1∧r1.1≤r1.1∧r1.1≤140737488355328∧r1.1*((8:Nat):Int)≤140737488355328 then
     (zDz a0.F_M (List.replicate (Int.toNat r1.1) 0) [at' a0.F_L x0])>>=fun r15=>
     some (r15 !=0)
    else none):Option Bool)>>=fun j16=>
   if j16=true then
    some (.inl 1)
   else
    zC4 a0 r1 (IntKind.i64.wrap (x0+1))
  else none
 else
  some (.inr ())
 partial_fixpoint
def zGn (a0:zAl):Option Int:=
 (zHe a0.F_M)>>=fun r1=>
 ((
  if r1.2≠0 then
   some true
  else
   some (decide (a0.F_N<1))):Option Bool)>>=fun j2=>
 ((
  if j2=true then
   some true
  else
   some (decide (a0.F_N>64))):Option Bool)>>=fun j3=>
 ((
  if j3=true then
   some true
  else
   (zGo a0.F_H r1.1)>>=fun r4=>
   some (r4 !=0)):Option Bool)>>=fun j5=>
 ((
  if j5=true then
   some true
  else
   some (decide (a0.F_Warm<0))):Option Bool)>>=fun j6=>
 ((
  if j6=true then
   some true
  else
   some (decide (a0.F_Warm>1048576))):Option Bool)>>=fun j7=>
 if j7=true then
  some 1
 else
  if 0≤a0.F_M.F_Frac then
   ((
    if a0.F_Rate<0 then
     some true
    else
     some (decide (a0.F_Rate>(sShl .i64 1 a0.F_M.F_Frac)))):Option Bool)>>=fun j8=>
   ((
    if j8=true then
     some true
    else
     some (decide (a0.F_Mom<0))):Option Bool)>>=fun j9=>
   ((
    if j9=true then
     some true
    else
     some (decide (a0.F_Mom>(sShl .i64 1 a0.F_M.F_Frac)))):Option Bool)>>=fun j10=>
   ((
    if j10=true then
     some true
    else
     some (decide (a0.F_Clip<0))):Option Bool)>>=fun j11=>
   if j11=true then
    some 1
   else
    ((
     if (a0.F_L.length:Int)>256 then
      some true
     else
      some (decide (a0.F_Batch<1))):Option Bool)>>=fun j12=>
    ((
     if j12=true then
      some true
     else
      some (decide (a0.F_Batch>64))):Option Bool)>>=fun j13=>
    ((
     if j13=true then
      some true
     else
      some (decide (a0.F_Batch>(a0.F_L.length:Int)))):Option Bool)>>=fun j14=>
    if j14=true then
     some 1
    else
     (zC4 a0 r1 0)>>=fun e=>match e with
     | .inl r=>some r
     | .inr j17=>
      some 0
  else none
def zDU (a1:List Int) (x0:Int) (x1:Int):Option Int:=
 if x0<(a1.length:Int) then
  if 0≤x0∧x0<(a1.length:Int) then
   some (bXor .u64 (IntKind.u64.wrap ((bXor .u64 x1 (IntKind.u64.wrap (at' a1 x0)))*11400714819323198485)) (sShr .u64 (IntKind.u64.wrap ((bXor .u64 x1 (IntKind.u64.wrap (at' a1 x0)))*11400714819323198485)) 29))>>=fun y1=>
   zDU a1 (IntKind.i64.wrap (x0+1)) y1
  else none
 else
  some x1
 partial_fixpoint
def zKk (a0:Int) (a1:List Int):Option Int:=
 (zDU a1 0 a0)>>=fun j3=>
 some (bXor .u64 (IntKind.u64.wrap (j3*13787848793156543929)) (sShr .u64 (IntKind.u64.wrap (j3*13787848793156543929)) 32))
def zGj (a0:Int) (a1:Int) (a2:List Int):Option (Int×Int):=
 if a0=0 then
  some (0,1)
 else
  (zKk a1 a2)>>=fun r1=>
  if a0≠0 then
   some (Int.tmod r1 a0,0)
  else none
def zC8 (a0:Int) (a1:Int) (a2:List Int) (y1:List Int) (x0:Int) (x1:List Int):Option (List Int):=
 if x0<(y1.length:Int) then
  if 0≤x0∧x0<(x1.length:Int) then
   zC8 a0 a1 a2 y1 (IntKind.i64.wrap (x0+1)) (x1.set (Int.toNat x0) x0)
  else none
 else
  some x1
 partial_fixpoint
def zCb (a1:Int) (a2:List Int) (x0:Int) (x1:List Int):Option (List Int):=
 if x0≥1 then
  if room 8 (a2:List Int).length then
   if room 8 (a2++[x0]).length then
    (zGj (IntKind.u64.wrap (IntKind.i64.wrap (x0+1))) a1 (a2++[x0]))>>=fun r4=>
    if 0≤x0∧x0<(x1.length:Int) then
     if 0≤r4.1∧r4.1<(x1.length:Int) then
      if 0≤x0∧x0<(x1.length:Int) then
       some (x1.set (Int.toNat x0) (at' x1 r4.1))>>=fun y5=>
       if 0≤r4.1∧r4.1<(y5.length:Int) then
        some (y5.set (Int.toNat r4.1) (at' x1 x0))>>=fun y7=>
        zCb a1 a2 (IntKind.i64.wrap (x0-1)) y7
       else none
      else none
     else none
    else none
   else none
  else none
 else
  some x1
 partial_fixpoint
def zGg (a0:Int) (a1:Int) (a2:List Int):Option ((List Int)×Int):=
 if a0<0 then
  some ([],1)
 else
  if a0>4096 then
   some ([],3)
  else
   if 0≤a0∧a0≤a0∧a0≤140737488355328∧a0*((8:Nat):Int)≤140737488355328 then
    some (List.replicate (Int.toNat a0) 0)>>=fun y1=>
    (zC8 a0 a1 a2 y1 0 y1)>>=fun j3=>
    (zCb a1 a2 (IntKind.i64.wrap (a0-1)) j3)>>=fun j9=>
    some (j9,0)
   else none
def zI9 (a0:Int) (a1:Int) (a2:Int) (a3:List Int):Option ((List Int)×Int):=
 ((
  if a0<0 then
   some true
  else
   some (decide (a0>a1))):Option Bool)>>=fun j1=>
 if j1=true then
  some ([],1)
 else
  (zGg a1 a2 a3)>>=fun r2=>
  if r2.2≠0 then
   some ([],r2.2)
  else
   if cutOk none (some a0) r2.1.length then
    some (cut' r2.1 none (some a0),0)
   else none
def zGq (a0:zAl) (a1:Int) (a2:Int):Option ((List Int)×Int):=
 (zGn a0)>>=fun r1=>
 ((
  if r1≠0 then
   some true
  else
   some (decide (a2<0))):Option Bool)>>=fun j2=>
 ((
  if j2=true then
   some true
  else
   some (decide (a2>1073741824))):Option Bool)>>=fun j3=>
 ((
  if j3=true then
   some true
  else
   some (decide (a1<0))):Option Bool)>>=fun j4=>
 ((
  if j4=true then
   some true
  else
   some (decide (a1≥a0.F_N))):Option Bool)>>=fun j5=>
 if j5=true then
  some ([],1)
 else
  (zI9 a0.F_Batch (a0.F_L.length:Int) a0.F_Seed [a1,a2])>>=fun r6=>
  some (r6.1,r6.2)
def zDu (a0:Int) (a1:List Int) (x0:Int) (x1:List (List Int)):Option (List (List Int)):=
 if x0<a0 then
  some (IntKind.i64.wrap (x0*(IntKind.i64.wrap (Int.tdiv (a1.length:Int) a0))))>>=fun y4=>
  some (IntKind.i64.wrap ((IntKind.i64.wrap (x0+1))*(IntKind.i64.wrap (Int.tdiv (a1.length:Int) a0))))>>=fun y6=>
  if cutOk (some y4) (some y6) a1.length then
   some (cut' a1 (some y4) (some y6))>>=fun y8=>
   if room 8 (y8:List Int).length then
    if room 24 (x1++[y8]).length then
     zDu a0 a1 (IntKind.i64.wrap (x0+1)) (x1++[y8])
    else none
   else none
  else none
 else
  some x1
 partial_fixpoint
def zEU (a0:Int) (a1:List Int):Option ((List (List Int))×Int):=
 ((
  if a0<2 then
   some true
  else
   some (decide (a0>8))):Option Bool)>>=fun j1=>
 if j1=true then
  some ([],1)
 else
  if a0≠0 then
   if a0≠0 then
    ((
     if (Int.tmod (a1.length:Int) a0)≠0 then
      some true
     else
      some (decide ((IntKind.i64.wrap (Int.tdiv (a1.length:Int) a0))<2))):Option Bool)>>=fun j2=>
    ((
     if j2=true then
      some true
     else
      some (decide ((IntKind.i64.wrap (Int.tdiv (a1.length:Int) a0))>17))):Option Bool)>>=fun j3=>
    if j3=true then
     some ([],4)
    else
     (zDu a0 a1 0 [])>>=fun j10=>
     some (j10,0)
   else none
  else none
def zKb (a0:Int) (a1:List Int) (a2:List zAa):Option Int:=
 (zEU a0 a1)>>=fun r1=>
 if r1.2≠0 then
  some r1.2
 else
  if 0≤(0:Int)∧(0:Int)<(r1.1.length:Int) then
   (zD1 (IntKind.i64.wrap (((at' r1.1 0).length:Int)-1)) a0 a1 a2)>>=fun r2=>
   some r2
  else none
def zFA (a0:List Int) (a1:List Int):Option Int:=
 ((
  if (a0.length:Int)>4096 then
   some true
  else
   some (decide ((a1.length:Int)>4096))):Option Bool)>>=fun j1=>
 if j1=true then
  some 3
 else
  if (a0.length:Int)≠(a1.length:Int) then
   some 4
  else
   some 0
def zDw (a0:Int):Option Int:=
 if a0<0 then
  some (IntKind.u64.wrap ((IntKind.u64.wrap (IntKind.i64.wrap (0-(IntKind.i64.wrap (a0+1)))))+1))
 else
  some (IntKind.u64.wrap a0)
def zEC (a0:Int) (a1:Int):Option (Int×Int):=
 some (IntKind.u64.wrap ((IntKind.u64.wrap ((IntKind.u64.wrap ((sShr .u64 a0 32)*(sShr .u64 a1 32)))+(sShr .u64 (IntKind.u64.wrap ((IntKind.u64.wrap ((sShr .u64 a0 32)*(bAnd .u64 a1 4294967295)))+(sShr .u64 (IntKind.u64.wrap ((bAnd .u64 a0 4294967295)*(bAnd .u64 a1 4294967295))) 32))) 32)))+(sShr .u64 (IntKind.u64.wrap ((IntKind.u64.wrap ((bAnd .u64 a0 4294967295)*(sShr .u64 a1 32)))+(bAnd .u64 (IntKind.u64.wrap ((IntKind.u64.wrap ((sShr .u64 a0 32)*(bAnd .u64 a1 4294967295)))+(sShr .u64 (IntKind.u64.wrap ((bAnd .u64 a0 4294967295)*(bAnd .u64 a1 4294967295))) 32))) 4294967295))) 32)),bOr .u64 (sShl .u64 (IntKind.u64.wrap ((IntKind.u64.wrap ((bAnd .u64 a0 4294967295)*(sShr .u64 a1 32)))+(bAnd .u64 (IntKind.u64.wrap ((IntKind.u64.wrap ((sShr .u64 a0 32)*(bAnd .u64 a1 4294967295)))+(sShr .u64 (IntKind.u64.wrap ((bAnd .u64 a0 4294967295)*(bAnd .u64 a1 4294967295))) 32))) 4294967295))) 32) (bAnd .u64 (IntKind.u64.wrap ((bAnd .u64 a0 4294967295)*(bAnd .u64 a1 4294967295))) 4294967295))
def zGN (a0:Int) (a1:Int):Option (Int×Int):=
 (zDw a0)>>=fun r1=>
 (zDw a1)>>=fun r2=>
 (zEC r1 r2)>>=fun r3=>
 if (decide (a0<0))=(decide (a1<0)) then
  some (IntKind.i64.wrap r3.1,r3.2)
 else
  some (bXor .u64 (if IntKind.signed .u64 then -1 else IntKind.max .u64) r3.1)>>=fun y4=>
  some (IntKind.u64.wrap ((bXor .u64 (if IntKind.signed .u64 then -1 else IntKind.max .u64) r3.2)+1))>>=fun y6=>
  if y6=0 then
   some (IntKind.i64.wrap (IntKind.u64.wrap (y4+1)),y6)
  else
   some (IntKind.i64.wrap y4,y6)
def zDE (a2:Int) (x0:Int) (x1:Int) (x2:Int):Option (Int×Int):=
 if x0<a2 then
  some (bOr .u64 (sShr .u64 x1 1) (sShl .u64 (IntKind.u64.wrap (bAnd .i64 x2 1)) 63))>>=fun y3=>
  zDE a2 (IntKind.i64.wrap (x0+1)) y3 (sShr .i64 x2 1)
 else
  some (x1,x2)
 partial_fixpoint
def zEo (a0:Int) (a1:Int) (a2:Int):Option (Int×Int):=
 ((
  if a2<0 then
   some true
  else
   some (decide (a2>30))):Option Bool)>>=fun j1=>
 if j1=true then
  some (0,1)
 else
  (zGN a0 a1)>>=fun r2=>
  (zDE a2 0 r2.2 r2.1)>>=fun j5=>
  if j5.2≠(sShr .i64 (IntKind.i64.wrap j5.1) 63) then
   some (0,2)
  else
   some (IntKind.i64.wrap j5.1,0)
def zEt (a0:Int) (a1:Int):Option (Int×Int):=
 ((
  if a1>0 then
   some (decide (a0>(IntKind.i64.wrap (9223372036854775807-a1))))
  else
   some false):Option Bool)>>=fun j1=>
 if j1=true then
  some (0,2)
 else
  if a1<0 then
   if a0<(IntKind.i64.wrap ((-9223372036854775808)-a1)) then
    some (0,2)
   else
    some (IntKind.i64.wrap (a0+a1),0)
  else
   some (IntKind.i64.wrap (a0+a1),0)
def zB7 (a0:List Int) (a1:List Int) (a2:Int) (x0:Int) (x1:Int):Option (Sum (Int×Int) Int):=
 if x0<(a0.length:Int) then
  if 0≤x0∧x0<(a0.length:Int) then
   if 0≤x0∧x0<(a1.length:Int) then
    (zEo (at' a0 x0) (at' a1 x0) a2)>>=fun r3=>
    if r3.2≠0 then
     some (.inl (0,r3.2))
    else
     (zEt x1 r3.1)>>=fun r4=>
     if r4.2≠0 then
      some (.inl (0,r4.2))
     else
      zB7 a0 a1 a2 (IntKind.i64.wrap (x0+1)) r4.1
   else none
  else none
 else
  some (.inr x1)
 partial_fixpoint
def zHj (a0:List Int) (a1:List Int) (a2:Int):Option (Int×Int):=
 (zFA a0 a1)>>=fun r1=>
 if r1≠0 then
  some (0,r1)
 else
  ((
   if a2<0 then
    some true
   else
    some (decide (a2>30))):Option Bool)>>=fun j2=>
  if j2=true then
   some (0,1)
  else
   (zB7 a0 a1 a2 0 0)>>=fun e=>match e with
   | .inl r=>some r
   | .inr j5=>
    some (j5,0)
def zB3 (a0:List Int) (a1:List Int) (a2:Int):Option (Int×Int):=
 (zCd (a1.length:Int) a0 [(⟨a1,0⟩:zAa)])>>=fun r1=>
 if r1≠0 then
  some (0,r1)
 else
  if cutOk none (some (a1.length:Int)) a0.length then
   some (cut' a0 none (some (a1.length:Int)))>>=fun y2=>
   (zHj y2 a1 a2)>>=fun r4=>
   if r4.2≠0 then
    some (0,r4.2)
   else
    if 0≤(a1.length:Int)∧(a1.length:Int)<(a0.length:Int) then
     (zEt r4.1 (at' a0 (a1.length:Int)))>>=fun r5=>
     some (r5.1,r5.2)
    else none
  else none
def zBG (a2:List Int) (a3:Int) (r1:(List (List Int))×Int) (x0:Int) (x1:List Int):Option (Sum ((List Int)×Int) (List Int)):=
 if x0<(r1.1.length:Int) then
  if 0≤x0∧x0<(r1.1.length:Int) then
   (zB3 (at' r1.1 x0) a2 a3)>>=fun r3=>
   if r3.2≠0 then
    some (.inl ([],r3.2))
   else
    if room 8 (x1++[r3.1]).length then
     zBG a2 a3 r1 (IntKind.i64.wrap (x0+1)) (x1++[r3.1])
    else none
  else none
 else
  some (.inr x1)
 partial_fixpoint
def zGa (a0:Int) (a1:List Int) (a2:List Int) (a3:Int):Option ((List Int)×Int):=
 (zEU a0 a1)>>=fun r1=>
 if r1.2≠0 then
  some ([],r1.2)
 else
  if 0≤(0:Int)∧(0:Int)<(r1.1.length:Int) then
   if ((at' r1.1 0).length:Int)≠(IntKind.i64.wrap ((a2.length:Int)+1)) then
    some ([],4)
   else
    ((
     if a3<0 then
      some true
     else
      some (decide (a3>30))):Option Bool)>>=fun j2=>
    if j2=true then
     some ([],1)
    else
     (zBG a2 a3 r1 0 [])>>=fun e=>match e with
     | .inl r=>some r
     | .inr j4=>
      some (j4,0)
  else none
def zCh (a0:List Int) (x0:Int) (x1:Int):Option Int:=
 if x0<(a0.length:Int) then
  if 0≤x0∧x0<(a0.length:Int) then
   if 0≤x1∧x1<(a0.length:Int) then
    if (at' a0 x0)>(at' a0 x1) then
     zCh a0 (IntKind.i64.wrap (x0+1)) x0
    else
     zCh a0 (IntKind.i64.wrap (x0+1)) x1
   else none
  else none
 else
  some x1
 partial_fixpoint
def zGH (a0:List Int):Option (Int×Int):=
 if (a0.length:Int)=0 then
  some (0,1)
 else
  if (a0.length:Int)>4096 then
   some (0,3)
  else
   (zCh a0 0 0)>>=fun j1=>
   some (j1,0)
def zDK (a0:Int) (a1:Int):Option (Int×Int):=
 ((
  if a1<0 then
   some (decide (a0>(IntKind.i64.wrap (9223372036854775807+a1))))
  else
   some false):Option Bool)>>=fun j1=>
 if j1=true then
  some (0,2)
 else
  if a1>0 then
   if a0<(IntKind.i64.wrap ((-9223372036854775808)+a1)) then
    some (0,2)
   else
    some (IntKind.i64.wrap (a0-a1),0)
  else
   some (IntKind.i64.wrap (a0-a1),0)
def zHh (a0:Int):Option (Int×Int):=
 (zDK 0 a0)>>=fun r1=>
 some (r1.1,r1.2)
def zCj (a0:Int) (x0:Int) (x1:Int):Option Int:=
 if x0≥0 then
  if 0≤x0 then
   if (IntKind.u64.wrap ((IntKind.u64.wrap (x1+(sShl .u64 1 x0)))*(IntKind.u64.wrap (x1+(sShl .u64 1 x0)))))≤a0 then
    zCj a0 (IntKind.i64.wrap (x0-1)) (IntKind.u64.wrap (x1+(sShl .u64 1 x0)))
   else
    zCj a0 (IntKind.i64.wrap (x0-1)) x1
  else none
 else
  some x1
 partial_fixpoint
def zAI (a0:Int):Option Int:=
 (zCj a0 31 0)>>=fun j1=>
 some j1
def zA1 (x0:Int) (x0_:Int) (x1_:List Int):Option (List Int):=
 if x0_<16 then
  if 0≤IntKind.i64.wrap (x0_-(at' [8,4,2,1] x0))∧IntKind.i64.wrap (x0_-(at' [8,4,2,1] x0))<(x1_.length:Int) then
   if 0≤IntKind.i64.wrap (x0_+(at' [8,4,2,1] x0))∧IntKind.i64.wrap (x0_+(at' [8,4,2,1] x0))<(x1_.length:Int) then
    (zAI (IntKind.u64.wrap ((at' x1_ (IntKind.i64.wrap (x0_-(at' [8,4,2,1] x0))))*(at' x1_ (IntKind.i64.wrap (x0_+(at' [8,4,2,1] x0)))))))>>=fun r7=>
    if 0≤x0_∧x0_<(x1_.length:Int) then
     some (x1_.set (Int.toNat x0_) r7)>>=fun y8=>
     some (IntKind.i64.wrap (x0_+(IntKind.i64.wrap (2*(at' [8,4,2,1] x0)))))>>=fun y10=>
     zA1 x0 y10 y8
    else none
   else none
  else none
 else
  some x1_
 partial_fixpoint
def zBW (x0:Int) (x1:List Int):Option (List Int):=
 if x0<([8,4,2,1].length:Int) then
  if 0≤x0∧x0<([8,4,2,1].length:Int) then
   (zA1 x0 (at' [8,4,2,1] x0) x1)>>=fun j12=>
   zBW (IntKind.i64.wrap (x0+1)) j12
  else none
 else
  some x1
 partial_fixpoint
def zGE:Option (List Int):=
 if 0≤(17:Int)∧(17:Int)≤(17:Int)∧(17:Int)≤140737488355328∧(17:Int)*((8:Nat):Int)≤140737488355328 then
  some (List.replicate (Int.toNat 17) 0)>>=fun y1=>
  if 0≤(0:Int)∧(0:Int)<(y1.length:Int) then
   some (y1.set (Int.toNat 0) 1073741824)>>=fun y3=>
   if 0≤(16:Int)∧(16:Int)<(y3.length:Int) then
    some (y3.set (Int.toNat 16) 536870912)>>=fun y5=>
    (zBW 0 y5)>>=fun j13=>
    some j13
   else none
  else none
 else none
def zDD (a1:Int) (r3:Int×Int) (x0:Int) (x1:Int):Option Int:=
 if x0<(IntKind.i64.wrap (30-a1)) then
  zDD a1 r3 (IntKind.i64.wrap (x0+1)) (IntKind.u64.wrap (Int.tdiv x1 2))
 else
  some x1
 partial_fixpoint
def zDG (a1:Int) (r3:Int×Int) (x0:Int) (x1:Int):Option Int:=
 ((
  if x0<(IntKind.i64.wrap (Int.tdiv r3.1 (sShl .i64 1 a1))) then
   some (decide (x1>0))
  else
   some false):Option Bool)>>=fun j8=>
 if j8=true then
  zDG a1 r3 (IntKind.i64.wrap (x0+1)) (IntKind.u64.wrap (Int.tdiv x1 2))
 else
  some x1
 partial_fixpoint
def zHd (a0:Int) (a1:Int):Option (Int×Int):=
 ((
  if a1<0 then
   some true
  else
   some (decide (a1>30))):Option Bool)>>=fun j1=>
 ((
  if j1=true then
   some true
  else
   some (decide (a0>0))):Option Bool)>>=fun j2=>
 if j2=true then
  some (0,1)
 else
  (zHh a0)>>=fun r3=>
  if r3.2≠0 then
   some (0,r3.2)
  else
   if 0≤a1 then
    if sShl .i64 1 a1≠0 then
     if sShl .i64 1 a1≠0 then
      if sShl .i64 1 a1≠0 then
       (zGE)>>=fun r4=>
       if 0≤IntKind.i64.wrap (Int.tdiv (IntKind.i64.wrap ((Int.tmod r3.1 (sShl .i64 1 a1))*16)) (sShl .i64 1 a1))∧IntKind.i64.wrap (Int.tdiv (IntKind.i64.wrap ((Int.tmod r3.1 (sShl .i64 1 a1))*16)) (sShl .i64 1 a1))<(r4.length:Int) then
        some (at' r4 (IntKind.i64.wrap (Int.tdiv (IntKind.i64.wrap ((Int.tmod r3.1 (sShl .i64 1 a1))*16)) (sShl .i64 1 a1))))>>=fun y5=>
        (zDD a1 r3 0 y5)>>=fun j7=>
        (zDG a1 r3 0 j7)>>=fun j9=>
        some (IntKind.i64.wrap j9,0)
       else none
      else none
     else none
    else none
   else none
def zAR (a0:Int) (a1:Int) (a2:Int) (x0:Int) (x1:Bool) (x2:Int) (x3:Int):Option (Bool×Int×Int):=
 if x0≥0 then
  if 0≤bAnd .i64 x0 63 then
   ((
    if x0≥64 then
     if 0≤bAnd .i64 x0 63 then
      some (bAnd .u64 (sShr .u64 a0 (bAnd .i64 x0 63)) 1)
     else none
    else
     some (bAnd .u64 (sShr .u64 a1 (bAnd .i64 x0 63)) 1)):Option Int)>>=fun j1=>
   ((
    if (sShr .u64 x2 63)=1 then
     some true
    else
     some (decide ((bOr .u64 (sShl .u64 x2 1) j1)≥a2))):Option Bool)>>=fun j2=>
   if j2=true then
    if x0<64 then
     if 0≤x0 then
      zAR a0 a1 a2 (IntKind.i64.wrap (x0-1)) x1 (IntKind.u64.wrap ((bOr .u64 (sShl .u64 x2 1) j1)-a2)) (bOr .u64 x3 (sShl .u64 1 x0))
     else none
    else
     if 1=1 then
      zAR a0 a1 a2 (IntKind.i64.wrap (x0-1)) false (IntKind.u64.wrap ((bOr .u64 (sShl .u64 x2 1) j1)-a2)) x3
     else
      zAR a0 a1 a2 (IntKind.i64.wrap (x0-1)) x1 (IntKind.u64.wrap ((bOr .u64 (sShl .u64 x2 1) j1)-a2)) x3
   else
    if x0<64 then
     if 0≤x0 then
      zAR a0 a1 a2 (IntKind.i64.wrap (x0-1)) x1 (bOr .u64 (sShl .u64 x2 1) j1) (bOr .u64 x3 (sShl .u64 0 x0))
     else none
    else
     if 0=1 then
      zAR a0 a1 a2 (IntKind.i64.wrap (x0-1)) false (bOr .u64 (sShl .u64 x2 1) j1) x3
     else
      zAR a0 a1 a2 (IntKind.i64.wrap (x0-1)) x1 (bOr .u64 (sShl .u64 x2 1) j1) x3
  else none
 else
  some (x1,x2,x3)
 partial_fixpoint
def zGI (a0:Int) (a1:Int) (a2:Int):Option (Int×Int×Bool):=
 (zAR a0 a1 a2 127 true 0 0)>>=fun j3=>
 some (j3.2.2,j3.2.1,j3.1)
def zFs (a0:Int) (a1:Int) (a2:Int):Option (Int×Int):=
 ((
  if a2<0 then
   some true
  else
   some (decide (a2>30))):Option Bool)>>=fun j1=>
 ((
  if j1=true then
   some true
  else
   some (a1==0)):Option Bool)>>=fun j2=>
 if j2=true then
  some (0,1)
 else
  if 0≤a2 then
   (zDw a0)>>=fun r3=>
   (zEC r3 (sShl .u64 1 a2))>>=fun r4=>
   (zDw a1)>>=fun r5=>
   (zGI r4.1 r4.2 r5)>>=fun r6=>
   ((
    if r6.2.2=false then
     some true
    else
     some (decide (r6.1>9223372036854775808))):Option Bool)>>=fun j7=>
   if j7=true then
    some (0,2)
   else
    if (decide (a0<0))=(decide (a1<0)) then
     if r6.1=9223372036854775808 then
      some (0,2)
     else
      some (IntKind.i64.wrap r6.1,0)
    else
     if r6.2.1>0 then
      if (IntKind.u64.wrap (r6.1+1))>9223372036854775808 then
       some (0,2)
      else
       some (IntKind.i64.wrap (IntKind.u64.wrap (0-(IntKind.u64.wrap (r6.1+1)))),0)
     else
      if r6.1>9223372036854775808 then
       some (0,2)
      else
       some (IntKind.i64.wrap (IntKind.u64.wrap (0-r6.1)),0)
  else none
def zDp (a0:Int) (a1:List Int) (r1:Int×Int) (x0:Int) (x1:Int) (x2:List Int):Option (Sum ((List Int)×Int) (Int×(List Int))):=
 if x0<(a1.length:Int) then
  if 0≤x0∧x0<(a1.length:Int) then
   if 0≤r1.1∧r1.1<(a1.length:Int) then
    (zDK (at' a1 x0) (at' a1 r1.1))>>=fun r3=>
    if r3.2≠0 then
     some (.inl ([],r3.2))
    else
     (zHd r3.1 a0)>>=fun r4=>
     if r4.2≠0 then
      some (.inl ([],r4.2))
     else
      if room 8 (x2++[r4.1]).length then
       zDp a0 a1 r1 (IntKind.i64.wrap (x0+1)) (IntKind.i64.wrap (x1+r4.1)) (x2++[r4.1])
      else none
   else none
  else none
 else
  some (.inr (x1,x2))
 partial_fixpoint
def zBz (a0:Int) (j5:Int×(List Int)) (x0:Int) (x1:List Int):Option (Sum ((List Int)×Int) (List Int)):=
 if x0<(j5.2.length:Int) then
  if 0≤x0∧x0<(j5.2.length:Int) then
   (zFs (at' j5.2 x0) j5.1 a0)>>=fun r6=>
   if r6.2≠0 then
    some (.inl ([],r6.2))
   else
    if room 8 (x1++[r6.1]).length then
     zBz a0 j5 (IntKind.i64.wrap (x0+1)) (x1++[r6.1])
    else none
  else none
 else
  some (.inr x1)
 partial_fixpoint
def zGT (a0:Int) (a1:List Int):Option ((List Int)×Int):=
 (zGH a1)>>=fun r1=>
 if r1.2≠0 then
  some ([],r1.2)
 else
  ((
   if a0<0 then
    some true
   else
    some (decide (a0>30))):Option Bool)>>=fun j2=>
  if j2=true then
   some ([],1)
  else
   (zDp a0 a1 r1 0 0 [])>>=fun e=>match e with
   | .inl r=>some r
   | .inr j5=>
    (zBz a0 j5 0 [])>>=fun e=>match e with
    | .inl r=>some r
    | .inr j7=>
     some (j7,0)
def zER (a0:Int) (a1:List Int) (a2:List Int) (a3:Int):Option ((List Int)×Int):=
 (zGa a0 a1 a2 a3)>>=fun r1=>
 if r1.2≠0 then
  some ([],r1.2)
 else
  (zGT a3 r1.1)>>=fun r2=>
  some (r2.1,r2.2)
def zFm (a0:Int) (a1:List Int) (a2:zAa) (a3:Int):Option ((List Int)×Int):=
 (zER a0 a1 a2.F_X a3)>>=fun r1=>
 if r1.2≠0 then
  some ([],r1.2)
 else
  ((
   if a2.F_Y<0 then
    some true
   else
    some (decide (a2.F_Y≥a0))):Option Bool)>>=fun j2=>
  if j2=true then
   some ([],1)
  else
   if 0≤a2.F_Y∧a2.F_Y<(r1.1.length:Int) then
    if 0≤a3 then
     if 0≤a2.F_Y∧a2.F_Y<(r1.1.length:Int) then
      some (r1.1.set (Int.toNat a2.F_Y) (IntKind.i64.wrap ((at' r1.1 a2.F_Y)-(sShl .i64 1 a3))),0)
     else none
    else none
   else none
def zBM (a0:List Int) (a1:Int) (a2:Int) (x0:Int) (x1:List Int):Option (Sum ((List Int)×Int) (List Int)):=
 if x0<(a0.length:Int) then
  if 0≤x0∧x0<(a0.length:Int) then
   (zEo (at' a0 x0) a1 a2)>>=fun r2=>
   if r2.2≠0 then
    some (.inl ([],r2.2))
   else
    if room 8 (x1++[r2.1]).length then
     zBM a0 a1 a2 (IntKind.i64.wrap (x0+1)) (x1++[r2.1])
    else none
  else none
 else
  some (.inr x1)
 partial_fixpoint
def zC9 (a0:List Int) (a1:Int) (a2:Int):Option ((List Int)×Int):=
 if (a0.length:Int)>4096 then
  some ([],3)
 else
  ((
   if a2<0 then
    some true
   else
    some (decide (a2>30))):Option Bool)>>=fun j1=>
  if j1=true then
   some ([],1)
  else
   (zBM a0 a1 a2 0 [])>>=fun e=>match e with
   | .inl r=>some r
   | .inr j3=>
    some (j3,0)
def zIF (a0:List Int):Option Int:=
 if (a0.length:Int)>4096 then
  some 3
 else
  some 0
def zB5 (a0:List Int) (a1:List Int) (x0:Int) (x1:List Int):Option (Sum ((List Int)×Int) (List Int)):=
 if x0<(a0.length:Int) then
  if 0≤x0∧x0<(a0.length:Int) then
   if 0≤x0∧x0<(a1.length:Int) then
    (zEt (at' a0 x0) (at' a1 x0))>>=fun r2=>
    if r2.2≠0 then
     some (.inl ([],r2.2))
    else
     if room 8 (x1++[r2.1]).length then
      zB5 a0 a1 (IntKind.i64.wrap (x0+1)) (x1++[r2.1])
     else none
   else none
  else none
 else
  some (.inr x1)
 partial_fixpoint
def zHc (a0:List Int) (a1:List Int):Option ((List Int)×Int):=
 (zFA a0 a1)>>=fun r1=>
 if r1≠0 then
  some ([],r1)
 else
  (zB5 a0 a1 0 [])>>=fun e=>match e with
  | .inl r=>some r
  | .inr j3=>
   some (j3,0)
def zBB (a0:List (List Int)) (x0:Int) (x1:List Int):Option (Sum ((List Int)×Int) (List Int)):=
 if x0<(a0.length:Int) then
  if 0≤x0∧x0<(a0.length:Int) then
   if x0=0 then
    (zIF (at' a0 x0))>>=fun r1=>
    if r1≠0 then
     some (.inl ([],r1))
    else
     if room 8 (x1++(at' a0 x0)).length then
      zBB a0 (IntKind.i64.wrap (x0+1)) (x1++(at' a0 x0))
     else none
   else
    (zHc x1 (at' a0 x0))>>=fun r2=>
    if r2.2≠0 then
     some (.inl ([],r2.2))
    else
     zBB a0 (IntKind.i64.wrap (x0+1)) r2.1
  else none
 else
  some (.inr x1)
 partial_fixpoint
def zFD (a0:List (List Int)):Option ((List Int)×Int):=
 (zBB a0 0 [])>>=fun e=>match e with
 | .inl r=>some r
 | .inr j3=>
  some (j3,0)
def zGS (a0:Int) (a1:Int):Option (Int×Int):=
 (zFs a0 a1 0)>>=fun r1=>
 some (r1.1,r1.2)
def zBV (a0:Int) (r1:(List Int)×Int) (x0:Int) (x1:List Int):Option (Sum ((List Int)×Int) (List Int)):=
 if x0<(r1.1.length:Int) then
  if 0≤x0∧x0<(r1.1.length:Int) then
   (zGS (at' r1.1 x0) a0)>>=fun r2=>
   if r2.2≠0 then
    some (.inl ([],r2.2))
   else
    if room 8 (x1++[r2.1]).length then
     zBV a0 r1 (IntKind.i64.wrap (x0+1)) (x1++[r2.1])
    else none
  else none
 else
  some (.inr x1)
 partial_fixpoint
def zDy (a0:Int) (a1:List (List Int)):Option ((List Int)×Int):=
 if a0<1 then
  some ([],1)
 else
  (zFD a1)>>=fun r1=>
  if r1.2≠0 then
   some ([],r1.2)
  else
   (zBV a0 r1 0 [])>>=fun e=>match e with
   | .inl r=>some r
   | .inr j3=>
    some (j3,0)
def zDq (a0:Int) (a1:List Int) (a2:Int) (a3:List zAa) (x0:Int) (x1:List (List Int)) (r2:(List Int)×Int) (x0_:Int) (x1_:List Int):Option (Sum ((List Int)×Int) (List Int)):=
 if x0_<(r2.1.length:Int) then
  if 0≤x0_∧x0_<(r2.1.length:Int) then
   (zC9 ((at' a3 x0).F_X) (at' r2.1 x0_) a2)>>=fun r3=>
   if r3.2≠0 then
    some (.inl ([],r3.2))
   else
    if room 8 (x1_++r3.1).length then
     if room 8 ((x1_++r3.1)++[at' r2.1 x0_]).length then
      some ((x1_++r3.1)++[at' r2.1 x0_])>>=fun y4=>
      zDq a0 a1 a2 a3 x0 x1 r2 (IntKind.i64.wrap (x0_+1)) y4
     else none
    else none
  else none
 else
  some (.inr x1_)
 partial_fixpoint
def zBY (a0:Int) (a1:List Int) (a2:Int) (a3:List zAa) (x0:Int) (x1:List (List Int)):Option (Sum ((List Int)×Int) (List (List Int))):=
 if x0<(a3.length:Int) then
  if 0≤x0∧x0<(a3.length:Int) then
   (zFm a0 a1 (at' a3 x0) a2)>>=fun r2=>
   if r2.2≠0 then
    some (.inl ([],r2.2))
   else
    (zDq a0 a1 a2 a3 x0 x1 r2 0 [])>>=fun e=>match e with
    | .inl r=>some (.inl r)
    | .inr j6=>
     if room 24 (x1++[j6]).length then
      zBY a0 a1 a2 a3 (IntKind.i64.wrap (x0+1)) (x1++[j6])
     else none
  else none
 else
  some (.inr x1)
 partial_fixpoint
def zGO (a0:Int) (a1:List Int) (a2:Int) (a3:List zAa):Option ((List Int)×Int):=
 (zKb a0 a1 a3)>>=fun r1=>
 if r1≠0 then
  some ([],r1)
 else
  (zBY a0 a1 a2 a3 0 [])>>=fun e=>match e with
  | .inl r=>some r
  | .inr j7=>
   (zDy (a3.length:Int) j7)>>=fun r8=>
   some (r8.1,r8.2)
def zC7 (a0:Int) (a1:List Int) (x0:Int) (x0_:Int) (x1_:List (List Int)):Option (List (List Int)):=
 if x0_<a0 then
  some (IntKind.i64.wrap ((IntKind.i64.wrap (x0_+1))*(IntKind.i64.wrap (x0+1))))>>=fun y3=>
  if cutOk (some (IntKind.i64.wrap (x0_*(IntKind.i64.wrap (x0+1))))) (some y3) a1.length then
   some (cut' a1 (some (IntKind.i64.wrap (x0_*(IntKind.i64.wrap (x0+1))))) (some y3))>>=fun y5=>
   if room 8 (y5:List Int).length then
    if room 24 (x1_++[y5]).length then
     zC7 a0 a1 x0 (IntKind.i64.wrap (x0_+1)) (x1_++[y5])
    else none
   else none
  else none
 else
  some x1_
 partial_fixpoint
def zDd (a0:Int) (a1:List Int) (x0:Int):Option (Sum ((List (List Int))×(List Int)×Int) Unit):=
 if x0≤16 then
  (zEq x0 a0)>>=fun r2=>
  if r2.1≠(a1.length:Int) then
   zDd a0 a1 (IntKind.i64.wrap (x0+1))
  else
   (zC7 a0 a1 x0 0 [])>>=fun j7=>
   if cutOk (some (IntKind.i64.wrap (a0*(IntKind.i64.wrap (x0+1))))) none a1.length then
    some (cut' a1 (some (IntKind.i64.wrap (a0*(IntKind.i64.wrap (x0+1))))) none)>>=fun y8=>
    if room 8 (y8:List Int).length then
     some (.inl (j7,y8,0))
    else none
   else none
 else
  some (.inr ())
 partial_fixpoint
def zC6 (a0:Int) (a1:List Int):Option ((List (List Int))×(List Int)×Int):=
 ((
  if a0<1 then
   some true
  else
   some (decide (a0>8))):Option Bool)>>=fun j1=>
 if j1=true then
  some ([],[],1)
 else
  (zDd a0 a1 1)>>=fun e=>match e with
  | .inl r=>some r
  | .inr j10=>
   some ([],[],4)
def zDt (a0:List Int) (x0:Int) (x1:List Int):Option (List Int):=
 if x0<(a0.length:Int) then
  if 0≤x0∧x0<(a0.length:Int) then
   if room 8 (x1++[if (0:Int)>(at' a0 x0) then 0 else at' a0 x0]).length then
    some (x1++[if (0:Int)>(at' a0 x0) then 0 else at' a0 x0])>>=fun y1=>
    zDt a0 (IntKind.i64.wrap (x0+1)) y1
   else none
  else none
 else
  some x1
 partial_fixpoint
def zGG (a0:List Int):Option ((List Int)×Int):=
 if (a0.length:Int)>4096 then
  some ([],3)
 else
  (zDt a0 0 [])>>=fun j3=>
  some (j3,0)
def zBA (a2:List Int) (a3:Int) (r1:(List (List Int))×(List Int)×Int) (x0:Int) (x1:List Int):Option (Sum ((List Int)×Int) (List Int)):=
 if x0<(r1.1.length:Int) then
  if 0≤x0∧x0<(r1.1.length:Int) then
   (zB3 (at' r1.1 x0) a2 a3)>>=fun r3=>
   if r3.2≠0 then
    some (.inl ([],r3.2))
   else
    if room 8 (x1++[r3.1]).length then
     zBA a2 a3 r1 (IntKind.i64.wrap (x0+1)) (x1++[r3.1])
    else none
  else none
 else
  some (.inr x1)
 partial_fixpoint
def zEu (a0:Int) (a1:List Int) (a2:List Int) (a3:Int):Option ((List Int)×Int):=
 (zC6 a0 a1)>>=fun r1=>
 if r1.2.2≠0 then
  some ([],r1.2.2)
 else
  if 0≤(0:Int)∧(0:Int)<(r1.1.length:Int) then
   if ((at' r1.1 0).length:Int)≠(IntKind.i64.wrap ((a2.length:Int)+1)) then
    some ([],4)
   else
    ((
     if a3<0 then
      some true
     else
      some (decide (a3>30))):Option Bool)>>=fun j2=>
    if j2=true then
     some ([],1)
    else
     (zBA a2 a3 r1 0 [])>>=fun e=>match e with
     | .inl r=>some r
     | .inr j4=>
      (zGG j4)>>=fun r5=>
      some (r5.1,r5.2)
  else none
def zEV (a0:Int) (a1:List Int) (a2:List Int) (a3:Int):Option (Int×Int):=
 (zEu a0 a1 a2 a3)>>=fun r1=>
 if r1.2≠0 then
  some (0,r1.2)
 else
  (zC6 a0 a1)>>=fun r2=>
  (zB3 r2.2.1 r1.1 a3)>>=fun r3=>
  some (r3.1,r3.2)
def zHm (a0:Int) (a1:List Int) (a2:zAa) (a3:Int):Option (Int×Int):=
 (zEV a0 a1 a2.F_X a3)>>=fun r1=>
 if r1.2≠0 then
  some (0,r1.2)
 else
  (zDK r1.1 a2.F_Y)>>=fun r2=>
  some (r2.1,r2.2)
def zDC (a2:zAa) (a3:Int) (r1:Int×Int) (r2:(List Int)×Int) (r3:(List (List Int))×(List Int)×Int) (x0:Int) (x1:List Int):Option (Sum ((List Int)×Int) (List Int)):=
 if x0<(r2.1.length:Int) then
  if 0≤x0∧x0<(r2.1.length:Int) then
   ((
    if (at' r2.1 x0)>0 then
     if 0≤x0∧x0<(r3.2.1.length:Int) then
      (zEo r1.1 (at' r3.2.1 x0) a3)>>=fun r4=>
      if r4.2≠0 then
       some (.inl ([],r4.2))
      else
       some (.inr r4.1)
     else none
    else
     some (.inr 0)):Option (Sum ((List Int)×Int) Int))>>=fun e=>match e with
   | .inl r=>some (.inl r)
   | .inr j5=>
    (zC9 a2.F_X j5 a3)>>=fun r6=>
    if r6.2≠0 then
     some (.inl ([],r6.2))
    else
     if room 8 (x1++r6.1).length then
      if room 8 ((x1++r6.1)++[j5]).length then
       zDC a2 a3 r1 r2 r3 (IntKind.i64.wrap (x0+1)) ((x1++r6.1)++[j5])
      else none
     else none
  else none
 else
  some (.inr x1)
 partial_fixpoint
def zHg (a0:Int) (a1:List Int) (a2:zAa) (a3:Int):Option ((List Int)×Int):=
 (zHm a0 a1 a2 a3)>>=fun r1=>
 if r1.2≠0 then
  some ([],r1.2)
 else
  (zEu a0 a1 a2.F_X a3)>>=fun r2=>
  (zC6 a0 a1)>>=fun r3=>
  (zDC a2 a3 r1 r2 r3 0 [])>>=fun e=>match e with
  | .inl r=>some r
  | .inr j7=>
   (zC9 r2.1 r1.1 a3)>>=fun r8=>
   if r8.2≠0 then
    some ([],r8.2)
   else
    if room 8 (j7++r8.1).length then
     if room 8 ((j7++r8.1)++[r1.1]).length then
      some ((j7++r8.1)++[r1.1],0)
     else none
    else none
def zBZ (a0:Int) (a1:List Int) (a2:Int) (a3:List zAa) (x0:Int) (x1:List (List Int)):Option (Sum ((List Int)×Int) (List (List Int))):=
 if x0<(a3.length:Int) then
  if 0≤x0∧x0<(a3.length:Int) then
   (zHg a0 a1 (at' a3 x0) a2)>>=fun r3=>
   if r3.2≠0 then
    some (.inl ([],r3.2))
   else
    if room 24 (x1++[r3.1]).length then
     zBZ a0 a1 a2 a3 (IntKind.i64.wrap (x0+1)) (x1++[r3.1])
    else none
  else none
 else
  some (.inr x1)
 partial_fixpoint
def zGR (a0:Int) (a1:List Int) (a2:Int) (a3:List zAa):Option ((List Int)×Int):=
 (zC6 a0 a1)>>=fun r1=>
 if r1.2.2≠0 then
  some ([],r1.2.2)
 else
  if 0≤(0:Int)∧(0:Int)<(r1.1.length:Int) then
   (zDW (IntKind.i64.wrap (((at' r1.1 0).length:Int)-1)) a0 a1 a3)>>=fun r2=>
   if r2≠0 then
    some ([],r2)
   else
    (zBZ a0 a1 a2 a3 0 [])>>=fun e=>match e with
    | .inl r=>some r
    | .inr j4=>
     (zDy (a3.length:Int) j4)>>=fun r5=>
     some (r5.1,r5.2)
  else none
def zHf (a0:List Int) (a1:zAa) (a2:Int):Option (Int×Int):=
 (zB3 a0 a1.F_X a2)>>=fun r1=>
 if r1.2≠0 then
  some (0,r1.2)
 else
  (zDK r1.1 a1.F_Y)>>=fun r2=>
  some (r2.1,r2.2)
def zBS (a0:List Int) (a1:Int) (a2:List zAa) (x0:Int) (x1:List (List Int)):Option (Sum ((List Int)×Int) (List (List Int))):=
 if x0<(a2.length:Int) then
  if 0≤x0∧x0<(a2.length:Int) then
   (zHf a0 (at' a2 x0) a1)>>=fun r2=>
   if r2.2≠0 then
    some (.inl ([],r2.2))
   else
    (zC9 ((at' a2 x0).F_X) r2.1 a1)>>=fun r3=>
    if r3.2≠0 then
     some (.inl ([],r3.2))
    else
     if room 8 (r3.1++[r2.1]).length then
      if room 24 (x1++[r3.1++[r2.1]]).length then
       zBS a0 a1 a2 (IntKind.i64.wrap (x0+1)) (x1++[r3.1++[r2.1]])
      else none
     else none
  else none
 else
  some (.inr x1)
 partial_fixpoint
def zGM (a0:List Int) (a1:Int) (a2:List zAa):Option ((List Int)×Int):=
 (zCd (IntKind.i64.wrap ((a0.length:Int)-1)) a0 a2)>>=fun r1=>
 if r1≠0 then
  some ([],r1)
 else
  (zBS a0 a1 a2 0 [])>>=fun e=>match e with
  | .inl r=>some r
  | .inr j4=>
   (zDy (a2.length:Int) j4)>>=fun r5=>
   some (r5.1,r5.2)
def zGJ (a0:zAc) (a1:List Int) (a2:List zAa):Option ((List Int)×Int):=
 (zDz a0 a1 a2)>>=fun r1=>
 if r1≠0 then
  some ([],r1)
 else
  if a0.F_Kind=1 then
   (zGO a0.F_Out a1 a0.F_Frac a2)>>=fun r2=>
   some (r2.1,r2.2)
  else
   if a0.F_Kind=2 then
    (zGR a0.F_Hid a1 a0.F_Frac a2)>>=fun r3=>
    some (r3.1,r3.2)
   else
    (zGM a1 a0.F_Frac a2)>>=fun r4=>
    some (r4.1,r4.2)
def zBo (a0:List Int) (a1:Int) (x0:Int) (x1:List Int):Option (List Int):=
 if x0<(a0.length:Int) then
  if 0≤x0∧x0<(a0.length:Int) then
   if room 8 (x1++[if (if a1<(at' a0 x0) then a1 else at' a0 x0)>(IntKind.i64.wrap (0-a1)) then if a1<(at' a0 x0) then a1 else at' a0 x0 else IntKind.i64.wrap (0-a1)]).length then
    some (x1++[if (if a1<(at' a0 x0) then a1 else at' a0 x0)>(IntKind.i64.wrap (0-a1)) then if a1<(at' a0 x0) then a1 else at' a0 x0 else IntKind.i64.wrap (0-a1)])>>=fun y1=>
    zBo a0 a1 (IntKind.i64.wrap (x0+1)) y1
   else none
  else none
 else
  some x1
 partial_fixpoint
def zGF (a0:List Int) (a1:Int):Option ((List Int)×Int):=
 if (a0.length:Int)>4096 then
  some ([],3)
 else
  if a1<0 then
   some ([],1)
  else
   (zBo a0 a1 0 [])>>=fun j3=>
   some (j3,0)
def zGP (a0:zAc) (a1:List Int) (a2:Int) (a3:List zAa):Option ((List Int)×Int):=
 (zGJ a0 a1 a3)>>=fun r1=>
 if r1.2≠0 then
  some ([],r1.2)
 else
  (zGF r1.1 a2)>>=fun r2=>
  some (r2.1,r2.2)
def zDo (a0:zAl) (a3:List Int) (r1:(List Int)×Int) (x0:Int) (x1:List zAa):Option (List zAa):=
 if x0<(r1.1.length:Int) then
  if 0≤x0∧x0<(r1.1.length:Int) then
   if 0≤at' r1.1 x0∧at' r1.1 x0<(a0.F_L.length:Int) then
    if room 32 (x1++[at' a0.F_L (at' r1.1 x0)]).length then
     some (x1++[at' a0.F_L (at' r1.1 x0)])>>=fun y2=>
     zDo a0 a3 r1 (IntKind.i64.wrap (x0+1)) y2
    else none
   else none
  else none
 else
  some x1
 partial_fixpoint
def zGK (a0:zAl) (a1:Int) (a2:Int) (a3:List Int):Option ((List Int)×Int):=
 (zGq a0 a1 a2)>>=fun r1=>
 if r1.2≠0 then
  some ([],r1.2)
 else
  (zDo a0 a3 r1 0 [])>>=fun j4=>
  (zGP a0.F_M a3 a0.F_Clip j4)>>=fun r5=>
  some (r5.1,r5.2)
end Go.Proofs.YtnmlihfpenjeiaaGreat.Abs
