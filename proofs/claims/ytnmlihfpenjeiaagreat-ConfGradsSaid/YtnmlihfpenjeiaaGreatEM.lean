/- Models of functions, printed by a program. Conditions: none. -/
import Derived.Test.YtnmlihfpenjeiaaGreatMathS
import Derived.Test.YtnmlihfpenjeiaaGreatChunk
import Derived.Test.YtnmlihfpenjeiaaGreatAbs5
namespace Go.Proofs.YtnmlihfpenjeiaaGreat.Abs
open Go Go.RowKit
set_option linter.unusedVariables false
set_option maxRecDepth 100000
structure zAf where
 F_Kind:Int
 F_In:Int
 F_Out:Int
 F_Hid:Int
 F_Frac:Int
 deriving Inhabited,DecidableEq
structure zBa where
 F_Scheme:Int
 F_K:Int
 F_Wide:Int
 deriving Inhabited,DecidableEq
structure zAa where
 F_X:List Int
 F_Y:Int
 deriving Inhabited,DecidableEq
structure zAq where
 F_N:Int
 F_M:zAf
 F_H:zBa
 F_Warm:Int
 F_Rate:Int
 F_Mom:Int
 F_Clip:Int
 F_Batch:Int
 F_Seed:Int
 F_L:List zAa
 deriving Inhabited,DecidableEq
structure zAv where
 F_Model:zAf
 deriving Inhabited,DecidableEq
structure zAx where
 F_Model:zAf
 deriving Inhabited,DecidableEq
structure zAE where
 F_Model:zAf
 deriving Inhabited,DecidableEq
structure zBK where
 F_c0:Int
 F_c1:Int
 deriving Inhabited,DecidableEq
structure zES where
 F_last:List Int
 deriving Inhabited,DecidableEq
structure zBj where
 F_line:zES
 F_rows:List (List Int)
 F_in:Int
 deriving Inhabited,DecidableEq
def zAf.en (x:zAf):D:= .agg [.int .i64 x.F_Kind, .int .i64 x.F_In, .int .i64 x.F_Out, .int .i64 x.F_Hid, .int .i64 x.F_Frac]
def zBa.en (x:zBa):D:= .agg [.int .i64 x.F_Scheme, .int .i64 x.F_K, .int .i64 x.F_Wide]
def zAa.en (x:zAa):D:= .agg [.lst (List.map (D.int .i64) x.F_X), .int .i64 x.F_Y]
def zAq.en (x:zAq):D:= .agg [.int .i64 x.F_N, .int .i64 x.F_M.F_Kind, .int .i64 x.F_M.F_In, .int .i64 x.F_M.F_Out, .int .i64 x.F_M.F_Hid, .int .i64 x.F_M.F_Frac, .int .i64 x.F_H.F_Scheme, .int .i64 x.F_H.F_K, .int .i64 x.F_H.F_Wide, .int .i64 x.F_Warm, .int .i64 x.F_Rate, .int .i64 x.F_Mom, .int .i64 x.F_Clip, .int .i64 x.F_Batch, .int .u64 x.F_Seed, .lst (List.map zAa.en x.F_L)]
def zAv.en (x:zAv):D:= .agg [.int .i64 x.F_Model.F_Kind, .int .i64 x.F_Model.F_In, .int .i64 x.F_Model.F_Out, .int .i64 x.F_Model.F_Hid, .int .i64 x.F_Model.F_Frac]
def zAx.en (x:zAx):D:= .agg [.int .i64 x.F_Model.F_Kind, .int .i64 x.F_Model.F_In, .int .i64 x.F_Model.F_Out, .int .i64 x.F_Model.F_Hid, .int .i64 x.F_Model.F_Frac]
def zAE.en (x:zAE):D:= .agg [.int .i64 x.F_Model.F_Kind, .int .i64 x.F_Model.F_In, .int .i64 x.F_Model.F_Out, .int .i64 x.F_Model.F_Hid, .int .i64 x.F_Model.F_Frac]
def zBK.en (x:zBK):D:= .agg [.int .u64 x.F_c0, .int .u64 x.F_c1]
def zES.en (x:zES):D:= .agg [.lst (List.map (D.int .i64) x.F_last)]
def zBj.en (x:zBj):D:= .agg [.lst (List.map (D.int .i64) x.F_line.F_last), .lst (List.map (enL (D.int .i64)) x.F_rows), .int .i64 x.F_in]
def zBd (a0:Int) (a1:Int) (a2:Int):Option Bool:=
 ((
  if a0≥a1 then
   some (decide (a0≤a2))
  else
   some false):Option Bool)>>=fun j1=>
 some j1
def zDQ (a0:Int) (a1:Int) (a2:Int) (a3:Int):Option (Int×Int):=
 (zBd a0 1 4096)>>=fun r1=>
 ((
  if r1=false then
   some true
  else
   (zBd a1 0 a0)>>=fun r2=>
   some (!r2)):Option Bool)>>=fun j3=>
 ((
  if j3=true then
   some true
  else
   (zBd a2 0 1048576)>>=fun r4=>
   some (!r4)):Option Bool)>>=fun j5=>
 ((
  if j5=true then
   some true
  else
   (zBd a3 0 1073741824)>>=fun r6=>
   some (!r6)):Option Bool)>>=fun j7=>
 if j7=true then
  some (0,1)
 else
  if a3≥a2 then
   some (a1,0)
  else
   if a2≠0 then
    some (IntKind.i64.wrap (a0-(IntKind.i64.wrap (Int.tdiv (IntKind.i64.wrap ((IntKind.i64.wrap (a0-a1))*a3)) a2))),0)
   else none
def zD0 (a0:Int):Option (Int×Int):=
 ((
  if a0<1 then
   some true
  else
   some (decide (a0>16))):Option Bool)>>=fun j1=>
 if j1=true then
  some (0,1)
 else
  some (IntKind.i64.wrap (a0+1),0)
def zBt (a0:zAv):Option (Int×Int):=
 (zD0 a0.F_Model.F_In)>>=fun r1=>
 some (r1.1,r1.2)
def zFQ (a0:Int):Option Bool:=
 ((
  if a0>1 then
   some (decide (a0≤8))
  else
   some false):Option Bool)>>=fun j1=>
 some j1
def zIL (a0:Int) (a1:Int):Option (Int×Int):=
 (zD0 a0)>>=fun r1=>
 ((
  if r1.2≠0 then
   some true
  else
   (zFQ a1)>>=fun r2=>
   some (!r2)):Option Bool)>>=fun j3=>
 if j3=true then
  some (0,1)
 else
  some (IntKind.i64.wrap (r1.1*a1),0)
def zBz (a0:zAx):Option (Int×Int):=
 (zIL a0.F_Model.F_In a0.F_Model.F_Out)>>=fun r1=>
 some (r1.1,r1.2)
def zHK (a0:Int):Option Bool:=
 ((
  if a0>0 then
   some (decide (a0≤8))
  else
   some false):Option Bool)>>=fun j1=>
 some j1
def zIc (a0:Int) (a1:Int):Option (Int×Int):=
 (zD0 a0)>>=fun r1=>
 ((
  if r1.2≠0 then
   some true
  else
   (zHK a1)>>=fun r2=>
   some (!r2)):Option Bool)>>=fun j3=>
 if j3=true then
  some (0,1)
 else
  some (IntKind.i64.wrap ((IntKind.i64.wrap ((IntKind.i64.wrap (a1*r1.1))+a1))+1),0)
def zBF (a0:zAE):Option (Int×Int):=
 (zIc a0.F_Model.F_In a0.F_Model.F_Hid)>>=fun r1=>
 some (r1.1,r1.2)
abbrev zAt:Type:=(Int×Int) ⊕ (Int×Int×Int×Int×Int×Int×Int) ⊕ (Int×Int×Int×Int×Int×Int×Int) ⊕ (Int×Int×Int×Int×Int×Int×Int)
def zFY (a0:zAf):Option zAt:=
 if a0.F_Kind=(0:Int) then
  ((
   if a0.F_Frac<0 then
    some true
   else
    some (decide (a0.F_Frac>30))):Option Bool)>>=fun j1=>
  if j1=true then
   some (.inl (0,1):zAt)
  else
   if a0.F_Kind≠1 then
    if a0.F_Out≠0 then
     some (.inl (0,1):zAt)
    else
     if a0.F_Kind≠2 then
      if a0.F_Hid≠0 then
       some (.inl (0,1):zAt)
      else
       (zBt (⟨a0⟩:zAv))>>=fun r2=>
       some (.inr (.inl (a0.F_Kind,a0.F_In,a0.F_Out,a0.F_Hid,a0.F_Frac,r2.1,r2.2)):zAt)
     else
      (zBt (⟨a0⟩:zAv))>>=fun r3=>
      some (.inr (.inl (a0.F_Kind,a0.F_In,a0.F_Out,a0.F_Hid,a0.F_Frac,r3.1,r3.2)):zAt)
   else
    if a0.F_Kind≠2 then
     if a0.F_Hid≠0 then
      some (.inl (0,1):zAt)
     else
      (zBt (⟨a0⟩:zAv))>>=fun r4=>
      some (.inr (.inl (a0.F_Kind,a0.F_In,a0.F_Out,a0.F_Hid,a0.F_Frac,r4.1,r4.2)):zAt)
    else
     (zBt (⟨a0⟩:zAv))>>=fun r5=>
     some (.inr (.inl (a0.F_Kind,a0.F_In,a0.F_Out,a0.F_Hid,a0.F_Frac,r5.1,r5.2)):zAt)
 else
  if a0.F_Kind=(1:Int) then
   ((
    if a0.F_Frac<0 then
     some true
    else
     some (decide (a0.F_Frac>30))):Option Bool)>>=fun j6=>
   if j6=true then
    some (.inl (0,1):zAt)
   else
    if a0.F_Kind≠1 then
     if a0.F_Out≠0 then
      some (.inl (0,1):zAt)
     else
      if a0.F_Kind≠2 then
       if a0.F_Hid≠0 then
        some (.inl (0,1):zAt)
       else
        (zBz (⟨a0⟩:zAx))>>=fun r7=>
        some (.inr (.inr (.inl (a0.F_Kind,a0.F_In,a0.F_Out,a0.F_Hid,a0.F_Frac,r7.1,r7.2))):zAt)
      else
       (zBz (⟨a0⟩:zAx))>>=fun r8=>
       some (.inr (.inr (.inl (a0.F_Kind,a0.F_In,a0.F_Out,a0.F_Hid,a0.F_Frac,r8.1,r8.2))):zAt)
    else
     if a0.F_Kind≠2 then
      if a0.F_Hid≠0 then
       some (.inl (0,1):zAt)
      else
       (zBz (⟨a0⟩:zAx))>>=fun r9=>
       some (.inr (.inr (.inl (a0.F_Kind,a0.F_In,a0.F_Out,a0.F_Hid,a0.F_Frac,r9.1,r9.2))):zAt)
     else
      (zBz (⟨a0⟩:zAx))>>=fun r10=>
      some (.inr (.inr (.inl (a0.F_Kind,a0.F_In,a0.F_Out,a0.F_Hid,a0.F_Frac,r10.1,r10.2))):zAt)
  else
   if a0.F_Kind=(2:Int) then
    ((
     if a0.F_Frac<0 then
      some true
     else
      some (decide (a0.F_Frac>30))):Option Bool)>>=fun j11=>
    if j11=true then
     some (.inl (0,1):zAt)
    else
     if a0.F_Kind≠1 then
      if a0.F_Out≠0 then
       some (.inl (0,1):zAt)
      else
       if a0.F_Kind≠2 then
        if a0.F_Hid≠0 then
         some (.inl (0,1):zAt)
        else
         (zBF (⟨a0⟩:zAE))>>=fun r12=>
         some (.inr (.inr (.inr (a0.F_Kind,a0.F_In,a0.F_Out,a0.F_Hid,a0.F_Frac,r12.1,r12.2))):zAt)
       else
        (zBF (⟨a0⟩:zAE))>>=fun r13=>
        some (.inr (.inr (.inr (a0.F_Kind,a0.F_In,a0.F_Out,a0.F_Hid,a0.F_Frac,r13.1,r13.2))):zAt)
     else
      if a0.F_Kind≠2 then
       if a0.F_Hid≠0 then
        some (.inl (0,1):zAt)
       else
        (zBF (⟨a0⟩:zAE))>>=fun r14=>
        some (.inr (.inr (.inr (a0.F_Kind,a0.F_In,a0.F_Out,a0.F_Hid,a0.F_Frac,r14.1,r14.2))):zAt)
      else
       (zBF (⟨a0⟩:zAE))>>=fun r15=>
       some (.inr (.inr (.inr (a0.F_Kind,a0.F_In,a0.F_Out,a0.F_Hid,a0.F_Frac,r15.1,r15.2))):zAt)
   else
    some (.inl (0,1):zAt)
def zHM (a0:zAf):Option (Int×Int):=
 (zFY a0)>>=fun e=>match e with
 | .inl r1=>
  some (r1.1,r1.2)
 | .inr (.inl r2)=>
  some (r2.2.2.2.2.2.1,r2.2.2.2.2.2.2)
 | .inr (.inr (.inl r3))=>
  some (r3.2.2.2.2.2.1,r3.2.2.2.2.2.2)
 | .inr (.inr (.inr r4))=>
  some (r4.2.2.2.2.2.1,r4.2.2.2.2.2.2)
def zKG:Option Unit:=
 some ()
def zG4 (a0:zBa) (a1:Int):Option Bool:=
 ((
  if a0.F_K=0 then
   some (a0.F_Wide==0)
  else
   some false):Option Bool)>>=fun j1=>
 some j1
def zIW (a0:zBa) (a1:Int):Option Bool:=
 ((
  if a0.F_K≥0 then
   some (decide (a0.F_K≤a1))
  else
   some false):Option Bool)>>=fun j1=>
 ((
  if j1=true then
   some (a0.F_Wide==0)
  else
   some false):Option Bool)>>=fun j2=>
 some j2
def zI1 (a0:zBa) (a1:Int):Option Bool:=
 ((
  if a0.F_K=0 then
   some (decide (a0.F_Wide>0))
  else
   some false):Option Bool)>>=fun j1=>
 ((
  if j1=true then
   some (decide (a0.F_Wide≤8))
  else
   some false):Option Bool)>>=fun j2=>
 some j2
def zHS (a0:zBa) (a1:Int):Option Int:=
 (zKG)>>=fun r1=>
 if a0.F_Scheme=(0:Int) then
  ((
   if (hasK a0.F_Scheme [0,1,2,3])=false then
    some true
   else
    some (decide (a1<1))):Option Bool)>>=fun j2=>
  ((
   if j2=true then
    some true
   else
    some (decide (a1>4096))):Option Bool)>>=fun j3=>
  ((
   if j3=true then
    some true
   else
    (zG4 a0 a1)>>=fun r4=>
    some (!r4)):Option Bool)>>=fun j5=>
  if j5=true then
   some 1
  else
   some 0
 else
  if a0.F_Scheme=(1:Int) then
   ((
    if (hasK a0.F_Scheme [0,1,2,3])=false then
     some true
    else
     some (decide (a1<1))):Option Bool)>>=fun j6=>
   ((
    if j6=true then
     some true
    else
     some (decide (a1>4096))):Option Bool)>>=fun j7=>
   ((
    if j7=true then
     some true
    else
     (zIW a0 a1)>>=fun r8=>
     some (!r8)):Option Bool)>>=fun j9=>
   if j9=true then
    some 1
   else
    some 0
  else
   if a0.F_Scheme=(2:Int) then
    ((
     if (hasK a0.F_Scheme [0,1,2,3])=false then
      some true
     else
      some (decide (a1<1))):Option Bool)>>=fun j10=>
    ((
     if j10=true then
      some true
     else
      some (decide (a1>4096))):Option Bool)>>=fun j11=>
    ((
     if j11=true then
      some true
     else
      (zI1 a0 a1)>>=fun r12=>
      some (!r12)):Option Bool)>>=fun j13=>
    if j13=true then
     some 1
    else
     some 0
   else
    if a0.F_Scheme=(3:Int) then
     ((
      if (hasK a0.F_Scheme [0,1,2,3])=false then
       some true
      else
       some (decide (a1<1))):Option Bool)>>=fun j14=>
     ((
      if j14=true then
       some true
      else
       some (decide (a1>4096))):Option Bool)>>=fun j15=>
     ((
      if j15=true then
       some true
      else
       (zG4 a0 a1)>>=fun r16=>
       some (!r16)):Option Bool)>>=fun j17=>
     if j17=true then
      some 1
     else
      some 0
    else
     ((
      if (hasK a0.F_Scheme [0,1,2,3])=false then
       some true
      else
       some (decide (a1<1))):Option Bool)>>=fun j18=>
     ((
      if j18=true then
       some true
      else
       some (decide (a1>4096))):Option Bool)>>=fun j19=>
     ((
      if j19=true then
       some ()
      else
       none):Option Unit)>>=fun j20=>
     some 1
def zDI (a0:Int) (a1:Int) (a2:Int):Option Bool:=
 ((
  if a0≥a1 then
   some (decide (a0≤a2))
  else
   some false):Option Bool)>>=fun j1=>
 some j1
def zBS (a0:Int) (a2:List zAa) (x0:Int) (x1:Bool):Option Bool:=
 if x0<(a2.length:Int) then
  if 0≤x0∧x0<(a2.length:Int) then
   ((
    if x1=true then
     some ((((at' a2 x0).F_X).length:Int)==a0)
    else
     some false):Option Bool)>>=fun j2=>
   zBS a0 a2 (IntKind.i64.wrap (x0+1)) j2
  else none
 else
  some x1
 partial_fixpoint
def zCy (a0:Int) (a1:List Int) (a2:List zAa):Option Int:=
 (zD0 a0)>>=fun r1=>
 if r1.2≠0 then
  some r1.2
 else
  (zBS a0 a2 0 ((a1.length:Int)==r1.1))>>=fun j3=>
  if j3=false then
   some 4
  else
   ((
    if (a2.length:Int)=0 then
     some true
    else
     some (decide ((a2.length:Int)>64))):Option Bool)>>=fun j4=>
   if j4=true then
    some 1
   else
    some 0
def zB2 (a0:zAv) (a1:List Int) (a2:List zAa):Option Int:=
 (zCy a0.F_Model.F_In a1 a2)>>=fun r1=>
 some r1
def zF5 (a0:zAa) (a1:Int):Option Bool:=
 some ((a0.F_X.length:Int) !=a1)
def zAm (a0:List zAa) (a1:Int) (x0:Int):Option (Sum Int Unit):=
 if x0<(a0.length:Int) then
  if 0≤x0∧x0<(a0.length:Int) then
   (zF5 (at' a0 x0) a1)>>=fun r1=>
   if r1=true then
    some (.inl x0)
   else
    zAm a0 a1 (IntKind.i64.wrap (x0+1))
  else none
 else
  some (.inr ())
 partial_fixpoint
def zAL (a0:List zAa) (a1:Int):Option Int:=
 (zAm a0 a1 0)>>=fun e=>match e with
 | .inl r=>some r
 | .inr j2=>
  some (-1)
def zAA (a0:List zAa) (a1:Int):Option Bool:=
 (zAL a0 a1)>>=fun r1=>
 some (decide (r1≥0))
def zFV (a0:zAa) (a1:Int):Option Bool:=
 ((
  if a0.F_Y<0 then
   some true
  else
   some (decide (a0.F_Y≥a1))):Option Bool)>>=fun j1=>
 some j1
def zAl (a0:List zAa) (a1:Int) (x0:Int):Option (Sum Int Unit):=
 if x0<(a0.length:Int) then
  if 0≤x0∧x0<(a0.length:Int) then
   (zFV (at' a0 x0) a1)>>=fun r1=>
   if r1=true then
    some (.inl x0)
   else
    zAl a0 a1 (IntKind.i64.wrap (x0+1))
  else none
 else
  some (.inr ())
 partial_fixpoint
def zAK (a0:List zAa) (a1:Int):Option Int:=
 (zAl a0 a1 0)>>=fun e=>match e with
 | .inl r=>some r
 | .inr j2=>
  some (-1)
def zAB (a0:List zAa) (a1:Int):Option Bool:=
 (zAK a0 a1)>>=fun r1=>
 some (decide (r1≥0))
def zFE (a0:Int) (a1:Int) (a2:List Int) (a3:List zAa):Option Int:=
 (zIL a0 a1)>>=fun r1=>
 if r1.2≠0 then
  some r1.2
 else
  ((
   if (a2.length:Int)≠r1.1 then
    some true
   else
    (zAA a3 a0)>>=fun r2=>
    some r2):Option Bool)>>=fun j3=>
  if j3=true then
   some 4
  else
   ((
    if (a3.length:Int)=0 then
     some true
    else
     some (decide ((a3.length:Int)>64))):Option Bool)>>=fun j4=>
   ((
    if j4=true then
     some true
    else
     (zAB a3 a1)>>=fun r5=>
     some r5):Option Bool)>>=fun j6=>
   if j6=true then
    some 1
   else
    some 0
def zCf (a0:zAx) (a1:List Int) (a2:List zAa):Option Int:=
 (zFE a0.F_Model.F_In a0.F_Model.F_Out a1 a2)>>=fun r1=>
 some r1
def zGH (a0:zAa) (a1:Int):Option Bool:=
 some ((a0.F_X.length:Int) !=a1)
def zAn (a0:List zAa) (a1:Int) (x0:Int):Option (Sum Int Unit):=
 if x0<(a0.length:Int) then
  if 0≤x0∧x0<(a0.length:Int) then
   (zGH (at' a0 x0) a1)>>=fun r1=>
   if r1=true then
    some (.inl x0)
   else
    zAn a0 a1 (IntKind.i64.wrap (x0+1))
  else none
 else
  some (.inr ())
 partial_fixpoint
def zAN (a0:List zAa) (a1:Int):Option Int:=
 (zAn a0 a1 0)>>=fun e=>match e with
 | .inl r=>some r
 | .inr j2=>
  some (-1)
def zAC (a0:List zAa) (a1:Int):Option Bool:=
 (zAN a0 a1)>>=fun r1=>
 some (decide (r1≥0))
def zGu (a0:Int) (a1:Int) (a2:List Int) (a3:List zAa):Option Int:=
 (zIc a0 a1)>>=fun r1=>
 if r1.2≠0 then
  some r1.2
 else
  ((
   if (a2.length:Int)≠r1.1 then
    some true
   else
    (zAC a3 a0)>>=fun r2=>
    some r2):Option Bool)>>=fun j3=>
  if j3=true then
   some 4
  else
   ((
    if (a3.length:Int)=0 then
     some true
    else
     some (decide ((a3.length:Int)>64))):Option Bool)>>=fun j4=>
   if j4=true then
    some 1
   else
    some 0
def zCp (a0:zAE) (a1:List Int) (a2:List zAa):Option Int:=
 (zGu a0.F_Model.F_In a0.F_Model.F_Hid a1 a2)>>=fun r1=>
 some r1
def zIo (a0:zAf) (a1:List Int) (a2:List zAa):Option Int:=
 (zFY a0)>>=fun e=>match e with
 | .inl r1=>
  if r1.2≠0 then
   some r1.2
  else
   none
 | .inr (.inl r2)=>
  if r2.2.2.2.2.2.2≠0 then
   some r2.2.2.2.2.2.2
  else
   (zB2 (⟨(⟨r2.1,r2.2.1,r2.2.2.1,r2.2.2.2.1,r2.2.2.2.2.1⟩:zAf)⟩:zAv) a1 a2)>>=fun r3=>
   some r3
 | .inr (.inr (.inl r4))=>
  if r4.2.2.2.2.2.2≠0 then
   some r4.2.2.2.2.2.2
  else
   (zCf (⟨(⟨r4.1,r4.2.1,r4.2.2.1,r4.2.2.2.1,r4.2.2.2.2.1⟩:zAf)⟩:zAx) a1 a2)>>=fun r5=>
   some r5
 | .inr (.inr (.inr r6))=>
  if r6.2.2.2.2.2.2≠0 then
   some r6.2.2.2.2.2.2
  else
   (zCp (⟨(⟨r6.1,r6.2.1,r6.2.2.1,r6.2.2.2.1,r6.2.2.2.2.1⟩:zAf)⟩:zAE) a1 a2)>>=fun r7=>
   some r7
def zGK (a0:zAa) (a1:Int) (a2:Int) (a3:Int) (a4:Int) (a5:Int) (a6:Int) (a7:Int) (a8:Int) (a9:Int) (a10:Int) (a11:Int) (a12:Int) (a13:Int) (a14:Int) (a15:Int) (a16:List zAa) (a17:List Int):Option Bool:=
 (zIo (⟨a2,a3,a4,a5,a6⟩:zAf) a17 [a0])>>=fun r1=>
 some (r1 !=0)
def zAs (a0:List zAa) (a1:Int) (a2:Int) (a3:Int) (a4:Int) (a5:Int) (a6:Int) (a7:Int) (a8:Int) (a9:Int) (a10:Int) (a11:Int) (a12:Int) (a13:Int) (a14:Int) (a15:Int) (a16:List zAa) (a17:List Int) (x0:Int):Option (Sum Int Unit):=
 if x0<(a0.length:Int) then
  if 0≤x0∧x0<(a0.length:Int) then
   (zGK (at' a0 x0) a1 a2 a3 a4 a5 a6 a7 a8 a9 a10 a11 a12 a13 a14 a15 a16 a17)>>=fun r1=>
   if r1=true then
    some (.inl x0)
   else
    zAs a0 a1 a2 a3 a4 a5 a6 a7 a8 a9 a10 a11 a12 a13 a14 a15 a16 a17 (IntKind.i64.wrap (x0+1))
  else none
 else
  some (.inr ())
 partial_fixpoint
def zA0 (a0:List zAa) (a1:Int) (a2:Int) (a3:Int) (a4:Int) (a5:Int) (a6:Int) (a7:Int) (a8:Int) (a9:Int) (a10:Int) (a11:Int) (a12:Int) (a13:Int) (a14:Int) (a15:Int) (a16:List zAa) (a17:List Int):Option Int:=
 (zAs a0 a1 a2 a3 a4 a5 a6 a7 a8 a9 a10 a11 a12 a13 a14 a15 a16 a17 0)>>=fun e=>match e with
 | .inl r=>some r
 | .inr j2=>
  some (-1)
def zAJ (a0:List zAa) (a1:Int) (a2:Int) (a3:Int) (a4:Int) (a5:Int) (a6:Int) (a7:Int) (a8:Int) (a9:Int) (a10:Int) (a11:Int) (a12:Int) (a13:Int) (a14:Int) (a15:Int) (a16:List zAa) (a17:List Int):Option Bool:=
 (zA0 a0 a1 a2 a3 a4 a5 a6 a7 a8 a9 a10 a11 a12 a13 a14 a15 a16 a17)>>=fun r1=>
 some (decide (r1≥0))
def zFH (a0:zAq):Option Int:=
 (zHM a0.F_M)>>=fun r1=>
 ((
  if r1.2≠0 then
   some true
  else
   (zHS a0.F_H r1.1)>>=fun r2=>
   some (r2 !=0)):Option Bool)>>=fun j3=>
 if j3=true then
  some 1
 else
  if 0≤a0.F_M.F_Frac then
   (zBd a0.F_N 1 64)>>=fun r4=>
   ((
    if r4=false then
     some true
    else
     (zBd a0.F_Warm 0 1048576)>>=fun r5=>
     some (!r5)):Option Bool)>>=fun j6=>
   ((
    if j6=true then
     some true
    else
     (zDI a0.F_Rate 0 (sShl .i64 1 a0.F_M.F_Frac))>>=fun r7=>
     some (!r7)):Option Bool)>>=fun j8=>
   ((
    if j8=true then
     some true
    else
     (zDI a0.F_Mom 0 (sShl .i64 1 a0.F_M.F_Frac))>>=fun r9=>
     some (!r9)):Option Bool)>>=fun j10=>
   ((
    if j10=true then
     some true
    else
     some (decide (a0.F_Clip<0))):Option Bool)>>=fun j11=>
   if j11=true then
    some 1
   else
    ((
     if (a0.F_L.length:Int)>256 then
      some true
     else
      some (if (a0.F_L.length:Int)<64 then (a0.F_L.length:Int) else 64)>>=fun y12=>
      (zBd a0.F_Batch 1 y12)>>=fun r14=>
      some (!r14)):Option Bool)>>=fun j15=>
    if j15=true then
     some 1
    else
     if 0≤r1.1∧r1.1≤r1.1∧r1.1≤140737488355328∧r1.1*((8:Nat):Int)≤140737488355328 then
      some (List.replicate (Int.toNat r1.1) 0)>>=fun y16=>
      (zAJ a0.F_L a0.F_N a0.F_M.F_Kind a0.F_M.F_In a0.F_M.F_Out a0.F_M.F_Hid a0.F_M.F_Frac a0.F_H.F_Scheme a0.F_H.F_K a0.F_H.F_Wide a0.F_Warm a0.F_Rate a0.F_Mom a0.F_Clip a0.F_Batch a0.F_Seed a0.F_L y16)>>=fun r18=>
      if r18=true then
       some 1
      else
       some 0
     else none
  else none
def zBy (x0:Int):Option (Sum Bool Unit):=
 if x0<([10,8,6,4,2,2].length:Int) then
  if 0≤x0∧x0<([10,8,6,4,2,2].length:Int) then
   (zDQ 10 2 4 x0)>>=fun r1=>
   ((
    if r1.1≠(at' [10,8,6,4,2,2] x0) then
     some true
    else
     some (r1.2 !=0)):Option Bool)>>=fun j2=>
   if j2=true then
    some (.inl false)
   else
    zBy (IntKind.i64.wrap (x0+1))
  else none
 else
  some (.inr ())
 partial_fixpoint
def zFt:Option Bool:=
 (zBy 0)>>=fun e=>match e with
 | .inl r=>some r
 | .inr j3=>
  (zFH (⟨1,(⟨0,1,0,0,0⟩:zAf),(⟨0,0,0⟩:zBa),0,0,0,0,1,0,[(⟨[1],0⟩:zAa)]⟩:zAq))>>=fun r4=>
  ((
   if r4=0 then
    (zFH (⟨0,(⟨0,0,0,0,0⟩:zAf),(⟨0,0,0⟩:zBa),0,0,0,0,0,0,[]⟩:zAq))>>=fun r5=>
    some (r5==1)
   else
    some false):Option Bool)>>=fun j6=>
  some j6
def zCm (a0:zAq) (x0:Int):Option (Sum Bool Unit):=
 if x0<(a0.F_L.length:Int) then
  if 0≤x0∧x0<(a0.F_L.length:Int) then
   if (((at' a0.F_L x0).F_X).length:Int)>100 then
    some (.inl false)
   else
    zCm a0 (IntKind.i64.wrap (x0+1))
  else none
 else
  some (.inr ())
 partial_fixpoint
def zGa (a0:zAq):Option Bool:=
 (zCm a0 0)>>=fun e=>match e with
 | .inl r=>some r
 | .inr j1=>
  some (decide ((a0.F_L.length:Int)≤300))
def zLd (a0:zAq) (a1:Int):Option Bool:=
 (zBd a1 0 1073741824)>>=fun r1=>
 ((
  if r1=true then
   (zFH a0)>>=fun r2=>
   some (r2==0)
  else
   some false):Option Bool)>>=fun j3=>
 some j3
def zBD (a0:Int) (a1:Int):Option Int:=
 some (bXor .u64 (IntKind.u64.wrap ((bXor .u64 a0 (IntKind.u64.wrap a1))*11400714819323198485)) (sShr .u64 (IntKind.u64.wrap ((bXor .u64 a0 (IntKind.u64.wrap a1))*11400714819323198485)) 29))
def zDK (a1:List Int) (x0:Int) (x1:Int):Option Int:=
 if x0<(a1.length:Int) then
  if 0≤x0∧x0<(a1.length:Int) then
   (zBD x1 (at' a1 x0))>>=fun r1=>
   zDK a1 (IntKind.i64.wrap (x0+1)) r1
  else none
 else
  some x1
 partial_fixpoint
def zI9 (a0:Int) (a1:List Int):Option Int:=
 (zDK a1 0 a0)>>=fun j2=>
 some j2
def zCq (a0:Int):Option Int:=
 some (bXor .u64 (IntKind.u64.wrap (a0*13787848793156543929)) (sShr .u64 (IntKind.u64.wrap (a0*13787848793156543929)) 32))
def zB0 (a0:Int) (a1:Int) (a2:List Int) (y1:List Int) (x0:Int) (x1:List Int):Option (List Int):=
 if x0<(y1.length:Int) then
  if 0≤x0∧x0<(x1.length:Int) then
   zB0 a0 a1 a2 y1 (IntKind.i64.wrap (x0+1)) (x1.set (Int.toNat x0) x0)
  else none
 else
  some x1
 partial_fixpoint
def zBE (r4:Int) (x0:Int) (x1:List Int):Option (List Int):=
 if x0>0 then
  (zBD r4 x0)>>=fun r5=>
  (zCq r5)>>=fun r6=>
  if IntKind.u64.wrap (IntKind.i64.wrap (x0+1))≠0 then
   if 0≤Int.tmod r6 (IntKind.u64.wrap (IntKind.i64.wrap (x0+1)))∧Int.tmod r6 (IntKind.u64.wrap (IntKind.i64.wrap (x0+1)))<(x1.length:Int) then
    if 0≤x0∧x0<(x1.length:Int) then
     if 0≤x0∧x0<(x1.length:Int) then
      if 0≤Int.tmod r6 (IntKind.u64.wrap (IntKind.i64.wrap (x0+1)))∧Int.tmod r6 (IntKind.u64.wrap (IntKind.i64.wrap (x0+1)))<((x1.set (Int.toNat x0) (at' x1 (Int.tmod r6 (IntKind.u64.wrap (IntKind.i64.wrap (x0+1)))))).length:Int) then
       some ((x1.set (Int.toNat x0) (at' x1 (Int.tmod r6 (IntKind.u64.wrap (IntKind.i64.wrap (x0+1)))))).set (Int.toNat (Int.tmod r6 (IntKind.u64.wrap (IntKind.i64.wrap (x0+1))))) (at' x1 x0))>>=fun y7=>
       zBE r4 (IntKind.i64.wrap (x0-1)) y7
      else none
     else none
    else none
   else none
  else none
 else
  some x1
 partial_fixpoint
def zFw (a0:Int) (a1:Int) (a2:List Int):Option ((List Int)×Int):=
 if a0<0 then
  some ([],1)
 else
  if a0>4096 then
   some ([],3)
  else
   if 0≤a0∧a0≤a0∧a0≤140737488355328∧a0*((8:Nat):Int)≤140737488355328 then
    some (List.replicate (Int.toNat a0) 0)>>=fun y1=>
    (zB0 a0 a1 a2 y1 0 y1)>>=fun j3=>
    (zI9 a1 a2)>>=fun r4=>
    (zBE r4 (IntKind.i64.wrap (a0-1)) j3)>>=fun j9=>
    some (j9,0)
   else none
def zFb (a0:Int) (a1:Int) (a2:Int) (a3:List Int):Option ((List Int)×Int):=
 ((
  if a0<0 then
   some true
  else
   some (decide (a0>a1))):Option Bool)>>=fun j1=>
 if j1=true then
  some ([],1)
 else
  (zFw a1 a2 a3)>>=fun r2=>
  if r2.2≠0 then
   some ([],r2.2)
  else
   if cutOk none (some a0) r2.1.length then
    some (cut' r2.1 none (some a0),0)
   else none
def zD5 (a0:zAq) (a1:Int) (a2:Int):Option ((List Int)×Int):=
 (zLd a0 a2)>>=fun r1=>
 ((
  if r1=false then
   some true
  else
   (zBd a1 0 (IntKind.i64.wrap (a0.F_N-1)))>>=fun r2=>
   some (!r2)):Option Bool)>>=fun j3=>
 if j3=true then
  some ([],1)
 else
  (zFb a0.F_Batch (a0.F_L.length:Int) a0.F_Seed [a1,a2])>>=fun r4=>
  some (r4.1,r4.2)
def zIh (a0:List Int) (a1:List Int):Option Int:=
 if (if (a1.length:Int)>(a0.length:Int) then (a1.length:Int) else (a0.length:Int))>4096 then
  some 3
 else
  if (a0.length:Int)≠(a1.length:Int) then
   some 4
  else
   some 0
def zG8 (a0:Int):Option Bool:=
 ((
  if a0≥0 then
   some (decide (a0≤30))
  else
   some false):Option Bool)>>=fun j1=>
 some j1
def zDE (a0:Int) (a1:Int):Option (Int×Int):=
 some (IntKind.u64.wrap ((IntKind.u64.wrap ((IntKind.u64.wrap ((sShr .u64 a0 32)*(sShr .u64 a1 32)))+(sShr .u64 (IntKind.u64.wrap ((IntKind.u64.wrap ((sShr .u64 a0 32)*(bAnd .u64 a1 4294967295)))+(sShr .u64 (IntKind.u64.wrap ((bAnd .u64 a0 4294967295)*(bAnd .u64 a1 4294967295))) 32))) 32)))+(sShr .u64 (IntKind.u64.wrap ((bAnd .u64 (IntKind.u64.wrap ((IntKind.u64.wrap ((sShr .u64 a0 32)*(bAnd .u64 a1 4294967295)))+(sShr .u64 (IntKind.u64.wrap ((bAnd .u64 a0 4294967295)*(bAnd .u64 a1 4294967295))) 32))) 4294967295)+(IntKind.u64.wrap ((bAnd .u64 a0 4294967295)*(sShr .u64 a1 32))))) 32)),IntKind.u64.wrap (a0*a1))
def zJf (a0:Int) (a1:Int):Option (Int×Int):=
 (zDE (IntKind.u64.wrap a0) (IntKind.u64.wrap a1))>>=fun r1=>
 if a0<0 then
  if a1<0 then
   some (IntKind.u64.wrap ((IntKind.u64.wrap (r1.1-(IntKind.u64.wrap a1)))-(IntKind.u64.wrap a0)),r1.2)
  else
   some (IntKind.u64.wrap (r1.1-(IntKind.u64.wrap a1)),r1.2)
 else
  if a1<0 then
   some (IntKind.u64.wrap (r1.1-(IntKind.u64.wrap a0)),r1.2)
  else
   some (r1.1,r1.2)
def zDA (a0:zBK) (a1:Int):Option (Int×Int):=
 if a1=0 then
  some (a0.F_c0,a0.F_c1)
 else
  if 0≤a1 then
   if 0≤IntKind.i64.wrap (64-a1) then
    if 0≤a1 then
     some (IntKind.u64.wrap (sShr .i64 (IntKind.i64.wrap a0.F_c0) a1),bOr .u64 (sShl .u64 a0.F_c0 (IntKind.i64.wrap (64-a1))) (sShr .u64 a0.F_c1 a1))
    else none
   else none
  else none
def zDg (a0:zBK):Option (Int×Int):=
 if (!(([a0.F_c0,a0.F_c1]:List Int)==[IntKind.u64.wrap (sShr .i64 (IntKind.i64.wrap a0.F_c1) 63),a0.F_c1]))=true then
  some (0,2)
 else
  some (IntKind.i64.wrap a0.F_c1,0)
def zGX (a0:Int) (a1:Int) (a2:Int):Option (Int×Int):=
 (zG8 a2)>>=fun r1=>
 if r1=false then
  some (0,1)
 else
  (zJf a0 a1)>>=fun r2=>
  (zDA (⟨r2.1,r2.2⟩:zBK) a2)>>=fun r3=>
  (zDg (⟨r3.1,r3.2⟩:zBK))>>=fun r4=>
  some (r4.1,r4.2)
def zHa (a0:Int):Option Int:=
 (zGX 0 0 a0)>>=fun r1=>
 some r1.2
def zHs (a0:Int) (a1:List Int) (a2:List Int) (a3:Int):Option (Int×Int):=
 if 0≤a0∧a0<(a1.length:Int) then
  if 0≤a0∧a0<(a2.length:Int) then
   (zGX (at' a1 a0) (at' a2 a0) a3)>>=fun r1=>
   some (r1.1,r1.2)
  else none
 else none
def zH8 (a0:Int) (a1:Int):Option (Int×Int):=
 if (bAnd .i64 (bXor .i64 a0 (IntKind.i64.wrap (a0+a1))) (bXor .i64 a1 (IntKind.i64.wrap (a0+a1))))<0 then
  some (0,2)
 else
  some (IntKind.i64.wrap (a0+a1),0)
def zAV (a0:Int) (a1:List Int) (a2:List Int) (a3:Int) (x0:Int) (x1:Int):Option (Sum (Int×Int) Int):=
 if x0<a0 then
  (zHs x0 a1 a2 a3)>>=fun r1=>
  if r1.2=0 then
   (zH8 x1 r1.1)>>=fun r2=>
   if r2.2≠0 then
    some (.inl (0,r2.2))
   else
    zAV a0 a1 a2 a3 (IntKind.i64.wrap (x0+1)) r2.1
  else
   if r1.2≠0 then
    some (.inl (0,r1.2))
   else
    zAV a0 a1 a2 a3 (IntKind.i64.wrap (x0+1)) x1
 else
  some (.inr x1)
 partial_fixpoint
def zFx (a0:Int) (a1:List Int) (a2:List Int) (a3:Int):Option (Int×Int):=
 (zAV a0 a1 a2 a3 0 0)>>=fun e=>match e with
 | .inl r=>some r
 | .inr j3=>
  some (j3,0)
def zLl (a0:List Int) (a1:List Int) (a2:Int):Option (Int×Int):=
 (zIh a0 a1)>>=fun r1=>
 ((
  if r1=0 then
   (zHa a2)>>=fun r2=>
   some r2
  else
   some r1):Option Int)>>=fun j3=>
 if j3≠0 then
  some (0,j3)
 else
  (zFx (a0.length:Int) a0 a1 a2)>>=fun r4=>
  some (r4.1,r4.2)
def zDa (a0:List Int) (a1:List Int) (a2:Int):Option (Int×Int):=
 (zCy (a1.length:Int) a0 [(⟨a1,0⟩:zAa)])>>=fun r1=>
 if r1≠0 then
  some (0,r1)
 else
  if cutOk none (some (a1.length:Int)) a0.length then
   some (cut' a0 none (some (a1.length:Int)))>>=fun y2=>
   (zLl y2 a1 a2)>>=fun r4=>
   if r4.2≠0 then
    some (0,r4.2)
   else
    if 0≤(a1.length:Int)∧(a1.length:Int)<(a0.length:Int) then
     (zH8 r4.1 (at' a0 (a1.length:Int)))>>=fun r5=>
     some (r5.1,r5.2)
    else none
  else none
def zE3 (a0:Int) (a1:Int):Option (Int×Int):=
 if (bAnd .i64 (bXor .i64 a0 a1) (bXor .i64 a0 (IntKind.i64.wrap (a0-a1))))<0 then
  some (0,2)
 else
  some (IntKind.i64.wrap (a0-a1),0)
def zIn (a0:List Int) (a1:zAa) (a2:Int):Option (Int×Int):=
 (zDa a0 a1.F_X a2)>>=fun r1=>
 if r1.2≠0 then
  some (0,r1.2)
 else
  (zE3 r1.1 a1.F_Y)>>=fun r2=>
  some (r2.1,r2.2)
def zDT (a0:List Int):Option Int:=
 if (a0.length:Int)>4096 then
  some 3
 else
  some 0
def zGz (a0:Int) (a1:List Int) (a2:Int) (a3:Int):Option (Int×Int):=
 if 0≤a0∧a0<(a1.length:Int) then
  (zGX (at' a1 a0) a2 a3)>>=fun r1=>
  some (r1.1,r1.2)
 else none
def zA3 (a1:List Int) (a2:Int) (a3:Int) (y1:List Int) (x0:Int) (x1:List Int):Option (Sum ((List Int)×Int) (List Int)):=
 if x0<(y1.length:Int) then
  (zGz x0 a1 a2 a3)>>=fun r3=>
  if 0≤x0∧x0<(x1.length:Int) then
   some (x1.set (Int.toNat x0) r3.1)>>=fun y4=>
   if r3.2≠0 then
    some (.inl ([],r3.2))
   else
    zA3 a1 a2 a3 y1 (IntKind.i64.wrap (x0+1)) y4
  else none
 else
  some (.inr x1)
 partial_fixpoint
def zE9 (a0:Int) (a1:List Int) (a2:Int) (a3:Int):Option ((List Int)×Int):=
 if 0≤a0∧a0≤a0∧a0≤140737488355328∧a0*((8:Nat):Int)≤140737488355328 then
  some (List.replicate (Int.toNat a0) 0)>>=fun y1=>
  (zA3 a1 a2 a3 y1 0 y1)>>=fun e=>match e with
  | .inl r=>some r
  | .inr j6=>
   some (j6,0)
 else none
def zGv (a0:List Int) (a1:Int) (a2:Int):Option ((List Int)×Int):=
 (zDT a0)>>=fun r1=>
 ((
  if r1=0 then
   (zHa a2)>>=fun r2=>
   some r2
  else
   some r1):Option Int)>>=fun j3=>
 if j3≠0 then
  some ([],j3)
 else
  (zE9 (a0.length:Int) a0 a1 a2)>>=fun r4=>
  some (r4.1,r4.2)
def zEd (a0:zAa) (a1:Int) (a2:Int) (a3:List (List Int)):Option (Int×Int×(List (List Int))):=
 (zGv a0.F_X a1 a2)>>=fun r1=>
 if room 8 (r1.1++[a1]).length then
  if room 24 (a3++[r1.1++[a1]]).length then
   some (r1.2,a2,a3++[r1.1++[a1]])
  else none
 else none
def zAu (a0:List Int) (a1:Int) (a2:List zAa) (x0:Int) (x1:Int) (x2:Int) (x3:List (List Int)):Option (Int×Int×(List (List Int))):=
 if x0<(a2.length:Int) then
  if 0≤x0∧x0<(a2.length:Int) then
   if x1=0 then
    (zIn a0 (at' a2 x0) a1)>>=fun r2=>
    if r2.2=0 then
     (zEd (at' a2 x0) r2.1 x2 x3)>>=fun r3=>
     zAu a0 a1 a2 (IntKind.i64.wrap (x0+1)) r3.1 r3.2.1 r3.2.2
    else
     zAu a0 a1 a2 (IntKind.i64.wrap (x0+1)) r2.2 x2 x3
   else
    if x1=0 then
     (zEd (at' a2 x0) 0 x2 x3)>>=fun r4=>
     zAu a0 a1 a2 (IntKind.i64.wrap (x0+1)) r4.1 r4.2.1 r4.2.2
    else
     zAu a0 a1 a2 (IntKind.i64.wrap (x0+1)) x1 x2 x3
  else none
 else
  some (x1,x2,x3)
 partial_fixpoint
def zD7 (a0:List Int) (a1:Int) (a2:List zAa) (a3:Int) (a4:List (List Int)):Option (Int×Int×(List (List Int))):=
 (zCy (IntKind.i64.wrap ((a0.length:Int)-1)) a0 a2)>>=fun r1=>
 (zAu a0 a1 a2 0 r1 a3 a4)>>=fun j5=>
 some (j5.1,j5.2.1,j5.2.2)
def zBu (a0:List Int):Option (List Int):=
 if room 8 ([]++a0).length then
  some ([]++a0)
 else none
def zIz (a0:Int) (a1:List Int) (a2:List Int):Option (Int×Int):=
 if 0≤a0∧a0<(a1.length:Int) then
  if 0≤a0∧a0<(a2.length:Int) then
   (zH8 (at' a1 a0) (at' a2 a0))>>=fun r1=>
   some (r1.1,r1.2)
  else none
 else none
def zBc (a1:List Int) (a2:List Int) (y1:List Int) (x0:Int) (x1:List Int):Option (Sum ((List Int)×Int) (List Int)):=
 if x0<(y1.length:Int) then
  (zIz x0 a1 a2)>>=fun r3=>
  if 0≤x0∧x0<(x1.length:Int) then
   some (x1.set (Int.toNat x0) r3.1)>>=fun y4=>
   if r3.2≠0 then
    some (.inl ([],r3.2))
   else
    zBc a1 a2 y1 (IntKind.i64.wrap (x0+1)) y4
  else none
 else
  some (.inr x1)
 partial_fixpoint
def zF6 (a0:Int) (a1:List Int) (a2:List Int):Option ((List Int)×Int):=
 if 0≤a0∧a0≤a0∧a0≤140737488355328∧a0*((8:Nat):Int)≤140737488355328 then
  some (List.replicate (Int.toNat a0) 0)>>=fun y1=>
  (zBc a1 a2 y1 0 y1)>>=fun e=>match e with
  | .inl r=>some r
  | .inr j6=>
   some (j6,0)
 else none
def zLp (a0:List Int) (a1:List Int):Option ((List Int)×Int):=
 (zIh a0 a1)>>=fun r1=>
 if r1≠0 then
  some ([],r1)
 else
  (zF6 (a0.length:Int) a0 a1)>>=fun r2=>
  some (r2.1,r2.2)
def zC4 (a0:List (List Int)) (x0:Int) (x1:List Int):Option (Sum ((List Int)×Int) (List Int)):=
 if x0<(a0.length:Int) then
  if 0≤x0∧x0<(a0.length:Int) then
   if x0=0 then
    (zBu (at' a0 x0))>>=fun r1=>
    (zDT (at' a0 x0))>>=fun r2=>
    if r2≠0 then
     some (.inl ([],r2))
    else
     zC4 a0 (IntKind.i64.wrap (x0+1)) r1
   else
    (zLp x1 (at' a0 x0))>>=fun r3=>
    if r3.2≠0 then
     some (.inl ([],r3.2))
    else
     zC4 a0 (IntKind.i64.wrap (x0+1)) r3.1
  else none
 else
  some (.inr x1)
 partial_fixpoint
def zJz (a0:List (List Int)):Option ((List Int)×Int):=
 (zC4 a0 0 [])>>=fun e=>match e with
 | .inl r=>some r
 | .inr j4=>
  some (j4,0)
def zHi (a0:Int):Option Int:=
 if a0<0 then
  some (IntKind.u64.wrap (0-(IntKind.u64.wrap a0)))
 else
  some (IntKind.u64.wrap a0)
def zFp (a0:Int):Option Int:=
 ((
  if a0≥4294967296 then
   some (32,sShr .u64 a0 32)
  else
   some (0,a0)):Option (Int×Int))>>=fun j1=>
 ((
  if j1.2≥65536 then
   some (IntKind.i64.wrap (j1.1+16),sShr .u64 j1.2 16)
  else
   some (j1.1,j1.2)):Option (Int×Int))>>=fun j2=>
 if j2.2≥256 then
  if 0≤(IntKind.u8.wrap (sShr .u64 j2.2 8))∧(IntKind.u8.wrap (sShr .u64 j2.2 8))<((ByteArray.mk #[0,1,2,2,3,3,3,3,4,4,4,4,4,4,4,4,5,5,5,5,5,5,5,5,5,5,5,5,5,5,5,5,6,6,6,6,6,6,6,6,6,6,6,6,6,6,6,6,6,6,6,6,6,6,6,6,6,6,6,6,6,6,6,6,7,7,7,7,7,7,7,7,7,7,7,7,7,7,7,7,7,7,7,7,7,7,7,7,7,7,7,7,7,7,7,7,7,7,7,7,7,7,7,7,7,7,7,7,7,7,7,7,7,7,7,7,7,7,7,7,7,7,7,7,7,7,7,7,8,8,8,8,8,8,8,8,8,8,8,8,8,8,8,8,8,8,8,8,8,8,8,8,8,8,8,8,8,8,8,8,8,8,8,8,8,8,8,8,8,8,8,8,8,8,8,8,8,8,8,8,8,8,8,8,8,8,8,8,8,8,8,8,8,8,8,8,8,8,8,8,8,8,8,8,8,8,8,8,8,8,8,8,8,8,8,8,8,8,8,8,8,8,8,8,8,8,8,8,8,8,8,8,8,8,8,8,8,8,8,8,8,8,8,8,8,8,8,8,8,8,8,8,8,8,8,8]).size:Int) then
   some (IntKind.i64.wrap ((IntKind.i64.wrap (j2.1+8))+(IntKind.i64.wrap (((ByteArray.mk #[0,1,2,2,3,3,3,3,4,4,4,4,4,4,4,4,5,5,5,5,5,5,5,5,5,5,5,5,5,5,5,5,6,6,6,6,6,6,6,6,6,6,6,6,6,6,6,6,6,6,6,6,6,6,6,6,6,6,6,6,6,6,6,6,7,7,7,7,7,7,7,7,7,7,7,7,7,7,7,7,7,7,7,7,7,7,7,7,7,7,7,7,7,7,7,7,7,7,7,7,7,7,7,7,7,7,7,7,7,7,7,7,7,7,7,7,7,7,7,7,7,7,7,7,7,7,7,7,8,8,8,8,8,8,8,8,8,8,8,8,8,8,8,8,8,8,8,8,8,8,8,8,8,8,8,8,8,8,8,8,8,8,8,8,8,8,8,8,8,8,8,8,8,8,8,8,8,8,8,8,8,8,8,8,8,8,8,8,8,8,8,8,8,8,8,8,8,8,8,8,8,8,8,8,8,8,8,8,8,8,8,8,8,8,8,8,8,8,8,8,8,8,8,8,8,8,8,8,8,8,8,8,8,8,8,8,8,8,8,8,8,8,8,8,8,8,8,8,8,8,8,8,8,8,8,8]).data.getD (Int.toNat (IntKind.u8.wrap (sShr .u64 j2.2 8))) 0).toNat:Int))))
  else none
 else
  if 0≤(IntKind.u8.wrap j2.2)∧(IntKind.u8.wrap j2.2)<((ByteArray.mk #[0,1,2,2,3,3,3,3,4,4,4,4,4,4,4,4,5,5,5,5,5,5,5,5,5,5,5,5,5,5,5,5,6,6,6,6,6,6,6,6,6,6,6,6,6,6,6,6,6,6,6,6,6,6,6,6,6,6,6,6,6,6,6,6,7,7,7,7,7,7,7,7,7,7,7,7,7,7,7,7,7,7,7,7,7,7,7,7,7,7,7,7,7,7,7,7,7,7,7,7,7,7,7,7,7,7,7,7,7,7,7,7,7,7,7,7,7,7,7,7,7,7,7,7,7,7,7,7,8,8,8,8,8,8,8,8,8,8,8,8,8,8,8,8,8,8,8,8,8,8,8,8,8,8,8,8,8,8,8,8,8,8,8,8,8,8,8,8,8,8,8,8,8,8,8,8,8,8,8,8,8,8,8,8,8,8,8,8,8,8,8,8,8,8,8,8,8,8,8,8,8,8,8,8,8,8,8,8,8,8,8,8,8,8,8,8,8,8,8,8,8,8,8,8,8,8,8,8,8,8,8,8,8,8,8,8,8,8,8,8,8,8,8,8,8,8,8,8,8,8,8,8,8,8,8,8]).size:Int) then
   some (IntKind.i64.wrap (j2.1+(IntKind.i64.wrap (((ByteArray.mk #[0,1,2,2,3,3,3,3,4,4,4,4,4,4,4,4,5,5,5,5,5,5,5,5,5,5,5,5,5,5,5,5,6,6,6,6,6,6,6,6,6,6,6,6,6,6,6,6,6,6,6,6,6,6,6,6,6,6,6,6,6,6,6,6,7,7,7,7,7,7,7,7,7,7,7,7,7,7,7,7,7,7,7,7,7,7,7,7,7,7,7,7,7,7,7,7,7,7,7,7,7,7,7,7,7,7,7,7,7,7,7,7,7,7,7,7,7,7,7,7,7,7,7,7,7,7,7,7,8,8,8,8,8,8,8,8,8,8,8,8,8,8,8,8,8,8,8,8,8,8,8,8,8,8,8,8,8,8,8,8,8,8,8,8,8,8,8,8,8,8,8,8,8,8,8,8,8,8,8,8,8,8,8,8,8,8,8,8,8,8,8,8,8,8,8,8,8,8,8,8,8,8,8,8,8,8,8,8,8,8,8,8,8,8,8,8,8,8,8,8,8,8,8,8,8,8,8,8,8,8,8,8,8,8,8,8,8,8,8,8,8,8,8,8,8,8,8,8,8,8,8,8,8,8,8,8]).data.getD (Int.toNat (IntKind.u8.wrap j2.2)) 0).toNat:Int))))
  else none
def zDe (a0:Int):Option Int:=
 (zFp a0)>>=fun r1=>
 some (IntKind.i64.wrap (64-r1))
def zB7 (a1:Int) (a2:Int) (r3:Int) (y4:Int) (x0:Int) (x1:Int):Option Int:=
 ((
  if x1≥4294967296 then
   some true
  else
   some (decide ((IntKind.u64.wrap (x1*(bAnd .u64 (sShl .u64 a2 (IntKind.u64.wrap r3)) 4294967295)))>(IntKind.u64.wrap ((IntKind.u64.wrap (4294967296*x0))+(sShr .u64 (sShl .u64 a1 (IntKind.u64.wrap r3)) 32)))))):Option Bool)>>=fun j10=>
 if j10=true then
  some (IntKind.u64.wrap (x0+(sShr .u64 (sShl .u64 a2 (IntKind.u64.wrap r3)) 32)))>>=fun y11=>
  if y11≥4294967296 then
   some (IntKind.u64.wrap (x1-1))
  else
   zB7 a1 a2 r3 y4 y11 (IntKind.u64.wrap (x1-1))
 else
  some x1
 partial_fixpoint
def zCe (a1:Int) (a2:Int) (r3:Int) (j13:Int) (y14:Int) (x0:Int) (x1:Int):Option Int:=
 ((
  if x1≥4294967296 then
   some true
  else
   some (decide ((IntKind.u64.wrap (x1*(bAnd .u64 (sShl .u64 a2 (IntKind.u64.wrap r3)) 4294967295)))>(IntKind.u64.wrap ((IntKind.u64.wrap (4294967296*x0))+(bAnd .u64 (sShl .u64 a1 (IntKind.u64.wrap r3)) 4294967295)))))):Option Bool)>>=fun j20=>
 if j20=true then
  some (IntKind.u64.wrap (x0+(sShr .u64 (sShl .u64 a2 (IntKind.u64.wrap r3)) 32)))>>=fun y21=>
  if y21≥4294967296 then
   some (IntKind.u64.wrap (x1-1))
  else
   zCe a1 a2 r3 j13 y14 y21 (IntKind.u64.wrap (x1-1))
 else
  some x1
 partial_fixpoint
def zEl (a0:Int) (a1:Int) (a2:Int):Option (Int×Int):=
 ((
  if a2=0 then
   none
  else
   some ()):Option Unit)>>=fun j1=>
 ((
  if a2≤a0 then
   none
  else
   some ()):Option Unit)>>=fun j2=>
 if a0=0 then
  if a2≠0 then
   if a2≠0 then
    some (IntKind.u64.wrap (Int.tdiv a1 a2),Int.tmod a1 a2)
   else none
  else none
 else
  (zDe a2)>>=fun r3=>
  if 0≤IntKind.u64.wrap r3 then
   if 0≤IntKind.u64.wrap r3 then
    if 0≤IntKind.u64.wrap (64-(IntKind.u64.wrap r3)) then
     some (bOr .u64 (sShl .u64 a0 (IntKind.u64.wrap r3)) (sShr .u64 a1 (IntKind.u64.wrap (64-(IntKind.u64.wrap r3)))))>>=fun y4=>
     if 0≤IntKind.u64.wrap r3 then
      if sShr .u64 (sShl .u64 a2 (IntKind.u64.wrap r3)) 32≠0 then
       some (IntKind.u64.wrap (Int.tdiv y4 (sShr .u64 (sShl .u64 a2 (IntKind.u64.wrap r3)) 32)))>>=fun y6=>
       some (IntKind.u64.wrap (y4-(IntKind.u64.wrap (y6*(sShr .u64 (sShl .u64 a2 (IntKind.u64.wrap r3)) 32)))))>>=fun y8=>
       (zB7 a1 a2 r3 y4 y8 y6)>>=fun j13=>
       some (IntKind.u64.wrap ((IntKind.u64.wrap ((IntKind.u64.wrap (y4*4294967296))+(sShr .u64 (sShl .u64 a1 (IntKind.u64.wrap r3)) 32)))-(IntKind.u64.wrap (j13*(sShl .u64 a2 (IntKind.u64.wrap r3))))))>>=fun y14=>
       if sShr .u64 (sShl .u64 a2 (IntKind.u64.wrap r3)) 32≠0 then
        some (IntKind.u64.wrap (Int.tdiv y14 (sShr .u64 (sShl .u64 a2 (IntKind.u64.wrap r3)) 32)))>>=fun y16=>
        some (IntKind.u64.wrap (y14-(IntKind.u64.wrap (y16*(sShr .u64 (sShl .u64 a2 (IntKind.u64.wrap r3)) 32)))))>>=fun y18=>
        (zCe a1 a2 r3 j13 y14 y18 y16)>>=fun j23=>
        some (IntKind.u64.wrap ((IntKind.u64.wrap (j13*4294967296))+j23))>>=fun y24=>
        some (IntKind.u64.wrap ((IntKind.u64.wrap ((IntKind.u64.wrap (y14*4294967296))+(bAnd .u64 (sShl .u64 a1 (IntKind.u64.wrap r3)) 4294967295)))-(IntKind.u64.wrap (j23*(sShl .u64 a2 (IntKind.u64.wrap r3))))))>>=fun y26=>
        if 0≤IntKind.u64.wrap r3 then
         some (y24,sShr .u64 y26 (IntKind.u64.wrap r3))
        else none
       else none
      else none
     else none
    else none
   else none
  else none
def zG7 (a0:Int) (a1:Int) (a2:Int):Option (Int×Int):=
 (zG8 a2)>>=fun r1=>
 ((
  if r1=false then
   some true
  else
   some (a1==0)):Option Bool)>>=fun j2=>
 if j2=true then
  some (0,1)
 else
  if 0≤a2 then
   (zHi a0)>>=fun r3=>
   (zDE r3 (sShl .u64 1 a2))>>=fun r4=>
   (zHi a1)>>=fun r5=>
   if r4.1≥r5 then
    some (0,2)
   else
    (zHi a1)>>=fun r6=>
    (zEl r4.1 r4.2 r6)>>=fun r7=>
    if (decide (a0<0))≠(decide (a1<0)) then
     if r7.2>0 then
      if r7.1≥(IntKind.u64.wrap (9223372036854775807+1)) then
       some (0,2)
      else
       if (IntKind.u64.wrap (r7.1+1))>(IntKind.u64.wrap (9223372036854775807+1)) then
        some (0,2)
       else
        some (IntKind.i64.wrap (IntKind.u64.wrap (0-(IntKind.u64.wrap (r7.1+1)))),0)
     else
      if r7.1>(IntKind.u64.wrap (9223372036854775807+1)) then
       some (0,2)
      else
       some (IntKind.i64.wrap (IntKind.u64.wrap (0-r7.1)),0)
    else
     if r7.1>9223372036854775807 then
      some (0,2)
     else
      some (IntKind.i64.wrap r7.1,0)
  else none
def zKb (a0:Int) (a1:Int):Option (Int×Int):=
 (zG7 a0 a1 0)>>=fun r1=>
 some (r1.1,r1.2)
def zDi (a0:Int) (r1:(List Int)×Int) (x0:Int) (x1:List Int):Option (Sum ((List Int)×Int) (List Int)):=
 if x0<(r1.1.length:Int) then
  if 0≤x0∧x0<(x1.length:Int) then
   (zKb (at' x1 x0) a0)>>=fun r2=>
   if 0≤x0∧x0<(x1.length:Int) then
    some (x1.set (Int.toNat x0) r2.1)>>=fun y3=>
    if r2.2≠0 then
     some (.inl ([],r2.2))
    else
     zDi a0 r1 (IntKind.i64.wrap (x0+1)) y3
   else none
  else none
 else
  some (.inr x1)
 partial_fixpoint
def zEh (a0:Int) (a1:List (List Int)):Option ((List Int)×Int):=
 if a0<1 then
  some ([],1)
 else
  (zJz a1)>>=fun r1=>
  if r1.2≠0 then
   some ([],r1.2)
  else
   (zDi a0 r1 0 r1.1)>>=fun e=>match e with
   | .inl r=>some r
   | .inr j5=>
    some (j5,0)
def zHV (a0:List Int) (a1:Int) (a2:List zAa):Option ((List Int)×Int):=
 (zD7 a0 a1 a2 a1 [])>>=fun r1=>
 if r1.1≠0 then
  some ([],r1.1)
 else
  (zEh (a2.length:Int) r1.2.2)>>=fun r2=>
  some (r2.1,r2.2)
def zCY (a0:zAv) (a1:List Int) (a2:List zAa):Option ((List Int)×Int):=
 (zHV a1 a0.F_Model.F_Frac a2)>>=fun r1=>
 some (r1.1,r1.2)
def zCg (a0:List Int) (a1:Int):Option ((List Int)×Int):=
 if a1<1 then
  none
 else
  some (a0,a1)
def zHI (a0:Int) (a1:List Int):Option ((List (List Int))×Int):=
 (zFQ a0)>>=fun r1=>
 if r1=false then
  some ([],1)
 else
  if a0≠0 then
   some (IntKind.i64.wrap ((IntKind.i64.wrap (Int.tdiv (a1.length:Int) a0))-1))>>=fun y2=>
   (zD0 y2)>>=fun r4=>
   ((
    if r4.2≠0 then
     some true
    else
     some (IntKind.i64.wrap ((IntKind.i64.wrap (Int.tdiv (a1.length:Int) a0))*a0))>>=fun y5=>
     some (y5 !=(a1.length:Int))):Option Bool)>>=fun j7=>
   if j7=true then
    some ([],4)
   else
    (zCg a1 (IntKind.i64.wrap (Int.tdiv (a1.length:Int) a0)))>>=fun r8=>
    (if 1≤r8.2∧r8.2≤4611686018427387904∧r8.1.length≤4611686018427387904 then List.foldlM (fun (x_9:(List (List Int))) (c_10:List Int)=>((
     (zBu c_10)>>=fun r11=>
     if room 24 (x_9++[r11]).length then
      some (x_9++[r11])
     else none):Option (List (List Int)))) [] (zEQ (Int.toNat r8.2) r8.1) else none)>>=fun j12=>
    some (j12,0)
  else none
def zLS (a0:Int) (a1:List Int) (a2:List zAa):Option Int:=
 (zHI a0 a1)>>=fun r1=>
 if r1.2≠0 then
  some r1.2
 else
  if 0≤(0:Int)∧(0:Int)<(r1.1.length:Int) then
   (zFE (IntKind.i64.wrap (((at' r1.1 0).length:Int)-1)) a0 a1 a2)>>=fun r2=>
   some r2
  else none
def zCo (a2:List Int) (a3:Int) (r1:(List (List Int))×Int) (x0:Int) (x1:List Int):Option (Sum ((List Int)×Int) (List Int)):=
 if x0<(r1.1.length:Int) then
  if 0≤x0∧x0<(r1.1.length:Int) then
   (zDa (at' r1.1 x0) a2 a3)>>=fun r5=>
   if 0≤x0∧x0<(x1.length:Int) then
    some (x1.set (Int.toNat x0) r5.1)>>=fun y6=>
    if r5.2≠0 then
     some (.inl ([],r5.2))
    else
     zCo a2 a3 r1 (IntKind.i64.wrap (x0+1)) y6
   else none
  else none
 else
  some (.inr x1)
 partial_fixpoint
def zIs (a0:Int) (a1:List Int) (a2:List Int) (a3:Int):Option ((List Int)×Int):=
 (zHI a0 a1)>>=fun r1=>
 if r1.2≠0 then
  some ([],r1.2)
 else
  if 0≤(0:Int)∧(0:Int)<(r1.1.length:Int) then
   if (IntKind.i64.wrap (((at' r1.1 0).length:Int)-1))≠(a2.length:Int) then
    some ([],4)
   else
    ((
     if a3<0 then
      some true
     else
      some (decide (a3>30))):Option Bool)>>=fun j2=>
    if j2=true then
     some ([],1)
    else
     if 0≤a0∧a0≤a0∧a0≤140737488355328∧a0*((8:Nat):Int)≤140737488355328 then
      some (List.replicate (Int.toNat a0) 0)>>=fun y3=>
      (zCo a2 a3 r1 0 y3)>>=fun e=>match e with
      | .inl r=>some r
      | .inr j8=>
       some (j8,0)
     else none
  else none
def zBi (a0:List Int) (x0:Int) (x1:Int):Option Int:=
 if x0<(a0.length:Int) then
  if 0≤x0∧x0<(a0.length:Int) then
   zBi a0 (IntKind.i64.wrap (x0+1)) (if (at' a0 x0)>x1 then at' a0 x0 else x1)
  else none
 else
  some x1
 partial_fixpoint
def zED (a0:List Int):Option Int:=
 ((
  if (a0.length:Int)<1 then
   none
  else
   some ()):Option Unit)>>=fun j1=>
 if 0≤(0:Int)∧(0:Int)<(a0.length:Int) then
  (zBi a0 1 (at' a0 0))>>=fun j2=>
  some j2
 else none
def zBv (a0:List Int) (a1:Int) (x0:Int):Option (Sum Int Unit):=
 if x0<(a0.length:Int) then
  if 0≤x0∧x0<(a0.length:Int) then
   if a1=(at' a0 x0) then
    some (.inl x0)
   else
    zBv a0 a1 (IntKind.i64.wrap (x0+1))
  else none
 else
  some (.inr ())
 partial_fixpoint
def zEf (a0:List Int) (a1:Int):Option Int:=
 (zBv a0 a1 0)>>=fun e=>match e with
 | .inl r=>some r
 | .inr j1=>
  some (-1)
def zG6 (a0:List Int):Option (Int×Int):=
 if (a0.length:Int)=0 then
  some (0,1)
 else
  (zDT a0)>>=fun r1=>
  if r1≠0 then
   some (0,r1)
  else
   (zED a0)>>=fun r2=>
   (zEf a0 r2)>>=fun r3=>
   some (r3,0)
def zK9 (a0:Int):Option (Int×Int):=
 (zE3 0 a0)>>=fun r1=>
 some (r1.1,r1.2)
def zE2 (a0:Int) (x0:Int):Option Int:=
 if (IntKind.u64.wrap (x0*x0))>a0 then
  zE2 a0 (IntKind.u64.wrap (x0-1))
 else
  some x0
 partial_fixpoint
def zEY (a0:Int) (x0:Int):Option Int:=
 ((
  if x0<4294967295 then
   some (decide ((IntKind.u64.wrap ((IntKind.u64.wrap (x0+1))*(IntKind.u64.wrap (x0+1))))≤a0))
  else
   some false):Option Bool)>>=fun j5=>
 if j5=true then
  zEY a0 (IntKind.u64.wrap (x0+1))
 else
  some x0
 partial_fixpoint
def zAz (a0:Int):Option Int:=
 (zHO (floatOfInt .f64 a0))>>=fun r1=>
 if (floatToIntVal .f64 r1 .u64).isSome=true then
  some (if (4294967295:Int)<((floatToIntVal .f64 r1 .u64).getD 0) then 4294967295 else (floatToIntVal .f64 r1 .u64).getD 0)>>=fun y2=>
  (zE2 a0 y2)>>=fun j4=>
  (zEY a0 j4)>>=fun j6=>
  some j6
 else none
def zID:Option (Int×Int×Int×Int×Int×Int×Int×Int×Int×Int×Int×Int×Int×Int×Int×Int×Int):=
 (zAz 576460752303423488)>>=fun r1=>
 (zAz (IntKind.u64.wrap (1073741824*r1)))>>=fun r2=>
 (zAz (IntKind.u64.wrap (r1*536870912)))>>=fun r3=>
 (zAz (IntKind.u64.wrap (1073741824*r2)))>>=fun r4=>
 (zAz (IntKind.u64.wrap (r2*r1)))>>=fun r5=>
 (zAz (IntKind.u64.wrap (r1*r3)))>>=fun r6=>
 (zAz (IntKind.u64.wrap (r3*536870912)))>>=fun r7=>
 (zAz (IntKind.u64.wrap (1073741824*r4)))>>=fun r8=>
 (zAz (IntKind.u64.wrap (r4*r2)))>>=fun r9=>
 (zAz (IntKind.u64.wrap (r2*r5)))>>=fun r10=>
 (zAz (IntKind.u64.wrap (r5*r1)))>>=fun r11=>
 (zAz (IntKind.u64.wrap (r1*r6)))>>=fun r12=>
 (zAz (IntKind.u64.wrap (r6*r3)))>>=fun r13=>
 (zAz (IntKind.u64.wrap (r3*r7)))>>=fun r14=>
 (zAz (IntKind.u64.wrap (r7*536870912)))>>=fun r15=>
 some (1073741824,r8,r4,r9,r2,r10,r5,r11,r1,r12,r6,r13,r3,r14,r7,r15,536870912)
def zGw (a0:Int) (a1:Int):Option (Int×Int):=
 ((
  if a1<0 then
   some true
  else
   some (decide (a1>30))):Option Bool)>>=fun j1=>
 ((
  if j1=true then
   some true
  else
   some (decide (a0>0))):Option Bool)>>=fun j2=>
 if j2=true then
  some (0,1)
 else
  (zK9 a0)>>=fun r3=>
  if r3.2≠0 then
   some (0,r3.2)
  else
   if 0≤a1 then
    some (sShl .i64 (bAnd .i64 r3.1 (IntKind.i64.wrap ((sShl .i64 1 a1)-1))) 4)>>=fun y4=>
    if 0≤a1 then
     (zID)>>=fun r6=>
     if 0≤sShr .i64 y4 a1∧sShr .i64 y4 a1<((17:Nat):Int) then
      if 0≤a1 then
       if 0≤if (63:Int)<(IntKind.u64.wrap ((IntKind.u64.wrap (sShr .i64 r3.1 a1))+(IntKind.u64.wrap (IntKind.i64.wrap (30-a1))))) then 63 else IntKind.u64.wrap ((IntKind.u64.wrap (sShr .i64 r3.1 a1))+(IntKind.u64.wrap (IntKind.i64.wrap (30-a1)))) then
        some (IntKind.i64.wrap (sShr .u64 (at' ([r6.1,r6.2.1,r6.2.2.1,r6.2.2.2.1,r6.2.2.2.2.1,r6.2.2.2.2.2.1,r6.2.2.2.2.2.2.1,r6.2.2.2.2.2.2.2.1,r6.2.2.2.2.2.2.2.2.1,r6.2.2.2.2.2.2.2.2.2.1,r6.2.2.2.2.2.2.2.2.2.2.1,r6.2.2.2.2.2.2.2.2.2.2.2.1,r6.2.2.2.2.2.2.2.2.2.2.2.2.1,r6.2.2.2.2.2.2.2.2.2.2.2.2.2.1,r6.2.2.2.2.2.2.2.2.2.2.2.2.2.2.1,r6.2.2.2.2.2.2.2.2.2.2.2.2.2.2.2.1,r6.2.2.2.2.2.2.2.2.2.2.2.2.2.2.2.2]:List Int) (sShr .i64 y4 a1)) (if (63:Int)<(IntKind.u64.wrap ((IntKind.u64.wrap (sShr .i64 r3.1 a1))+(IntKind.u64.wrap (IntKind.i64.wrap (30-a1))))) then 63 else IntKind.u64.wrap ((IntKind.u64.wrap (sShr .i64 r3.1 a1))+(IntKind.u64.wrap (IntKind.i64.wrap (30-a1)))))),0)
       else none
      else none
     else none
    else none
   else none
def zEV (a0:Int) (a1:List Int) (r1:Int×Int) (x0:Int) (x1:Int) (x2:List Int):Option (Sum ((List Int)×Int) (Int×(List Int))):=
 if x0<(a1.length:Int) then
  if 0≤x0∧x0<(a1.length:Int) then
   if 0≤r1.1∧r1.1<(a1.length:Int) then
    (zE3 (at' a1 x0) (at' a1 r1.1))>>=fun r4=>
    if r4.2=0 then
     (zGw r4.1 a0)>>=fun r5=>
     if 0≤x0∧x0<(x2.length:Int) then
      some (x2.set (Int.toNat x0) r5.1)>>=fun y6=>
      if r5.2≠0 then
       some (.inl ([],r5.2))
      else
       if 0≤x0∧x0<(y6.length:Int) then
        zEV a0 a1 r1 (IntKind.i64.wrap (x0+1)) (IntKind.i64.wrap (x1+(at' y6 x0))) y6
       else none
     else none
    else
     if r4.2≠0 then
      some (.inl ([],r4.2))
     else
      if 0≤x0∧x0<(x2.length:Int) then
       zEV a0 a1 r1 (IntKind.i64.wrap (x0+1)) (IntKind.i64.wrap (x1+(at' x2 x0))) x2
      else none
   else none
  else none
 else
  some (.inr (x1,x2))
 partial_fixpoint
def zGC (a0:Int) (j8:Int×(List Int)) (x0:Int) (x1:List Int):Option (Sum ((List Int)×Int) (List Int)):=
 if x0<(j8.2.length:Int) then
  if 0≤x0∧x0<(x1.length:Int) then
   (zG7 (at' x1 x0) j8.1 a0)>>=fun r9=>
   if 0≤x0∧x0<(x1.length:Int) then
    some (x1.set (Int.toNat x0) r9.1)>>=fun y10=>
    if r9.2≠0 then
     some (.inl ([],r9.2))
    else
     zGC a0 j8 (IntKind.i64.wrap (x0+1)) y10
   else none
  else none
 else
  some (.inr x1)
 partial_fixpoint
def zCV (a0:Int) (a1:List Int) (r1:Int×Int) (x0:Int) (x1:Int) (x2:List Int):Option (Sum ((List Int)×Int) (Int×(List Int))):=
 if x0<(a1.length:Int) then
  if 0≤x0∧x0<(a1.length:Int) then
   if 0≤r1.1∧r1.1<(a1.length:Int) then
    (zE3 (at' a1 x0) (at' a1 r1.1))>>=fun r16=>
    if r16.2=0 then
     (zGw r16.1 a0)>>=fun r17=>
     if 0≤x0∧x0<(x2.length:Int) then
      some (x2.set (Int.toNat x0) r17.1)>>=fun y18=>
      if r17.2≠0 then
       some (.inl ([],r17.2))
      else
       if 0≤x0∧x0<(y18.length:Int) then
        zCV a0 a1 r1 (IntKind.i64.wrap (x0+1)) (IntKind.i64.wrap (x1+(at' y18 x0))) y18
       else none
     else none
    else
     if r16.2≠0 then
      some (.inl ([],r16.2))
     else
      if 0≤x0∧x0<(x2.length:Int) then
       zCV a0 a1 r1 (IntKind.i64.wrap (x0+1)) (IntKind.i64.wrap (x1+(at' x2 x0))) x2
      else none
   else none
  else none
 else
  some (.inr (x1,x2))
 partial_fixpoint
def zCX (a0:Int) (j20:Int×(List Int)) (x0:Int) (x1:List Int):Option (Sum ((List Int)×Int) (List Int)):=
 if x0<(j20.2.length:Int) then
  if 0≤x0∧x0<(x1.length:Int) then
   (zG7 (at' x1 x0) j20.1 a0)>>=fun r21=>
   if 0≤x0∧x0<(x1.length:Int) then
    some (x1.set (Int.toNat x0) r21.1)>>=fun y22=>
    if r21.2≠0 then
     some (.inl ([],r21.2))
    else
     zCX a0 j20 (IntKind.i64.wrap (x0+1)) y22
   else none
  else none
 else
  some (.inr x1)
 partial_fixpoint
def zE6 (a0:Int) (a1:List Int) (r1:Int×Int) (x0:Int) (x1:Int) (x2:List Int):Option (Sum ((List Int)×Int) (Int×(List Int))):=
 if x0<(a1.length:Int) then
  if 0≤x0∧x0<(a1.length:Int) then
   if 0≤r1.1∧r1.1<(a1.length:Int) then
    (zE3 (at' a1 x0) (at' a1 r1.1))>>=fun r27=>
    if r27.2=0 then
     (zGw r27.1 a0)>>=fun r28=>
     if 0≤x0∧x0<(x2.length:Int) then
      some (x2.set (Int.toNat x0) r28.1)>>=fun y29=>
      if r28.2≠0 then
       some (.inl ([],r28.2))
      else
       if 0≤x0∧x0<(y29.length:Int) then
        zE6 a0 a1 r1 (IntKind.i64.wrap (x0+1)) (IntKind.i64.wrap (x1+(at' y29 x0))) y29
       else none
     else none
    else
     if r27.2≠0 then
      some (.inl ([],r27.2))
     else
      if 0≤x0∧x0<(x2.length:Int) then
       zE6 a0 a1 r1 (IntKind.i64.wrap (x0+1)) (IntKind.i64.wrap (x1+(at' x2 x0))) x2
      else none
   else none
  else none
 else
  some (.inr (x1,x2))
 partial_fixpoint
def zGD (a0:Int) (j31:Int×(List Int)) (x0:Int) (x1:List Int):Option (Sum ((List Int)×Int) (List Int)):=
 if x0<(j31.2.length:Int) then
  if 0≤x0∧x0<(x1.length:Int) then
   (zG7 (at' x1 x0) j31.1 a0)>>=fun r32=>
   if 0≤x0∧x0<(x1.length:Int) then
    some (x1.set (Int.toNat x0) r32.1)>>=fun y33=>
    if r32.2≠0 then
     some (.inl ([],r32.2))
    else
     zGD a0 j31 (IntKind.i64.wrap (x0+1)) y33
   else none
  else none
 else
  some (.inr x1)
 partial_fixpoint
def zIA (a0:Int) (a1:List Int):Option ((List Int)×Int):=
 (zG6 a1)>>=fun r1=>
 if r1.2=0 then
  if a0<0 then
   if 1≠0 then
    some ([],1)
   else
    if 0≤(a1.length:Int)∧(a1.length:Int)≤(a1.length:Int)∧(a1.length:Int)≤140737488355328∧(a1.length:Int)*((8:Nat):Int)≤140737488355328 then
     some (List.replicate (Int.toNat (a1.length:Int)) 0)>>=fun y2=>
     (zEV a0 a1 r1 0 0 y2)>>=fun e=>match e with
     | .inl r=>some r
     | .inr j8=>
      (zGC a0 j8 0 j8.2)>>=fun e=>match e with
      | .inl r=>some r
      | .inr j12=>
       some (j12,0)
    else none
  else
   ((
    if a0>30 then
     some 1
    else
     some r1.2):Option Int)>>=fun j13=>
   if j13≠0 then
    some ([],j13)
   else
    if 0≤(a1.length:Int)∧(a1.length:Int)≤(a1.length:Int)∧(a1.length:Int)≤140737488355328∧(a1.length:Int)*((8:Nat):Int)≤140737488355328 then
     some (List.replicate (Int.toNat (a1.length:Int)) 0)>>=fun y14=>
     (zCV a0 a1 r1 0 0 y14)>>=fun e=>match e with
     | .inl r=>some r
     | .inr j20=>
      (zCX a0 j20 0 j20.2)>>=fun e=>match e with
      | .inl r=>some r
      | .inr j24=>
       some (j24,0)
    else none
 else
  if r1.2≠0 then
   some ([],r1.2)
  else
   if 0≤(a1.length:Int)∧(a1.length:Int)≤(a1.length:Int)∧(a1.length:Int)≤140737488355328∧(a1.length:Int)*((8:Nat):Int)≤140737488355328 then
    some (List.replicate (Int.toNat (a1.length:Int)) 0)>>=fun y25=>
    (zE6 a0 a1 r1 0 0 y25)>>=fun e=>match e with
    | .inl r=>some r
    | .inr j31=>
     (zGD a0 j31 0 j31.2)>>=fun e=>match e with
     | .inl r=>some r
     | .inr j35=>
      some (j35,0)
   else none
def zHF (a0:Int) (a1:List Int) (a2:List Int) (a3:Int):Option ((List Int)×Int):=
 (zIs a0 a1 a2 a3)>>=fun r1=>
 if r1.2≠0 then
  some ([],r1.2)
 else
  (zIA a3 r1.1)>>=fun r2=>
  some (r2.1,r2.2)
def zIv (a0:Int) (a1:List Int) (a2:zAa) (a3:Int):Option ((List Int)×Int):=
 (zHF a0 a1 a2.F_X a3)>>=fun r1=>
 if r1.2=0 then
  if a2.F_Y<0 then
   if 1≠0 then
    some ([],1)
   else
    if 0≤a2.F_Y∧a2.F_Y<(r1.1.length:Int) then
     if 0≤a3 then
      if 0≤a2.F_Y∧a2.F_Y<(r1.1.length:Int) then
       some (r1.1.set (Int.toNat a2.F_Y) (IntKind.i64.wrap ((at' r1.1 a2.F_Y)-(sShl .i64 1 a3))),0)
      else none
     else none
    else none
  else
   ((
    if a2.F_Y≥a0 then
     some 1
    else
     some r1.2):Option Int)>>=fun j2=>
   if j2≠0 then
    some ([],j2)
   else
    if 0≤a2.F_Y∧a2.F_Y<(r1.1.length:Int) then
     if 0≤a3 then
      if 0≤a2.F_Y∧a2.F_Y<(r1.1.length:Int) then
       some (r1.1.set (Int.toNat a2.F_Y) (IntKind.i64.wrap ((at' r1.1 a2.F_Y)-(sShl .i64 1 a3))),0)
      else none
     else none
    else none
 else
  if r1.2≠0 then
   some ([],r1.2)
  else
   if 0≤a2.F_Y∧a2.F_Y<(r1.1.length:Int) then
    if 0≤a3 then
     if 0≤a2.F_Y∧a2.F_Y<(r1.1.length:Int) then
      some (r1.1.set (Int.toNat a2.F_Y) (IntKind.i64.wrap ((at' r1.1 a2.F_Y)-(sShl .i64 1 a3))),0)
     else none
    else none
   else none
def zDP (a0:zAa) (a1:List Int) (a2:Int) (x0:Int) (x1:List Int):Option (Sum ((List Int)×Int) (List Int)):=
 if x0<(a1.length:Int) then
  if 0≤x0∧x0<(a1.length:Int) then
   (zGv a0.F_X (at' a1 x0) a2)>>=fun r1=>
   if r1.2≠0 then
    some (.inl ([],r1.2))
   else
    if room 8 (x1++r1.1).length then
     if room 8 ((x1++r1.1)++[at' a1 x0]).length then
      some ((x1++r1.1)++[at' a1 x0])>>=fun y2=>
      zDP a0 a1 a2 (IntKind.i64.wrap (x0+1)) y2
     else none
    else none
  else none
 else
  some (.inr x1)
 partial_fixpoint
def zJa (a0:zAa) (a1:List Int) (a2:Int):Option ((List Int)×Int):=
 (zDP a0 a1 a2 0 [])>>=fun e=>match e with
 | .inl r=>some r
 | .inr j4=>
  some (j4,0)
def zBL (a0:Int) (a1:List Int) (a2:Int) (a3:List zAa) (x0:Int) (x1:List (List Int)) (x2:Int):Option ((List (List Int))×Int):=
 if x0<(a3.length:Int) then
  if 0≤x0∧x0<(a3.length:Int) then
   ((
    if x2=0 then
     (zIv a0 a1 (at' a3 x0) a2)>>=fun r2=>
     some (r2.2,r2.1)
    else
     some (x2,[])):Option (Int×(List Int)))>>=fun j3=>
   if j3.1=0 then
    (zJa (at' a3 x0) j3.2 a2)>>=fun r4=>
    if room 24 (x1++[r4.1]).length then
     zBL a0 a1 a2 a3 (IntKind.i64.wrap (x0+1)) (x1++[r4.1]) r4.2
    else none
   else
    if room 24 (x1++[[]]).length then
     zBL a0 a1 a2 a3 (IntKind.i64.wrap (x0+1)) (x1++[[]]) j3.1
    else none
  else none
 else
  some (x1,x2)
 partial_fixpoint
def zJk (a0:Int) (a1:List Int) (a2:Int) (a3:List zAa):Option ((List Int)×Int):=
 (zLS a0 a1 a3)>>=fun r1=>
 (zBL a0 a1 a2 a3 0 [] r1)>>=fun j5=>
 if j5.2≠0 then
  some ([],j5.2)
 else
  (zEh (a3.length:Int) j5.1)>>=fun r6=>
  some (r6.1,r6.2)
def zDc (a0:zAx) (a1:List Int) (a2:List zAa):Option ((List Int)×Int):=
 (zJk a0.F_Model.F_Out a1 a0.F_Model.F_Frac a2)>>=fun r1=>
 some (r1.1,r1.2)
def zI6 (a0:Int) (a1:List Int):Option ((List Int)×(List (List Int))×Int×Int):=
 (zHK a0)>>=fun r1=>
 if r1=false then
  some ([],[],0,1)
 else
  if a0≠0 then
   some (IntKind.i64.wrap ((IntKind.i64.wrap (Int.tdiv (IntKind.i64.wrap ((a1.length:Int)-1)) a0))-1))>>=fun y2=>
   (zIc (IntKind.i64.wrap (y2-1)) a0)>>=fun r4=>
   ((
    if r4.2≠0 then
     some true
    else
     some (r4.1 !=(a1.length:Int))):Option Bool)>>=fun j5=>
   if j5=true then
    some ([],[],0,4)
   else
    if cutOk (some (IntKind.i64.wrap (a0*y2))) none a1.length then
     some (cut' a1 (some (IntKind.i64.wrap (a0*y2))) none)>>=fun y6=>
     if cutOk none (some (IntKind.i64.wrap (a0*y2))) a1.length then
      some (cut' a1 none (some (IntKind.i64.wrap (a0*y2))))>>=fun y8=>
      (zCg y8 y2)>>=fun r10=>
      (if 1≤r10.2∧r10.2≤4611686018427387904∧r10.1.length≤4611686018427387904 then List.foldlM (fun (x_11:(List (List Int))) (c_12:List Int)=>((
       if room 24 (x_11++[c_12]).length then
        some (x_11++[c_12])
       else none):Option (List (List Int)))) [] (zEQ (Int.toNat r10.2) r10.1) else none)>>=fun j13=>
      some (y6,j13,IntKind.i64.wrap (y2-1),0)
     else none
    else none
  else none
def zEi (r2:(List Int)) (x0:Int) (x1:List Int):Option (List Int):=
 if x0<(r2.length:Int) then
  if 0≤x0∧x0<(x1.length:Int) then
   if 0≤x0∧x0<(x1.length:Int) then
    some (x1.set (Int.toNat x0) (if (0:Int)>(at' x1 x0) then 0 else at' x1 x0))>>=fun y3=>
    zEi r2 (IntKind.i64.wrap (x0+1)) y3
   else none
  else none
 else
  some x1
 partial_fixpoint
def zKy (a0:List Int):Option ((List Int)×Int):=
 (zDT a0)>>=fun r1=>
 if r1≠0 then
  some ([],r1)
 else
  (zBu a0)>>=fun r2=>
  (zEi r2 0 r2)>>=fun j5=>
  some (j5,0)
def zA4 (a0:zBj) (a1:List Int) (a2:Int) (x0:Int) (x1:List Int):Option (Sum ((List Int)×Int) (List Int)):=
 if x0<(a0.F_rows.length:Int) then
  if 0≤x0∧x0<(a0.F_rows.length:Int) then
   (zDa (at' a0.F_rows x0) a1 a2)>>=fun r4=>
   if 0≤x0∧x0<(x1.length:Int) then
    some (x1.set (Int.toNat x0) r4.1)>>=fun y5=>
    if r4.2≠0 then
     some (.inl ([],r4.2))
    else
     zA4 a0 a1 a2 (IntKind.i64.wrap (x0+1)) y5
   else none
  else none
 else
  some (.inr x1)
 partial_fixpoint
def zDU (a0:zBj) (a1:List Int) (a2:Int):Option ((List Int)×Int):=
 if (a1.length:Int)≠a0.F_in then
  some ([],4)
 else
  ((
   if a2<0 then
    some true
   else
    some (decide (a2>30))):Option Bool)>>=fun j1=>
  if j1=true then
   some ([],1)
  else
   if 0≤(a0.F_rows.length:Int)∧(a0.F_rows.length:Int)≤(a0.F_rows.length:Int)∧(a0.F_rows.length:Int)≤140737488355328∧(a0.F_rows.length:Int)*((8:Nat):Int)≤140737488355328 then
    some (List.replicate (Int.toNat (a0.F_rows.length:Int)) 0)>>=fun y2=>
    (zA4 a0 a1 a2 0 y2)>>=fun e=>match e with
    | .inl r=>some r
    | .inr j7=>
     (zKy j7)>>=fun r8=>
     some (r8.1,r8.2)
   else none
def zDy (a0:zBj) (a1:List Int) (a2:Int):Option ((List Int)×Int×Int):=
 (zDU a0 a1 a2)>>=fun r1=>
 if r1.2≠0 then
  some ([],0,r1.2)
 else
  (zDa a0.F_line.F_last r1.1 a2)>>=fun r2=>
  some (r1.1,r2.1,r2.2)
def zAP (a0:List Int) (a1:Int) (a2:Int) (a3:Int) (a4:List Int):Option (Int×Int×(List Int)):=
 if a2=0 then
  (zGv a0 a1 a3)>>=fun r1=>
  if room 8 (a4++r1.1).length then
   if room 8 ((a4++r1.1)++[a1]).length then
    some (r1.2,a3,(a4++r1.1)++[a1])
   else none
  else none
 else
  some (a2,a3,a4)
def zAI (a0:zBj) (a1:zAa) (r1:(List Int)×Int×Int) (r2:Int×Int) (x0:Int) (x1:Int) (x2:List Int) (x3:Int):Option (Int×(List Int)×Int):=
 if x0<(r1.1.length:Int) then
  if 0≤x0∧x0<(r1.1.length:Int) then
   ((
    if (at' r1.1 x0)>0 then
     some (x1==0)
    else
     some false):Option Bool)>>=fun j3=>
   if j3=true then
    if 0≤x0∧x0<(a0.F_line.F_last.length:Int) then
     (zGX r2.1 (at' a0.F_line.F_last x0) x3)>>=fun r4=>
     (zAP a1.F_X r4.1 r4.2 x3 x2)>>=fun r5=>
     zAI a0 a1 r1 r2 (IntKind.i64.wrap (x0+1)) r5.1 r5.2.2 r5.2.1
    else none
   else
    (zAP a1.F_X 0 x1 x3 x2)>>=fun r6=>
    zAI a0 a1 r1 r2 (IntKind.i64.wrap (x0+1)) r6.1 r6.2.2 r6.2.1
  else none
 else
  some (x1,x2,x3)
 partial_fixpoint
def zDC (a0:zBj) (a1:zAa) (a2:Int):Option ((List Int)×Int):=
 (zDy a0 a1.F_X a2)>>=fun r1=>
 if r1.2.2≠0 then
  some ([],r1.2.2)
 else
  (zE3 r1.2.1 a1.F_Y)>>=fun r2=>
  if r2.2≠0 then
   some ([],r2.2)
  else
   (zAI a0 a1 r1 r2 0 r2.2 [] a2)>>=fun j7=>
   (zAP r1.1 r2.1 j7.1 j7.2.2 j7.2.1)>>=fun r8=>
   if r8.1≠0 then
    some ([],r8.1)
   else
    some (r8.2.2,0)
def zDb (a2:Int) (a3:List zAa) (r1:(List Int)×(List (List Int))×Int×Int) (x0:Int) (x1:List (List Int)):Option (Sum ((List Int)×Int) (List (List Int))):=
 if x0<(a3.length:Int) then
  if 0≤x0∧x0<(a3.length:Int) then
   (zDC (⟨(⟨r1.1⟩:zES),r1.2.1,r1.2.2.1⟩:zBj) (at' a3 x0) a2)>>=fun r4=>
   if r4.2≠0 then
    some (.inl ([],r4.2))
   else
    if room 24 (x1++[r4.1]).length then
     zDb a2 a3 r1 (IntKind.i64.wrap (x0+1)) (x1++[r4.1])
    else none
  else none
 else
  some (.inr x1)
 partial_fixpoint
def zKj (a0:Int) (a1:List Int) (a2:Int) (a3:List zAa):Option ((List Int)×Int):=
 (zI6 a0 a1)>>=fun r1=>
 ((
  if r1.2.2.2=0 then
   (zGu r1.2.2.1 a0 a1 a3)>>=fun r2=>
   some r2
  else
   some r1.2.2.2):Option Int)>>=fun j3=>
 if j3≠0 then
  some ([],j3)
 else
  (zDb a2 a3 r1 0 [])>>=fun e=>match e with
  | .inl r=>some r
  | .inr j5=>
   (zEh (a3.length:Int) j5)>>=fun r6=>
   some (r6.1,r6.2)
def zDq (a0:zAE) (a1:List Int) (a2:List zAa):Option ((List Int)×Int):=
 (zKj a0.F_Model.F_Hid a1 a0.F_Model.F_Frac a2)>>=fun r1=>
 some (r1.1,r1.2)
def zIE (a0:zAf) (a1:List Int) (a2:List zAa):Option ((List Int)×Int):=
 (zFY a0)>>=fun e=>match e with
 | .inl r1=>
  if r1.2=0 then
   none
  else
   if r1.2≠0 then
    some ([],r1.2)
   else
    none
 | .inr (.inl r2)=>
  if r2.2.2.2.2.2.2=0 then
   (zB2 (⟨(⟨r2.1,r2.2.1,r2.2.2.1,r2.2.2.2.1,r2.2.2.2.2.1⟩:zAf)⟩:zAv) a1 a2)>>=fun r3=>
   if r3≠0 then
    some ([],r3)
   else
    (zCY (⟨(⟨r2.1,r2.2.1,r2.2.2.1,r2.2.2.2.1,r2.2.2.2.2.1⟩:zAf)⟩:zAv) a1 a2)>>=fun r4=>
    some (r4.1,r4.2)
  else
   if r2.2.2.2.2.2.2≠0 then
    some ([],r2.2.2.2.2.2.2)
   else
    (zCY (⟨(⟨r2.1,r2.2.1,r2.2.2.1,r2.2.2.2.1,r2.2.2.2.2.1⟩:zAf)⟩:zAv) a1 a2)>>=fun r5=>
    some (r5.1,r5.2)
 | .inr (.inr (.inl r6))=>
  if r6.2.2.2.2.2.2=0 then
   (zCf (⟨(⟨r6.1,r6.2.1,r6.2.2.1,r6.2.2.2.1,r6.2.2.2.2.1⟩:zAf)⟩:zAx) a1 a2)>>=fun r7=>
   if r7≠0 then
    some ([],r7)
   else
    (zDc (⟨(⟨r6.1,r6.2.1,r6.2.2.1,r6.2.2.2.1,r6.2.2.2.2.1⟩:zAf)⟩:zAx) a1 a2)>>=fun r8=>
    some (r8.1,r8.2)
  else
   if r6.2.2.2.2.2.2≠0 then
    some ([],r6.2.2.2.2.2.2)
   else
    (zDc (⟨(⟨r6.1,r6.2.1,r6.2.2.1,r6.2.2.2.1,r6.2.2.2.2.1⟩:zAf)⟩:zAx) a1 a2)>>=fun r9=>
    some (r9.1,r9.2)
 | .inr (.inr (.inr r10))=>
  if r10.2.2.2.2.2.2=0 then
   (zCp (⟨(⟨r10.1,r10.2.1,r10.2.2.1,r10.2.2.2.1,r10.2.2.2.2.1⟩:zAf)⟩:zAE) a1 a2)>>=fun r11=>
   if r11≠0 then
    some ([],r11)
   else
    (zDq (⟨(⟨r10.1,r10.2.1,r10.2.2.1,r10.2.2.2.1,r10.2.2.2.2.1⟩:zAf)⟩:zAE) a1 a2)>>=fun r12=>
    some (r12.1,r12.2)
  else
   if r10.2.2.2.2.2.2≠0 then
    some ([],r10.2.2.2.2.2.2)
   else
    (zDq (⟨(⟨r10.1,r10.2.1,r10.2.2.1,r10.2.2.2.1,r10.2.2.2.2.1⟩:zAf)⟩:zAE) a1 a2)>>=fun r13=>
    some (r13.1,r13.2)
def zIy (a0:Int) (a1:Int):Option (Int×Int):=
 if a1<0 then
  some (0,1)
 else
  some (if a1<(if (IntKind.i64.wrap (0-a1))>a0 then IntKind.i64.wrap (0-a1) else a0) then a1 else if (IntKind.i64.wrap (0-a1))>a0 then IntKind.i64.wrap (0-a1) else a0,0)
def zH4 (a0:Int) (a1:List Int) (a2:Int):Option (Int×Int):=
 if 0≤a0∧a0<(a1.length:Int) then
  (zIy (at' a1 a0) a2)>>=fun r1=>
  some (r1.1,r1.2)
 else none
def zA7 (a1:List Int) (a2:Int) (y1:List Int) (x0:Int) (x1:List Int):Option (Sum ((List Int)×Int) (List Int)):=
 if x0<(y1.length:Int) then
  (zH4 x0 a1 a2)>>=fun r3=>
  if 0≤x0∧x0<(x1.length:Int) then
   some (x1.set (Int.toNat x0) r3.1)>>=fun y4=>
   if r3.2≠0 then
    some (.inl ([],r3.2))
   else
    zA7 a1 a2 y1 (IntKind.i64.wrap (x0+1)) y4
  else none
 else
  some (.inr x1)
 partial_fixpoint
def zFB (a0:Int) (a1:List Int) (a2:Int):Option ((List Int)×Int):=
 if 0≤a0∧a0≤a0∧a0≤140737488355328∧a0*((8:Nat):Int)≤140737488355328 then
  some (List.replicate (Int.toNat a0) 0)>>=fun y1=>
  (zA7 a1 a2 y1 0 y1)>>=fun e=>match e with
  | .inl r=>some r
  | .inr j6=>
   some (j6,0)
 else none
def zKz (a0:List Int) (a1:Int):Option ((List Int)×Int):=
 (zDT a0)>>=fun r1=>
 ((
  if r1=0 then
   (zIy 0 a1)>>=fun r2=>
   some r2.2
  else
   some r1):Option Int)>>=fun j3=>
 if j3≠0 then
  some ([],j3)
 else
  (zFB (a0.length:Int) a0 a1)>>=fun r4=>
  some (r4.1,r4.2)
def zIx (a0:zAf) (a1:List Int) (a2:Int) (a3:List zAa):Option ((List Int)×Int):=
 (zIE a0 a1 a3)>>=fun r1=>
 if r1.2≠0 then
  some ([],r1.2)
 else
  (zKz r1.1 a2)>>=fun r2=>
  some (r2.1,r2.2)
def zDM (a0:zAq) (a3:List Int) (r1:(List Int)×Int) (x0:Int) (x1:List zAa):Option (List zAa):=
 if x0<(r1.1.length:Int) then
  if 0≤x0∧x0<(r1.1.length:Int) then
   if 0≤at' r1.1 x0∧at' r1.1 x0<(a0.F_L.length:Int) then
    if room 32 (x1++[at' a0.F_L (at' r1.1 x0)]).length then
     some (x1++[at' a0.F_L (at' r1.1 x0)])>>=fun y4=>
     zDM a0 a3 r1 (IntKind.i64.wrap (x0+1)) y4
    else none
   else none
  else none
 else
  some x1
 partial_fixpoint
def zHL (a0:zAq) (a1:Int) (a2:Int) (a3:List Int):Option ((List Int)×Int):=
 (zD5 a0 a1 a2)>>=fun r1=>
 if r1.2≠0 then
  some ([],r1.2)
 else
  if 0≤(0:Int)∧(0:Int)≤(r1.1.length:Int)∧(r1.1.length:Int)≤140737488355328∧(r1.1.length:Int)*((32:Nat):Int)≤140737488355328 then
   some (List.replicate (Int.toNat 0) (⟨[],0⟩:zAa))>>=fun y2=>
   (zDM a0 a3 r1 0 y2)>>=fun j6=>
   (zIx a0.F_M a3 a0.F_Clip j6)>>=fun r7=>
   some (r7.1,r7.2)
  else none
def zD9 (a0:zAf):Option Int:=
 ((
  if a0.F_In≥1 then
   some (decide (a0.F_In≤16))
  else
   some false):Option Bool)>>=fun j1=>
 ((
  if j1=true then
   some (decide (a0.F_Frac≥0))
  else
   some false):Option Bool)>>=fun j2=>
 ((
  if j2=true then
   some (decide (a0.F_Frac≤30))
  else
   some false):Option Bool)>>=fun j3=>
 if a0.F_Kind=0 then
  ((
   if j3=true then
    some (a0.F_Out==0)
   else
    some false):Option Bool)>>=fun j4=>
  ((
   if j4=true then
    some (a0.F_Hid==0)
   else
    some false):Option Bool)>>=fun j5=>
  if j5=false then
   some 1
  else
   some 0
 else
  if a0.F_Kind=1 then
   ((
    if j3=true then
     some (decide (a0.F_Out≥2))
    else
     some false):Option Bool)>>=fun j6=>
   ((
    if j6=true then
     some (decide (a0.F_Out≤8))
    else
     some false):Option Bool)>>=fun j7=>
   ((
    if j7=true then
     some (a0.F_Hid==0)
    else
     some false):Option Bool)>>=fun j8=>
   if j8=false then
    some 1
   else
    some 0
  else
   if a0.F_Kind=2 then
    ((
     if j3=true then
      some (a0.F_Out==0)
     else
      some false):Option Bool)>>=fun j9=>
    ((
     if j9=true then
      some (decide (a0.F_Hid≥1))
     else
      some false):Option Bool)>>=fun j10=>
    ((
     if j10=true then
      some (decide (a0.F_Hid≤8))
     else
      some false):Option Bool)>>=fun j11=>
    if j11=false then
     some 1
    else
     some 0
   else
    some 1
def zEz (a0:Int) (a1:Int):Option (Int×Int):=
 ((
  if a0<1 then
   some true
  else
   some (decide (a0>16))):Option Bool)>>=fun j1=>
 ((
  if j1=true then
   some true
  else
   some (decide (a1<2))):Option Bool)>>=fun j2=>
 ((
  if j2=true then
   some true
  else
   some (decide (a1>8))):Option Bool)>>=fun j3=>
 if j3=true then
  some (0,1)
 else
  some (IntKind.i64.wrap (a1*(IntKind.i64.wrap (a0+1))),0)
def zDL (a0:Int) (a1:Int):Option (Int×Int):=
 ((
  if a0<1 then
   some true
  else
   some (decide (a0>16))):Option Bool)>>=fun j1=>
 ((
  if j1=true then
   some true
  else
   some (decide (a1<1))):Option Bool)>>=fun j2=>
 ((
  if j2=true then
   some true
  else
   some (decide (a1>8))):Option Bool)>>=fun j3=>
 if j3=true then
  some (0,1)
 else
  some (IntKind.i64.wrap ((IntKind.i64.wrap ((IntKind.i64.wrap (a1*(IntKind.i64.wrap (a0+1))))+a1))+1),0)
def zEG (a0:Int):Option (Int×Int):=
 ((
  if a0<1 then
   some true
  else
   some (decide (a0>16))):Option Bool)>>=fun j1=>
 if j1=true then
  some (0,1)
 else
  some (IntKind.i64.wrap (a0+1),0)
def zFW (a0:zAf):Option (Int×Int):=
 (zD9 a0)>>=fun r1=>
 if r1≠0 then
  some (0,r1)
 else
  if a0.F_Kind=1 then
   (zEz a0.F_In a0.F_Out)>>=fun r2=>
   some (r2.1,r2.2)
  else
   if a0.F_Kind=2 then
    (zDL a0.F_In a0.F_Hid)>>=fun r3=>
    some (r3.1,r3.2)
   else
    (zEG a0.F_In)>>=fun r4=>
    some (r4.1,r4.2)
def zEZ (a0:zBa) (a1:Int):Option Int:=
 ((
  if a1≥1 then
   some (decide (a1≤4096))
  else
   some false):Option Bool)>>=fun j1=>
 ((
  if a0.F_Scheme=0 then
   some true
  else
   some (a0.F_Scheme==3)):Option Bool)>>=fun j2=>
 if j2=true then
  ((
   if j1=true then
    some (a0.F_K==0)
   else
    some false):Option Bool)>>=fun j3=>
  ((
   if j3=true then
    some (a0.F_Wide==0)
   else
    some false):Option Bool)>>=fun j4=>
  if j4=false then
   some 1
  else
   some 0
 else
  if a0.F_Scheme=1 then
   ((
    if j1=true then
     some (decide (a0.F_K≥0))
    else
     some false):Option Bool)>>=fun j5=>
   ((
    if j5=true then
     some (decide (a0.F_K≤a1))
    else
     some false):Option Bool)>>=fun j6=>
   ((
    if j6=true then
     some (a0.F_Wide==0)
    else
     some false):Option Bool)>>=fun j7=>
   if j7=false then
    some 1
   else
    some 0
  else
   if a0.F_Scheme=2 then
    ((
     if j1=true then
      some (a0.F_K==0)
     else
      some false):Option Bool)>>=fun j8=>
    ((
     if j8=true then
      some (decide (a0.F_Wide≥1))
     else
      some false):Option Bool)>>=fun j9=>
    ((
     if j9=true then
      some (decide (a0.F_Wide≤8))
     else
      some false):Option Bool)>>=fun j10=>
    if j10=false then
     some 1
    else
     some 0
   else
    some 1
def zBo (a0:Int) (a1:Int) (a3:List zAa) (x0:Int):Option (Sum Int Unit):=
 if x0<(a3.length:Int) then
  if 0≤x0∧x0<(a3.length:Int) then
   if (((at' a3 x0).F_X).length:Int)≠a0 then
    some (.inl 4)
   else
    zBo a0 a1 a3 (IntKind.i64.wrap (x0+1))
  else none
 else
  some (.inr ())
 partial_fixpoint
def zBm (a1:Int) (a3:List zAa) (x0:Int):Option (Sum Int Unit):=
 if x0<(a3.length:Int) then
  if 0≤x0∧x0<(a3.length:Int) then
   ((
    if ((at' a3 x0).F_Y)<0 then
     some true
    else
     some (decide (((at' a3 x0).F_Y)≥a1))):Option Bool)>>=fun j4=>
   if j4=true then
    some (.inl 1)
   else
    zBm a1 a3 (IntKind.i64.wrap (x0+1))
  else none
 else
  some (.inr ())
 partial_fixpoint
def zDo (a0:Int) (a1:Int) (a2:List Int) (a3:List zAa):Option Int:=
 (zEz a0 a1)>>=fun r1=>
 if r1.2≠0 then
  some r1.2
 else
  if (a2.length:Int)≠r1.1 then
   some 4
  else
   (zBo a0 a1 a3 0)>>=fun e=>match e with
   | .inl r=>some r
   | .inr j2=>
    ((
     if (a3.length:Int)=0 then
      some true
     else
      some (decide ((a3.length:Int)>64))):Option Bool)>>=fun j3=>
    if j3=true then
     some 1
    else
     (zBm a1 a3 0)>>=fun e=>match e with
     | .inl r=>some r
     | .inr j5=>
      some 0
def zBq (a0:Int) (a3:List zAa) (x0:Int):Option (Sum Int Unit):=
 if x0<(a3.length:Int) then
  if 0≤x0∧x0<(a3.length:Int) then
   if (((at' a3 x0).F_X).length:Int)≠a0 then
    some (.inl 4)
   else
    zBq a0 a3 (IntKind.i64.wrap (x0+1))
  else none
 else
  some (.inr ())
 partial_fixpoint
def zDl (a0:Int) (a1:Int) (a2:List Int) (a3:List zAa):Option Int:=
 (zDL a0 a1)>>=fun r1=>
 if r1.2≠0 then
  some r1.2
 else
  if (a2.length:Int)≠r1.1 then
   some 4
  else
   (zBq a0 a3 0)>>=fun e=>match e with
   | .inl r=>some r
   | .inr j2=>
    ((
     if (a3.length:Int)=0 then
      some true
     else
      some (decide ((a3.length:Int)>64))):Option Bool)>>=fun j3=>
    if j3=true then
     some 1
    else
     some 0
def zBl (a0:Int) (a2:List zAa) (x0:Int):Option (Sum Int Unit):=
 if x0<(a2.length:Int) then
  if 0≤x0∧x0<(a2.length:Int) then
   if (((at' a2 x0).F_X).length:Int)≠a0 then
    some (.inl 4)
   else
    zBl a0 a2 (IntKind.i64.wrap (x0+1))
  else none
 else
  some (.inr ())
 partial_fixpoint
def zB1 (a0:Int) (a1:List Int) (a2:List zAa):Option Int:=
 (zEG a0)>>=fun r1=>
 if r1.2≠0 then
  some r1.2
 else
  if (a1.length:Int)≠r1.1 then
   some 4
  else
   (zBl a0 a2 0)>>=fun e=>match e with
   | .inl r=>some r
   | .inr j2=>
    ((
     if (a2.length:Int)=0 then
      some true
     else
      some (decide ((a2.length:Int)>64))):Option Bool)>>=fun j3=>
    if j3=true then
     some 1
    else
     some 0
def zCG (a0:zAf) (a1:List Int) (a2:List zAa):Option Int:=
 (zD9 a0)>>=fun r1=>
 if r1≠0 then
  some r1
 else
  if a0.F_Kind=1 then
   (zDo a0.F_In a0.F_Out a1 a2)>>=fun r2=>
   some r2
  else
   if a0.F_Kind=2 then
    (zDl a0.F_In a0.F_Hid a1 a2)>>=fun r3=>
    some r3
   else
    (zB1 a0.F_In a1 a2)>>=fun r4=>
    some r4
def zBT (a0:zAq) (r1:Int×Int) (x0:Int):Option (Sum Int Unit):=
 if x0<(a0.F_L.length:Int) then
  if 0≤x0∧x0<(a0.F_L.length:Int) then
   ((
    if 0≤r1.1∧r1.1≤r1.1∧r1.1≤140737488355328∧r1.1*((8:Nat):Int)≤140737488355328 then
     (zCG a0.F_M (List.replicate (Int.toNat r1.1) 0) [at' a0.F_L x0])>>=fun r15=>
     some (r15 !=0)
    else none):Option Bool)>>=fun j16=>
   if j16=true then
    some (.inl 1)
   else
    zBT a0 r1 (IntKind.i64.wrap (x0+1))
  else none
 else
  some (.inr ())
 partial_fixpoint
def zE4 (a0:zAq):Option Int:=
 (zFW a0.F_M)>>=fun r1=>
 ((
  if r1.2≠0 then
   some true
  else
   some (decide (a0.F_N<1))):Option Bool)>>=fun j2=>
 ((
  if j2=true then
   some true
  else
   some (decide (a0.F_N>64))):Option Bool)>>=fun j3=>
 ((
  if j3=true then
   some true
  else
   (zEZ a0.F_H r1.1)>>=fun r4=>
   some (r4 !=0)):Option Bool)>>=fun j5=>
 ((
  if j5=true then
   some true
  else
   some (decide (a0.F_Warm<0))):Option Bool)>>=fun j6=>
 ((
  if j6=true then
   some true
  else
   some (decide (a0.F_Warm>1048576))):Option Bool)>>=fun j7=>
 if j7=true then
  some 1
 else
  if 0≤a0.F_M.F_Frac then
   ((
    if a0.F_Rate<0 then
     some true
    else
     some (decide (a0.F_Rate>(sShl .i64 1 a0.F_M.F_Frac)))):Option Bool)>>=fun j8=>
   ((
    if j8=true then
     some true
    else
     some (decide (a0.F_Mom<0))):Option Bool)>>=fun j9=>
   ((
    if j9=true then
     some true
    else
     some (decide (a0.F_Mom>(sShl .i64 1 a0.F_M.F_Frac)))):Option Bool)>>=fun j10=>
   ((
    if j10=true then
     some true
    else
     some (decide (a0.F_Clip<0))):Option Bool)>>=fun j11=>
   if j11=true then
    some 1
   else
    ((
     if (a0.F_L.length:Int)>256 then
      some true
     else
      some (decide (a0.F_Batch<1))):Option Bool)>>=fun j12=>
    ((
     if j12=true then
      some true
     else
      some (decide (a0.F_Batch>64))):Option Bool)>>=fun j13=>
    ((
     if j13=true then
      some true
     else
      some (decide (a0.F_Batch>(a0.F_L.length:Int)))):Option Bool)>>=fun j14=>
    if j14=true then
     some 1
    else
     (zBT a0 r1 0)>>=fun e=>match e with
     | .inl r=>some r
     | .inr j17=>
      some 0
  else none
def zCw (a1:List Int) (x0:Int) (x1:Int):Option Int:=
 if x0<(a1.length:Int) then
  if 0≤x0∧x0<(a1.length:Int) then
   some (bXor .u64 (IntKind.u64.wrap ((bXor .u64 x1 (IntKind.u64.wrap (at' a1 x0)))*11400714819323198485)) (sShr .u64 (IntKind.u64.wrap ((bXor .u64 x1 (IntKind.u64.wrap (at' a1 x0)))*11400714819323198485)) 29))>>=fun y1=>
   zCw a1 (IntKind.i64.wrap (x0+1)) y1
  else none
 else
  some x1
 partial_fixpoint
def zIj (a0:Int) (a1:List Int):Option Int:=
 (zCw a1 0 a0)>>=fun j3=>
 some (bXor .u64 (IntKind.u64.wrap (j3*13787848793156543929)) (sShr .u64 (IntKind.u64.wrap (j3*13787848793156543929)) 32))
def zEW (a0:Int) (a1:Int) (a2:List Int):Option (Int×Int):=
 if a0=0 then
  some (0,1)
 else
  (zIj a1 a2)>>=fun r1=>
  if a0≠0 then
   some (Int.tmod r1 a0,0)
  else none
def zBY (a0:Int) (a1:Int) (a2:List Int) (y1:List Int) (x0:Int) (x1:List Int):Option (List Int):=
 if x0<(y1.length:Int) then
  if 0≤x0∧x0<(x1.length:Int) then
   zBY a0 a1 a2 y1 (IntKind.i64.wrap (x0+1)) (x1.set (Int.toNat x0) x0)
  else none
 else
  some x1
 partial_fixpoint
def zBI (a1:Int) (a2:List Int) (x0:Int) (x1:List Int):Option (List Int):=
 if x0≥1 then
  if room 8 (a2:List Int).length then
   if room 8 (a2++[x0]).length then
    (zEW (IntKind.u64.wrap (IntKind.i64.wrap (x0+1))) a1 (a2++[x0]))>>=fun r4=>
    if 0≤x0∧x0<(x1.length:Int) then
     if 0≤r4.1∧r4.1<(x1.length:Int) then
      if 0≤x0∧x0<(x1.length:Int) then
       some (x1.set (Int.toNat x0) (at' x1 r4.1))>>=fun y5=>
       if 0≤r4.1∧r4.1<(y5.length:Int) then
        some (y5.set (Int.toNat r4.1) (at' x1 x0))>>=fun y7=>
        zBI a1 a2 (IntKind.i64.wrap (x0-1)) y7
       else none
      else none
     else none
    else none
   else none
  else none
 else
  some x1
 partial_fixpoint
def zE5 (a0:Int) (a1:Int) (a2:List Int):Option ((List Int)×Int):=
 if a0<0 then
  some ([],1)
 else
  if a0>4096 then
   some ([],3)
  else
   if 0≤a0∧a0≤a0∧a0≤140737488355328∧a0*((8:Nat):Int)≤140737488355328 then
    some (List.replicate (Int.toNat a0) 0)>>=fun y1=>
    (zBY a0 a1 a2 y1 0 y1)>>=fun j3=>
    (zBI a1 a2 (IntKind.i64.wrap (a0-1)) j3)>>=fun j9=>
    some (j9,0)
   else none
def zHw (a0:Int) (a1:Int) (a2:Int) (a3:List Int):Option ((List Int)×Int):=
 ((
  if a0<0 then
   some true
  else
   some (decide (a0>a1))):Option Bool)>>=fun j1=>
 if j1=true then
  some ([],1)
 else
  (zE5 a1 a2 a3)>>=fun r2=>
  if r2.2≠0 then
   some ([],r2.2)
  else
   if cutOk none (some a0) r2.1.length then
    some (cut' r2.1 none (some a0),0)
   else none
def zEX (a0:zAq) (a1:Int) (a2:Int):Option ((List Int)×Int):=
 (zE4 a0)>>=fun r1=>
 ((
  if r1≠0 then
   some true
  else
   some (decide (a2<0))):Option Bool)>>=fun j2=>
 ((
  if j2=true then
   some true
  else
   some (decide (a2>1073741824))):Option Bool)>>=fun j3=>
 ((
  if j3=true then
   some true
  else
   some (decide (a1<0))):Option Bool)>>=fun j4=>
 ((
  if j4=true then
   some true
  else
   some (decide (a1≥a0.F_N))):Option Bool)>>=fun j5=>
 if j5=true then
  some ([],1)
 else
  (zHw a0.F_Batch (a0.F_L.length:Int) a0.F_Seed [a1,a2])>>=fun r6=>
  some (r6.1,r6.2)
def zCd (a0:Int) (a1:List Int) (x0:Int) (x1:List (List Int)):Option (List (List Int)):=
 if x0<a0 then
  some (IntKind.i64.wrap (x0*(IntKind.i64.wrap (Int.tdiv (a1.length:Int) a0))))>>=fun y4=>
  some (IntKind.i64.wrap ((IntKind.i64.wrap (x0+1))*(IntKind.i64.wrap (Int.tdiv (a1.length:Int) a0))))>>=fun y6=>
  if cutOk (some y4) (some y6) a1.length then
   some (cut' a1 (some y4) (some y6))>>=fun y8=>
   if room 8 (y8:List Int).length then
    if room 24 (x1++[y8]).length then
     zCd a0 a1 (IntKind.i64.wrap (x0+1)) (x1++[y8])
    else none
   else none
  else none
 else
  some x1
 partial_fixpoint
def zEn (a0:Int) (a1:List Int):Option ((List (List Int))×Int):=
 ((
  if a0<2 then
   some true
  else
   some (decide (a0>8))):Option Bool)>>=fun j1=>
 if j1=true then
  some ([],1)
 else
  if a0≠0 then
   if a0≠0 then
    ((
     if (Int.tmod (a1.length:Int) a0)≠0 then
      some true
     else
      some (decide ((IntKind.i64.wrap (Int.tdiv (a1.length:Int) a0))<2))):Option Bool)>>=fun j2=>
    ((
     if j2=true then
      some true
     else
      some (decide ((IntKind.i64.wrap (Int.tdiv (a1.length:Int) a0))>17))):Option Bool)>>=fun j3=>
    if j3=true then
     some ([],4)
    else
     (zCd a0 a1 0 [])>>=fun j10=>
     some (j10,0)
   else none
  else none
def zH2 (a0:Int) (a1:List Int) (a2:List zAa):Option Int:=
 (zEn a0 a1)>>=fun r1=>
 if r1.2≠0 then
  some r1.2
 else
  if 0≤(0:Int)∧(0:Int)<(r1.1.length:Int) then
   (zDo (IntKind.i64.wrap (((at' r1.1 0).length:Int)-1)) a0 a1 a2)>>=fun r2=>
   some r2
  else none
def zEI (a0:List Int) (a1:List Int):Option Int:=
 ((
  if (a0.length:Int)>4096 then
   some true
  else
   some (decide ((a1.length:Int)>4096))):Option Bool)>>=fun j1=>
 if j1=true then
  some 3
 else
  if (a0.length:Int)≠(a1.length:Int) then
   some 4
  else
   some 0
def zCP (a0:Int):Option Int:=
 if a0<0 then
  some (IntKind.u64.wrap ((IntKind.u64.wrap (IntKind.i64.wrap (0-(IntKind.i64.wrap (a0+1)))))+1))
 else
  some (IntKind.u64.wrap a0)
def zDZ (a0:Int) (a1:Int):Option (Int×Int):=
 some (IntKind.u64.wrap ((IntKind.u64.wrap ((IntKind.u64.wrap ((sShr .u64 a0 32)*(sShr .u64 a1 32)))+(sShr .u64 (IntKind.u64.wrap ((IntKind.u64.wrap ((sShr .u64 a0 32)*(bAnd .u64 a1 4294967295)))+(sShr .u64 (IntKind.u64.wrap ((bAnd .u64 a0 4294967295)*(bAnd .u64 a1 4294967295))) 32))) 32)))+(sShr .u64 (IntKind.u64.wrap ((IntKind.u64.wrap ((bAnd .u64 a0 4294967295)*(sShr .u64 a1 32)))+(bAnd .u64 (IntKind.u64.wrap ((IntKind.u64.wrap ((sShr .u64 a0 32)*(bAnd .u64 a1 4294967295)))+(sShr .u64 (IntKind.u64.wrap ((bAnd .u64 a0 4294967295)*(bAnd .u64 a1 4294967295))) 32))) 4294967295))) 32)),bOr .u64 (sShl .u64 (IntKind.u64.wrap ((IntKind.u64.wrap ((bAnd .u64 a0 4294967295)*(sShr .u64 a1 32)))+(bAnd .u64 (IntKind.u64.wrap ((IntKind.u64.wrap ((sShr .u64 a0 32)*(bAnd .u64 a1 4294967295)))+(sShr .u64 (IntKind.u64.wrap ((bAnd .u64 a0 4294967295)*(bAnd .u64 a1 4294967295))) 32))) 4294967295))) 32) (bAnd .u64 (IntKind.u64.wrap ((bAnd .u64 a0 4294967295)*(bAnd .u64 a1 4294967295))) 4294967295))
def zFm (a0:Int) (a1:Int):Option (Int×Int):=
 (zCP a0)>>=fun r1=>
 (zCP a1)>>=fun r2=>
 (zDZ r1 r2)>>=fun r3=>
 if (decide (a0<0))=(decide (a1<0)) then
  some (IntKind.i64.wrap r3.1,r3.2)
 else
  some (bXor .u64 (if IntKind.signed .u64 then -1 else IntKind.max .u64) r3.1)>>=fun y4=>
  some (IntKind.u64.wrap ((bXor .u64 (if IntKind.signed .u64 then -1 else IntKind.max .u64) r3.2)+1))>>=fun y6=>
  if y6=0 then
   some (IntKind.i64.wrap (IntKind.u64.wrap (y4+1)),y6)
  else
   some (IntKind.i64.wrap y4,y6)
def zCh (a2:Int) (x0:Int) (x1:Int) (x2:Int):Option (Int×Int):=
 if x0<a2 then
  some (bOr .u64 (sShr .u64 x1 1) (sShl .u64 (IntKind.u64.wrap (bAnd .i64 x2 1)) 63))>>=fun y3=>
  zCh a2 (IntKind.i64.wrap (x0+1)) y3 (sShr .i64 x2 1)
 else
  some (x1,x2)
 partial_fixpoint
def zDJ (a0:Int) (a1:Int) (a2:Int):Option (Int×Int):=
 ((
  if a2<0 then
   some true
  else
   some (decide (a2>30))):Option Bool)>>=fun j1=>
 if j1=true then
  some (0,1)
 else
  (zFm a0 a1)>>=fun r2=>
  (zCh a2 0 r2.2 r2.1)>>=fun j5=>
  if j5.2≠(sShr .i64 (IntKind.i64.wrap j5.1) 63) then
   some (0,2)
  else
   some (IntKind.i64.wrap j5.1,0)
def zDO (a0:Int) (a1:Int):Option (Int×Int):=
 ((
  if a1>0 then
   some (decide (a0>(IntKind.i64.wrap (9223372036854775807-a1))))
  else
   some false):Option Bool)>>=fun j1=>
 if j1=true then
  some (0,2)
 else
  if a1<0 then
   if a0<(IntKind.i64.wrap ((-9223372036854775808)-a1)) then
    some (0,2)
   else
    some (IntKind.i64.wrap (a0+a1),0)
  else
   some (IntKind.i64.wrap (a0+a1),0)
def zBH (a0:List Int) (a1:List Int) (a2:Int) (x0:Int) (x1:Int):Option (Sum (Int×Int) Int):=
 if x0<(a0.length:Int) then
  if 0≤x0∧x0<(a0.length:Int) then
   if 0≤x0∧x0<(a1.length:Int) then
    (zDJ (at' a0 x0) (at' a1 x0) a2)>>=fun r3=>
    if r3.2≠0 then
     some (.inl (0,r3.2))
    else
     (zDO x1 r3.1)>>=fun r4=>
     if r4.2≠0 then
      some (.inl (0,r4.2))
     else
      zBH a0 a1 a2 (IntKind.i64.wrap (x0+1)) r4.1
   else none
  else none
 else
  some (.inr x1)
 partial_fixpoint
def zF4 (a0:List Int) (a1:List Int) (a2:Int):Option (Int×Int):=
 (zEI a0 a1)>>=fun r1=>
 if r1≠0 then
  some (0,r1)
 else
  ((
   if a2<0 then
    some true
   else
    some (decide (a2>30))):Option Bool)>>=fun j2=>
  if j2=true then
   some (0,1)
  else
   (zBH a0 a1 a2 0 0)>>=fun e=>match e with
   | .inl r=>some r
   | .inr j5=>
    some (j5,0)
def zBQ (a0:List Int) (a1:List Int) (a2:Int):Option (Int×Int):=
 (zB1 (a1.length:Int) a0 [(⟨a1,0⟩:zAa)])>>=fun r1=>
 if r1≠0 then
  some (0,r1)
 else
  if cutOk none (some (a1.length:Int)) a0.length then
   some (cut' a0 none (some (a1.length:Int)))>>=fun y2=>
   (zF4 y2 a1 a2)>>=fun r4=>
   if r4.2≠0 then
    some (0,r4.2)
   else
    if 0≤(a1.length:Int)∧(a1.length:Int)<(a0.length:Int) then
     (zDO r4.1 (at' a0 (a1.length:Int)))>>=fun r5=>
     some (r5.1,r5.2)
    else none
  else none
def zBn (a2:List Int) (a3:Int) (r1:(List (List Int))×Int) (x0:Int) (x1:List Int):Option (Sum ((List Int)×Int) (List Int)):=
 if x0<(r1.1.length:Int) then
  if 0≤x0∧x0<(r1.1.length:Int) then
   (zBQ (at' r1.1 x0) a2 a3)>>=fun r3=>
   if r3.2≠0 then
    some (.inl ([],r3.2))
   else
    if room 8 (x1++[r3.1]).length then
     zBn a2 a3 r1 (IntKind.i64.wrap (x0+1)) (x1++[r3.1])
    else none
  else none
 else
  some (.inr x1)
 partial_fixpoint
def zE1 (a0:Int) (a1:List Int) (a2:List Int) (a3:Int):Option ((List Int)×Int):=
 (zEn a0 a1)>>=fun r1=>
 if r1.2≠0 then
  some ([],r1.2)
 else
  if 0≤(0:Int)∧(0:Int)<(r1.1.length:Int) then
   if ((at' r1.1 0).length:Int)≠(IntKind.i64.wrap ((a2.length:Int)+1)) then
    some ([],4)
   else
    ((
     if a3<0 then
      some true
     else
      some (decide (a3>30))):Option Bool)>>=fun j2=>
    if j2=true then
     some ([],1)
    else
     (zBn a2 a3 r1 0 [])>>=fun e=>match e with
     | .inl r=>some r
     | .inr j4=>
      some (j4,0)
  else none
def zBP (a0:List Int) (x0:Int) (x1:Int):Option Int:=
 if x0<(a0.length:Int) then
  if 0≤x0∧x0<(a0.length:Int) then
   if 0≤x1∧x1<(a0.length:Int) then
    if (at' a0 x0)>(at' a0 x1) then
     zBP a0 (IntKind.i64.wrap (x0+1)) x0
    else
     zBP a0 (IntKind.i64.wrap (x0+1)) x1
   else none
  else none
 else
  some x1
 partial_fixpoint
def zFk (a0:List Int):Option (Int×Int):=
 if (a0.length:Int)=0 then
  some (0,1)
 else
  if (a0.length:Int)>4096 then
   some (0,3)
  else
   (zBP a0 0 0)>>=fun j1=>
   some (j1,0)
def zDh (a0:Int) (a1:Int):Option (Int×Int):=
 ((
  if a1<0 then
   some (decide (a0>(IntKind.i64.wrap (9223372036854775807+a1))))
  else
   some false):Option Bool)>>=fun j1=>
 if j1=true then
  some (0,2)
 else
  if a1>0 then
   if a0<(IntKind.i64.wrap ((-9223372036854775808)+a1)) then
    some (0,2)
   else
    some (IntKind.i64.wrap (a0-a1),0)
  else
   some (IntKind.i64.wrap (a0-a1),0)
def zGh (a0:Int):Option (Int×Int):=
 (zDh 0 a0)>>=fun r1=>
 some (r1.1,r1.2)
def zBN (a0:Int) (x0:Int) (x1:Int):Option Int:=
 if x0≥0 then
  if 0≤x0 then
   if (IntKind.u64.wrap ((IntKind.u64.wrap (x1+(sShl .u64 1 x0)))*(IntKind.u64.wrap (x1+(sShl .u64 1 x0)))))≤a0 then
    zBN a0 (IntKind.i64.wrap (x0-1)) (IntKind.u64.wrap (x1+(sShl .u64 1 x0)))
   else
    zBN a0 (IntKind.i64.wrap (x0-1)) x1
  else none
 else
  some x1
 partial_fixpoint
def zAH (a0:Int):Option Int:=
 (zBN a0 31 0)>>=fun j1=>
 some j1
def zAQ (x0:Int) (x0_:Int) (x1_:List Int):Option (List Int):=
 if x0_<16 then
  if 0≤IntKind.i64.wrap (x0_-(at' [8,4,2,1] x0))∧IntKind.i64.wrap (x0_-(at' [8,4,2,1] x0))<(x1_.length:Int) then
   if 0≤IntKind.i64.wrap (x0_+(at' [8,4,2,1] x0))∧IntKind.i64.wrap (x0_+(at' [8,4,2,1] x0))<(x1_.length:Int) then
    (zAH (IntKind.u64.wrap ((at' x1_ (IntKind.i64.wrap (x0_-(at' [8,4,2,1] x0))))*(at' x1_ (IntKind.i64.wrap (x0_+(at' [8,4,2,1] x0)))))))>>=fun r7=>
    if 0≤x0_∧x0_<(x1_.length:Int) then
     some (x1_.set (Int.toNat x0_) r7)>>=fun y8=>
     some (IntKind.i64.wrap (x0_+(IntKind.i64.wrap (2*(at' [8,4,2,1] x0)))))>>=fun y10=>
     zAQ x0 y10 y8
    else none
   else none
  else none
 else
  some x1_
 partial_fixpoint
def zBA (x0:Int) (x1:List Int):Option (List Int):=
 if x0<([8,4,2,1].length:Int) then
  if 0≤x0∧x0<([8,4,2,1].length:Int) then
   (zAQ x0 (at' [8,4,2,1] x0) x1)>>=fun j12=>
   zBA (IntKind.i64.wrap (x0+1)) j12
  else none
 else
  some x1
 partial_fixpoint
def zFr:Option (List Int):=
 if 0≤(17:Int)∧(17:Int)≤(17:Int)∧(17:Int)≤140737488355328∧(17:Int)*((8:Nat):Int)≤140737488355328 then
  some (List.replicate (Int.toNat 17) 0)>>=fun y1=>
  if 0≤(0:Int)∧(0:Int)<(y1.length:Int) then
   some (y1.set (Int.toNat 0) 1073741824)>>=fun y3=>
   if 0≤(16:Int)∧(16:Int)<(y3.length:Int) then
    some (y3.set (Int.toNat 16) 536870912)>>=fun y5=>
    (zBA 0 y5)>>=fun j13=>
    some j13
   else none
  else none
 else none
def zCj (a1:Int) (r3:Int×Int) (x0:Int) (x1:Int):Option Int:=
 if x0<(IntKind.i64.wrap (30-a1)) then
  zCj a1 r3 (IntKind.i64.wrap (x0+1)) (IntKind.u64.wrap (Int.tdiv x1 2))
 else
  some x1
 partial_fixpoint
def zCl (a1:Int) (r3:Int×Int) (x0:Int) (x1:Int):Option Int:=
 ((
  if x0<(IntKind.i64.wrap (Int.tdiv r3.1 (sShl .i64 1 a1))) then
   some (decide (x1>0))
  else
   some false):Option Bool)>>=fun j8=>
 if j8=true then
  zCl a1 r3 (IntKind.i64.wrap (x0+1)) (IntKind.u64.wrap (Int.tdiv x1 2))
 else
  some x1
 partial_fixpoint
def zGg (a0:Int) (a1:Int):Option (Int×Int):=
 ((
  if a1<0 then
   some true
  else
   some (decide (a1>30))):Option Bool)>>=fun j1=>
 ((
  if j1=true then
   some true
  else
   some (decide (a0>0))):Option Bool)>>=fun j2=>
 if j2=true then
  some (0,1)
 else
  (zGh a0)>>=fun r3=>
  if r3.2≠0 then
   some (0,r3.2)
  else
   if 0≤a1 then
    if sShl .i64 1 a1≠0 then
     if sShl .i64 1 a1≠0 then
      if sShl .i64 1 a1≠0 then
       (zFr)>>=fun r4=>
       if 0≤IntKind.i64.wrap (Int.tdiv (IntKind.i64.wrap ((Int.tmod r3.1 (sShl .i64 1 a1))*16)) (sShl .i64 1 a1))∧IntKind.i64.wrap (Int.tdiv (IntKind.i64.wrap ((Int.tmod r3.1 (sShl .i64 1 a1))*16)) (sShl .i64 1 a1))<(r4.length:Int) then
        some (at' r4 (IntKind.i64.wrap (Int.tdiv (IntKind.i64.wrap ((Int.tmod r3.1 (sShl .i64 1 a1))*16)) (sShl .i64 1 a1))))>>=fun y5=>
        (zCj a1 r3 0 y5)>>=fun j7=>
        (zCl a1 r3 0 j7)>>=fun j9=>
        some (IntKind.i64.wrap j9,0)
       else none
      else none
     else none
    else none
   else none
def zAM (a0:Int) (a1:Int) (a2:Int) (x0:Int) (x1:Bool) (x2:Int) (x3:Int):Option (Bool×Int×Int):=
 if x0≥0 then
  if 0≤bAnd .i64 x0 63 then
   ((
    if x0≥64 then
     if 0≤bAnd .i64 x0 63 then
      some (bAnd .u64 (sShr .u64 a0 (bAnd .i64 x0 63)) 1)
     else none
    else
     some (bAnd .u64 (sShr .u64 a1 (bAnd .i64 x0 63)) 1)):Option Int)>>=fun j1=>
   ((
    if (sShr .u64 x2 63)=1 then
     some true
    else
     some (decide ((bOr .u64 (sShl .u64 x2 1) j1)≥a2))):Option Bool)>>=fun j2=>
   if j2=true then
    if x0<64 then
     if 0≤x0 then
      zAM a0 a1 a2 (IntKind.i64.wrap (x0-1)) x1 (IntKind.u64.wrap ((bOr .u64 (sShl .u64 x2 1) j1)-a2)) (bOr .u64 x3 (sShl .u64 1 x0))
     else none
    else
     if 1=1 then
      zAM a0 a1 a2 (IntKind.i64.wrap (x0-1)) false (IntKind.u64.wrap ((bOr .u64 (sShl .u64 x2 1) j1)-a2)) x3
     else
      zAM a0 a1 a2 (IntKind.i64.wrap (x0-1)) x1 (IntKind.u64.wrap ((bOr .u64 (sShl .u64 x2 1) j1)-a2)) x3
   else
    if x0<64 then
     if 0≤x0 then
      zAM a0 a1 a2 (IntKind.i64.wrap (x0-1)) x1 (bOr .u64 (sShl .u64 x2 1) j1) (bOr .u64 x3 (sShl .u64 0 x0))
     else none
    else
     if 0=1 then
      zAM a0 a1 a2 (IntKind.i64.wrap (x0-1)) false (bOr .u64 (sShl .u64 x2 1) j1) x3
     else
      zAM a0 a1 a2 (IntKind.i64.wrap (x0-1)) x1 (bOr .u64 (sShl .u64 x2 1) j1) x3
  else none
 else
  some (x1,x2,x3)
 partial_fixpoint
def zFo (a0:Int) (a1:Int) (a2:Int):Option (Int×Int×Bool):=
 (zAM a0 a1 a2 127 true 0 0)>>=fun j3=>
 some (j3.2.2,j3.2.1,j3.1)
def zEL (a0:Int) (a1:Int) (a2:Int):Option (Int×Int):=
 ((
  if a2<0 then
   some true
  else
   some (decide (a2>30))):Option Bool)>>=fun j1=>
 ((
  if j1=true then
   some true
  else
   some (a1==0)):Option Bool)>>=fun j2=>
 if j2=true then
  some (0,1)
 else
  if 0≤a2 then
   (zCP a0)>>=fun r3=>
   (zDZ r3 (sShl .u64 1 a2))>>=fun r4=>
   (zCP a1)>>=fun r5=>
   (zFo r4.1 r4.2 r5)>>=fun r6=>
   ((
    if r6.2.2=false then
     some true
    else
     some (decide (r6.1>9223372036854775808))):Option Bool)>>=fun j7=>
   if j7=true then
    some (0,2)
   else
    if (decide (a0<0))=(decide (a1<0)) then
     if r6.1=9223372036854775808 then
      some (0,2)
     else
      some (IntKind.i64.wrap r6.1,0)
    else
     if r6.2.1>0 then
      if (IntKind.u64.wrap (r6.1+1))>9223372036854775808 then
       some (0,2)
      else
       some (IntKind.i64.wrap (IntKind.u64.wrap (0-(IntKind.u64.wrap (r6.1+1)))),0)
     else
      if r6.1>9223372036854775808 then
       some (0,2)
      else
       some (IntKind.i64.wrap (IntKind.u64.wrap (0-r6.1)),0)
  else none
def zB3 (a0:Int) (a1:List Int) (r1:Int×Int) (x0:Int) (x1:Int) (x2:List Int):Option (Sum ((List Int)×Int) (Int×(List Int))):=
 if x0<(a1.length:Int) then
  if 0≤x0∧x0<(a1.length:Int) then
   if 0≤r1.1∧r1.1<(a1.length:Int) then
    (zDh (at' a1 x0) (at' a1 r1.1))>>=fun r3=>
    if r3.2≠0 then
     some (.inl ([],r3.2))
    else
     (zGg r3.1 a0)>>=fun r4=>
     if r4.2≠0 then
      some (.inl ([],r4.2))
     else
      if room 8 (x2++[r4.1]).length then
       zB3 a0 a1 r1 (IntKind.i64.wrap (x0+1)) (IntKind.i64.wrap (x1+r4.1)) (x2++[r4.1])
      else none
   else none
  else none
 else
  some (.inr (x1,x2))
 partial_fixpoint
def zBh (a0:Int) (j5:Int×(List Int)) (x0:Int) (x1:List Int):Option (Sum ((List Int)×Int) (List Int)):=
 if x0<(j5.2.length:Int) then
  if 0≤x0∧x0<(j5.2.length:Int) then
   (zEL (at' j5.2 x0) j5.1 a0)>>=fun r6=>
   if r6.2≠0 then
    some (.inl ([],r6.2))
   else
    if room 8 (x1++[r6.1]).length then
     zBh a0 j5 (IntKind.i64.wrap (x0+1)) (x1++[r6.1])
    else none
  else none
 else
  some (.inr x1)
 partial_fixpoint
def zFe (a0:Int) (a1:List Int):Option ((List Int)×Int):=
 (zFk a1)>>=fun r1=>
 if r1.2≠0 then
  some ([],r1.2)
 else
  ((
   if a0<0 then
    some true
   else
    some (decide (a0>30))):Option Bool)>>=fun j2=>
  if j2=true then
   some ([],1)
  else
   (zB3 a0 a1 r1 0 0 [])>>=fun e=>match e with
   | .inl r=>some r
   | .inr j5=>
    (zBh a0 j5 0 [])>>=fun e=>match e with
    | .inl r=>some r
    | .inr j7=>
     some (j7,0)
def zEm (a0:Int) (a1:List Int) (a2:List Int) (a3:Int):Option ((List Int)×Int):=
 (zE1 a0 a1 a2 a3)>>=fun r1=>
 if r1.2≠0 then
  some ([],r1.2)
 else
  (zFe a3 r1.1)>>=fun r2=>
  some (r2.1,r2.2)
def zEH (a0:Int) (a1:List Int) (a2:zAa) (a3:Int):Option ((List Int)×Int):=
 (zEm a0 a1 a2.F_X a3)>>=fun r1=>
 if r1.2≠0 then
  some ([],r1.2)
 else
  ((
   if a2.F_Y<0 then
    some true
   else
    some (decide (a2.F_Y≥a0))):Option Bool)>>=fun j2=>
  if j2=true then
   some ([],1)
  else
   if 0≤a2.F_Y∧a2.F_Y<(r1.1.length:Int) then
    if 0≤a3 then
     if 0≤a2.F_Y∧a2.F_Y<(r1.1.length:Int) then
      some (r1.1.set (Int.toNat a2.F_Y) (IntKind.i64.wrap ((at' r1.1 a2.F_Y)-(sShl .i64 1 a3))),0)
     else none
    else none
   else none
def zBp (a0:List Int) (a1:Int) (a2:Int) (x0:Int) (x1:List Int):Option (Sum ((List Int)×Int) (List Int)):=
 if x0<(a0.length:Int) then
  if 0≤x0∧x0<(a0.length:Int) then
   (zDJ (at' a0 x0) a1 a2)>>=fun r2=>
   if r2.2≠0 then
    some (.inl ([],r2.2))
   else
    if room 8 (x1++[r2.1]).length then
     zBp a0 a1 a2 (IntKind.i64.wrap (x0+1)) (x1++[r2.1])
    else none
  else none
 else
  some (.inr x1)
 partial_fixpoint
def zCt (a0:List Int) (a1:Int) (a2:Int):Option ((List Int)×Int):=
 if (a0.length:Int)>4096 then
  some ([],3)
 else
  ((
   if a2<0 then
    some true
   else
    some (decide (a2>30))):Option Bool)>>=fun j1=>
  if j1=true then
   some ([],1)
  else
   (zBp a0 a1 a2 0 [])>>=fun e=>match e with
   | .inl r=>some r
   | .inr j3=>
    some (j3,0)
def zGQ (a0:List Int):Option Int:=
 if (a0.length:Int)>4096 then
  some 3
 else
  some 0
def zBG (a0:List Int) (a1:List Int) (x0:Int) (x1:List Int):Option (Sum ((List Int)×Int) (List Int)):=
 if x0<(a0.length:Int) then
  if 0≤x0∧x0<(a0.length:Int) then
   if 0≤x0∧x0<(a1.length:Int) then
    (zDO (at' a0 x0) (at' a1 x0))>>=fun r2=>
    if r2.2≠0 then
     some (.inl ([],r2.2))
    else
     if room 8 (x1++[r2.1]).length then
      zBG a0 a1 (IntKind.i64.wrap (x0+1)) (x1++[r2.1])
     else none
   else none
  else none
 else
  some (.inr x1)
 partial_fixpoint
def zFZ (a0:List Int) (a1:List Int):Option ((List Int)×Int):=
 (zEI a0 a1)>>=fun r1=>
 if r1≠0 then
  some ([],r1)
 else
  (zBG a0 a1 0 [])>>=fun e=>match e with
  | .inl r=>some r
  | .inr j3=>
   some (j3,0)
def zBr (a0:List (List Int)) (x0:Int) (x1:List Int):Option (Sum ((List Int)×Int) (List Int)):=
 if x0<(a0.length:Int) then
  if 0≤x0∧x0<(a0.length:Int) then
   if x0=0 then
    (zGQ (at' a0 x0))>>=fun r1=>
    if r1≠0 then
     some (.inl ([],r1))
    else
     if room 8 (x1++(at' a0 x0)).length then
      zBr a0 (IntKind.i64.wrap (x0+1)) (x1++(at' a0 x0))
     else none
   else
    (zFZ x1 (at' a0 x0))>>=fun r2=>
    if r2.2≠0 then
     some (.inl ([],r2.2))
    else
     zBr a0 (IntKind.i64.wrap (x0+1)) r2.1
  else none
 else
  some (.inr x1)
 partial_fixpoint
def zEC (a0:List (List Int)):Option ((List Int)×Int):=
 (zBr a0 0 [])>>=fun e=>match e with
 | .inl r=>some r
 | .inr j3=>
  some (j3,0)
def zFl (a0:Int) (a1:Int):Option (Int×Int):=
 (zEL a0 a1 0)>>=fun r1=>
 some (r1.1,r1.2)
def zBw (a0:Int) (r1:(List Int)×Int) (x0:Int) (x1:List Int):Option (Sum ((List Int)×Int) (List Int)):=
 if x0<(r1.1.length:Int) then
  if 0≤x0∧x0<(r1.1.length:Int) then
   (zFl (at' r1.1 x0) a0)>>=fun r2=>
   if r2.2≠0 then
    some (.inl ([],r2.2))
   else
    if room 8 (x1++[r2.1]).length then
     zBw a0 r1 (IntKind.i64.wrap (x0+1)) (x1++[r2.1])
    else none
  else none
 else
  some (.inr x1)
 partial_fixpoint
def zCT (a0:Int) (a1:List (List Int)):Option ((List Int)×Int):=
 if a0<1 then
  some ([],1)
 else
  (zEC a1)>>=fun r1=>
  if r1.2≠0 then
   some ([],r1.2)
  else
   (zBw a0 r1 0 [])>>=fun e=>match e with
   | .inl r=>some r
   | .inr j3=>
    some (j3,0)
def zB9 (a0:Int) (a1:List Int) (a2:Int) (a3:List zAa) (x0:Int) (x1:List (List Int)) (r2:(List Int)×Int) (x0_:Int) (x1_:List Int):Option (Sum ((List Int)×Int) (List Int)):=
 if x0_<(r2.1.length:Int) then
  if 0≤x0_∧x0_<(r2.1.length:Int) then
   (zCt ((at' a3 x0).F_X) (at' r2.1 x0_) a2)>>=fun r3=>
   if r3.2≠0 then
    some (.inl ([],r3.2))
   else
    if room 8 (x1_++r3.1).length then
     if room 8 ((x1_++r3.1)++[at' r2.1 x0_]).length then
      some ((x1_++r3.1)++[at' r2.1 x0_])>>=fun y4=>
      zB9 a0 a1 a2 a3 x0 x1 r2 (IntKind.i64.wrap (x0_+1)) y4
     else none
    else none
  else none
 else
  some (.inr x1_)
 partial_fixpoint
def zBx (a0:Int) (a1:List Int) (a2:Int) (a3:List zAa) (x0:Int) (x1:List (List Int)):Option (Sum ((List Int)×Int) (List (List Int))):=
 if x0<(a3.length:Int) then
  if 0≤x0∧x0<(a3.length:Int) then
   (zEH a0 a1 (at' a3 x0) a2)>>=fun r2=>
   if r2.2≠0 then
    some (.inl ([],r2.2))
   else
    (zB9 a0 a1 a2 a3 x0 x1 r2 0 [])>>=fun e=>match e with
    | .inl r=>some (.inl r)
    | .inr j6=>
     if room 24 (x1++[j6]).length then
      zBx a0 a1 a2 a3 (IntKind.i64.wrap (x0+1)) (x1++[j6])
     else none
  else none
 else
  some (.inr x1)
 partial_fixpoint
def zFv (a0:Int) (a1:List Int) (a2:Int) (a3:List zAa):Option ((List Int)×Int):=
 (zH2 a0 a1 a3)>>=fun r1=>
 if r1≠0 then
  some ([],r1)
 else
  (zBx a0 a1 a2 a3 0 [])>>=fun e=>match e with
  | .inl r=>some r
  | .inr j7=>
   (zCT (a3.length:Int) j7)>>=fun r8=>
   some (r8.1,r8.2)
def zBW (a0:Int) (a1:List Int) (x0:Int) (x0_:Int) (x1_:List (List Int)):Option (List (List Int)):=
 if x0_<a0 then
  some (IntKind.i64.wrap ((IntKind.i64.wrap (x0_+1))*(IntKind.i64.wrap (x0+1))))>>=fun y3=>
  if cutOk (some (IntKind.i64.wrap (x0_*(IntKind.i64.wrap (x0+1))))) (some y3) a1.length then
   some (cut' a1 (some (IntKind.i64.wrap (x0_*(IntKind.i64.wrap (x0+1))))) (some y3))>>=fun y5=>
   if room 8 (y5:List Int).length then
    if room 24 (x1_++[y5]).length then
     zBW a0 a1 x0 (IntKind.i64.wrap (x0_+1)) (x1_++[y5])
    else none
   else none
  else none
 else
  some x1_
 partial_fixpoint
def zBZ (a0:Int) (a1:List Int) (x0:Int):Option (Sum ((List (List Int))×(List Int)×Int) Unit):=
 if x0≤16 then
  (zDL x0 a0)>>=fun r2=>
  if r2.1≠(a1.length:Int) then
   zBZ a0 a1 (IntKind.i64.wrap (x0+1))
  else
   (zBW a0 a1 x0 0 [])>>=fun j7=>
   if cutOk (some (IntKind.i64.wrap (a0*(IntKind.i64.wrap (x0+1))))) none a1.length then
    some (cut' a1 (some (IntKind.i64.wrap (a0*(IntKind.i64.wrap (x0+1))))) none)>>=fun y8=>
    if room 8 (y8:List Int).length then
     some (.inl (j7,y8,0))
    else none
   else none
 else
  some (.inr ())
 partial_fixpoint
def zCr (a0:Int) (a1:List Int):Option ((List (List Int))×(List Int)×Int):=
 ((
  if a0<1 then
   some true
  else
   some (decide (a0>8))):Option Bool)>>=fun j1=>
 if j1=true then
  some ([],[],1)
 else
  (zBZ a0 a1 1)>>=fun e=>match e with
  | .inl r=>some r
  | .inr j10=>
   some ([],[],4)
def zB6 (a0:List Int) (x0:Int) (x1:List Int):Option (List Int):=
 if x0<(a0.length:Int) then
  if 0≤x0∧x0<(a0.length:Int) then
   if room 8 (x1++[if (0:Int)>(at' a0 x0) then 0 else at' a0 x0]).length then
    some (x1++[if (0:Int)>(at' a0 x0) then 0 else at' a0 x0])>>=fun y1=>
    zB6 a0 (IntKind.i64.wrap (x0+1)) y1
   else none
  else none
 else
  some x1
 partial_fixpoint
def zFi (a0:List Int):Option ((List Int)×Int):=
 if (a0.length:Int)>4096 then
  some ([],3)
 else
  (zB6 a0 0 [])>>=fun j3=>
  some (j3,0)
def zBg (a2:List Int) (a3:Int) (r1:(List (List Int))×(List Int)×Int) (x0:Int) (x1:List Int):Option (Sum ((List Int)×Int) (List Int)):=
 if x0<(r1.1.length:Int) then
  if 0≤x0∧x0<(r1.1.length:Int) then
   (zBQ (at' r1.1 x0) a2 a3)>>=fun r3=>
   if r3.2≠0 then
    some (.inl ([],r3.2))
   else
    if room 8 (x1++[r3.1]).length then
     zBg a2 a3 r1 (IntKind.i64.wrap (x0+1)) (x1++[r3.1])
    else none
  else none
 else
  some (.inr x1)
 partial_fixpoint
def zDH (a0:Int) (a1:List Int) (a2:List Int) (a3:Int):Option ((List Int)×Int):=
 (zCr a0 a1)>>=fun r1=>
 if r1.2.2≠0 then
  some ([],r1.2.2)
 else
  if 0≤(0:Int)∧(0:Int)<(r1.1.length:Int) then
   if ((at' r1.1 0).length:Int)≠(IntKind.i64.wrap ((a2.length:Int)+1)) then
    some ([],4)
   else
    ((
     if a3<0 then
      some true
     else
      some (decide (a3>30))):Option Bool)>>=fun j2=>
    if j2=true then
     some ([],1)
    else
     (zBg a2 a3 r1 0 [])>>=fun e=>match e with
     | .inl r=>some r
     | .inr j4=>
      (zFi j4)>>=fun r5=>
      some (r5.1,r5.2)
  else none
def zEq (a0:Int) (a1:List Int) (a2:List Int) (a3:Int):Option (Int×Int):=
 (zDH a0 a1 a2 a3)>>=fun r1=>
 if r1.2≠0 then
  some (0,r1.2)
 else
  (zCr a0 a1)>>=fun r2=>
  (zBQ r2.2.1 r1.1 a3)>>=fun r3=>
  some (r3.1,r3.2)
def zGi (a0:Int) (a1:List Int) (a2:zAa) (a3:Int):Option (Int×Int):=
 (zEq a0 a1 a2.F_X a3)>>=fun r1=>
 if r1.2≠0 then
  some (0,r1.2)
 else
  (zDh r1.1 a2.F_Y)>>=fun r2=>
  some (r2.1,r2.2)
def zCi (a2:zAa) (a3:Int) (r1:Int×Int) (r2:(List Int)×Int) (r3:(List (List Int))×(List Int)×Int) (x0:Int) (x1:List Int):Option (Sum ((List Int)×Int) (List Int)):=
 if x0<(r2.1.length:Int) then
  if 0≤x0∧x0<(r2.1.length:Int) then
   ((
    if (at' r2.1 x0)>0 then
     if 0≤x0∧x0<(r3.2.1.length:Int) then
      (zDJ r1.1 (at' r3.2.1 x0) a3)>>=fun r4=>
      if r4.2≠0 then
       some (.inl ([],r4.2))
      else
       some (.inr r4.1)
     else none
    else
     some (.inr 0)):Option (Sum ((List Int)×Int) Int))>>=fun e=>match e with
   | .inl r=>some (.inl r)
   | .inr j5=>
    (zCt a2.F_X j5 a3)>>=fun r6=>
    if r6.2≠0 then
     some (.inl ([],r6.2))
    else
     if room 8 (x1++r6.1).length then
      if room 8 ((x1++r6.1)++[j5]).length then
       zCi a2 a3 r1 r2 r3 (IntKind.i64.wrap (x0+1)) ((x1++r6.1)++[j5])
      else none
     else none
  else none
 else
  some (.inr x1)
 partial_fixpoint
def zGd (a0:Int) (a1:List Int) (a2:zAa) (a3:Int):Option ((List Int)×Int):=
 (zGi a0 a1 a2 a3)>>=fun r1=>
 if r1.2≠0 then
  some ([],r1.2)
 else
  (zDH a0 a1 a2.F_X a3)>>=fun r2=>
  (zCr a0 a1)>>=fun r3=>
  (zCi a2 a3 r1 r2 r3 0 [])>>=fun e=>match e with
  | .inl r=>some r
  | .inr j7=>
   (zCt r2.1 r1.1 a3)>>=fun r8=>
   if r8.2≠0 then
    some ([],r8.2)
   else
    if room 8 (j7++r8.1).length then
     if room 8 ((j7++r8.1)++[r1.1]).length then
      some ((j7++r8.1)++[r1.1],0)
     else none
    else none
def zBC (a0:Int) (a1:List Int) (a2:Int) (a3:List zAa) (x0:Int) (x1:List (List Int)):Option (Sum ((List Int)×Int) (List (List Int))):=
 if x0<(a3.length:Int) then
  if 0≤x0∧x0<(a3.length:Int) then
   (zGd a0 a1 (at' a3 x0) a2)>>=fun r3=>
   if r3.2≠0 then
    some (.inl ([],r3.2))
   else
    if room 24 (x1++[r3.1]).length then
     zBC a0 a1 a2 a3 (IntKind.i64.wrap (x0+1)) (x1++[r3.1])
    else none
  else none
 else
  some (.inr x1)
 partial_fixpoint
def zFg (a0:Int) (a1:List Int) (a2:Int) (a3:List zAa):Option ((List Int)×Int):=
 (zCr a0 a1)>>=fun r1=>
 if r1.2.2≠0 then
  some ([],r1.2.2)
 else
  if 0≤(0:Int)∧(0:Int)<(r1.1.length:Int) then
   (zDl (IntKind.i64.wrap (((at' r1.1 0).length:Int)-1)) a0 a1 a3)>>=fun r2=>
   if r2≠0 then
    some ([],r2)
   else
    (zBC a0 a1 a2 a3 0 [])>>=fun e=>match e with
    | .inl r=>some r
    | .inr j4=>
     (zCT (a3.length:Int) j4)>>=fun r5=>
     some (r5.1,r5.2)
  else none
def zF2 (a0:List Int) (a1:zAa) (a2:Int):Option (Int×Int):=
 (zBQ a0 a1.F_X a2)>>=fun r1=>
 if r1.2≠0 then
  some (0,r1.2)
 else
  (zDh r1.1 a1.F_Y)>>=fun r2=>
  some (r2.1,r2.2)
def zBB (a0:List Int) (a1:Int) (a2:List zAa) (x0:Int) (x1:List (List Int)):Option (Sum ((List Int)×Int) (List (List Int))):=
 if x0<(a2.length:Int) then
  if 0≤x0∧x0<(a2.length:Int) then
   (zF2 a0 (at' a2 x0) a1)>>=fun r2=>
   if r2.2≠0 then
    some (.inl ([],r2.2))
   else
    (zCt ((at' a2 x0).F_X) r2.1 a1)>>=fun r3=>
    if r3.2≠0 then
     some (.inl ([],r3.2))
    else
     if room 8 (r3.1++[r2.1]).length then
      if room 24 (x1++[r3.1++[r2.1]]).length then
       zBB a0 a1 a2 (IntKind.i64.wrap (x0+1)) (x1++[r3.1++[r2.1]])
      else none
     else none
  else none
 else
  some (.inr x1)
 partial_fixpoint
def zFs (a0:List Int) (a1:Int) (a2:List zAa):Option ((List Int)×Int):=
 (zB1 (IntKind.i64.wrap ((a0.length:Int)-1)) a0 a2)>>=fun r1=>
 if r1≠0 then
  some ([],r1)
 else
  (zBB a0 a1 a2 0 [])>>=fun e=>match e with
  | .inl r=>some r
  | .inr j4=>
   (zCT (a2.length:Int) j4)>>=fun r5=>
   some (r5.1,r5.2)
def zFf (a0:zAf) (a1:List Int) (a2:List zAa):Option ((List Int)×Int):=
 (zCG a0 a1 a2)>>=fun r1=>
 if r1≠0 then
  some ([],r1)
 else
  if a0.F_Kind=1 then
   (zFv a0.F_Out a1 a0.F_Frac a2)>>=fun r2=>
   some (r2.1,r2.2)
  else
   if a0.F_Kind=2 then
    (zFg a0.F_Hid a1 a0.F_Frac a2)>>=fun r3=>
    some (r3.1,r3.2)
   else
    (zFs a1 a0.F_Frac a2)>>=fun r4=>
    some (r4.1,r4.2)
def zA6 (a0:List Int) (a1:Int) (x0:Int) (x1:List Int):Option (List Int):=
 if x0<(a0.length:Int) then
  if 0≤x0∧x0<(a0.length:Int) then
   if room 8 (x1++[if (if a1<(at' a0 x0) then a1 else at' a0 x0)>(IntKind.i64.wrap (0-a1)) then if a1<(at' a0 x0) then a1 else at' a0 x0 else IntKind.i64.wrap (0-a1)]).length then
    some (x1++[if (if a1<(at' a0 x0) then a1 else at' a0 x0)>(IntKind.i64.wrap (0-a1)) then if a1<(at' a0 x0) then a1 else at' a0 x0 else IntKind.i64.wrap (0-a1)])>>=fun y1=>
    zA6 a0 a1 (IntKind.i64.wrap (x0+1)) y1
   else none
  else none
 else
  some x1
 partial_fixpoint
def zFh (a0:List Int) (a1:Int):Option ((List Int)×Int):=
 if (a0.length:Int)>4096 then
  some ([],3)
 else
  if a1<0 then
   some ([],1)
  else
   (zA6 a0 a1 0 [])>>=fun j3=>
   some (j3,0)
def zFn (a0:zAf) (a1:List Int) (a2:Int) (a3:List zAa):Option ((List Int)×Int):=
 (zFf a0 a1 a3)>>=fun r1=>
 if r1.2≠0 then
  some ([],r1.2)
 else
  (zFh r1.1 a2)>>=fun r2=>
  some (r2.1,r2.2)
def zCb (a0:zAq) (a3:List Int) (r1:(List Int)×Int) (x0:Int) (x1:List zAa):Option (List zAa):=
 if x0<(r1.1.length:Int) then
  if 0≤x0∧x0<(r1.1.length:Int) then
   if 0≤at' r1.1 x0∧at' r1.1 x0<(a0.F_L.length:Int) then
    if room 32 (x1++[at' a0.F_L (at' r1.1 x0)]).length then
     some (x1++[at' a0.F_L (at' r1.1 x0)])>>=fun y2=>
     zCb a0 a3 r1 (IntKind.i64.wrap (x0+1)) y2
    else none
   else none
  else none
 else
  some x1
 partial_fixpoint
def zEp (a0:zAq) (a1:Int) (a2:Int) (a3:List Int):Option ((List Int)×Int):=
 (zEX a0 a1 a2)>>=fun r1=>
 if r1.2≠0 then
  some ([],r1.2)
 else
  (zCb a0 a3 r1 0 [])>>=fun j4=>
  (zFn a0.F_M a3 a0.F_Clip j4)>>=fun r5=>
  some (r5.1,r5.2)
def zDz (a0:List Int) (a1:List Int) (x0:Int):Option (Sum Bool Unit):=
 if x0<(a0.length:Int) then
  if 0≤x0∧x0<(a0.length:Int) then
   if 0≤x0∧x0<(a1.length:Int) then
    if (at' a0 x0)≠(at' a1 x0) then
     some (.inl false)
    else
     zDz a0 a1 (IntKind.i64.wrap (x0+1))
   else none
  else none
 else
  some (.inr ())
 partial_fixpoint
def zEs (a0:List Int) (a1:List Int):Option Bool:=
 if (a0.length:Int)≠(a1.length:Int) then
  some false
 else
  (zDz a0 a1 0)>>=fun e=>match e with
  | .inl r=>some r
  | .inr j1=>
   some true
def zE7 (a0:zAq) (a1:Int) (a2:Int) (a3:List Int):Option Bool:=
 (zFt)>>=fun r1=>
 if r1=false then
  some false
 else
  (zGa a0)>>=fun r2=>
  ((
   if r2=false then
    some true
   else
    some (decide ((a3.length:Int)>500))):Option Bool)>>=fun j3=>
  if j3=true then
   some r1
  else
   if room 8 (a3:List Int).length then
    (zHL a0 a1 a2 a3)>>=fun r4=>
    (zEp a0 a1 a2 a3)>>=fun r5=>
    ((
     if r1=true then
      (zEs r4.1 r5.1)>>=fun r6=>
      some r6
     else
      some false):Option Bool)>>=fun j7=>
    ((
     if j7=true then
      some (r4.2==r5.2)
     else
      some false):Option Bool)>>=fun j8=>
    ((
     if j8=true then
      (zEs a3 a3)>>=fun r9=>
      some r9
     else
      some false):Option Bool)>>=fun j10=>
    some j10
   else none
end Go.Proofs.YtnmlihfpenjeiaaGreat.Abs
