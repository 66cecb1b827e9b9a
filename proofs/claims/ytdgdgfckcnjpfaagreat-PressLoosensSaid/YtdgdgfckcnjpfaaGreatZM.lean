/- Models of functions, printed by a program. Conditions: none. -/
import Derived.Test.YtdgdgfckcnjpfaaGreatCrcD
import Derived.Test.YtdgdgfckcnjpfaaGreatSrtS
import Derived.Test.YtdgdgfckcnjpfaaGreatAbs5
namespace Go.Proofs.YtdgdgfckcnjpfaaGreat.Abs
open Go Go.RowKit
set_option linter.unusedVariables false
set_option maxRecDepth 100000
structure zAi where
 F_Scheme:Int
 F_K:Int
 F_Wide:Int
 deriving Inhabited,DecidableEq
structure zAc where
 F_Scheme:Int
 F_Dim:Int
 F_L:List Int
 F_V:List Int
 F_Scale:Int
 F_Wide:Int
 F_Lev:List Int
 F_Neg:List Bool
 deriving Inhabited,DecidableEq
structure zAa where
 F_place:Int
 F_size:Int
 deriving Inhabited,DecidableEq
structure zAw where
 F_b:List Int
 F_e:Int
 deriving Inhabited,DecidableEq
structure zHK where
 F_Kind:Int
 F_From:Int
 F_Step:Int
 F_S:zAc
 deriving Inhabited,DecidableEq
structure zFO where
 F_b:List Int
 F_at:Int
 deriving Inhabited,DecidableEq
structure zFJ where
 F_text:zFO
 F_bad:Bool
 deriving Inhabited,DecidableEq
def zAi.en (x:zAi):D:= .agg [.int .i64 x.F_Scheme, .int .i64 x.F_K, .int .i64 x.F_Wide]
def zAc.en (x:zAc):D:= .agg [.int .i64 x.F_Scheme, .int .i64 x.F_Dim, .lst (List.map (D.int .i64) x.F_L), .lst (List.map (D.int .i64) x.F_V), .int .i64 x.F_Scale, .int .i64 x.F_Wide, .lst (List.map (D.int .u64) x.F_Lev), .lst (List.map D.bool x.F_Neg)]
def zAa.en (x:zAa):D:= .agg [.int .i64 x.F_place, .int .u64 x.F_size]
def zAw.en (x:zAw):D:= .agg [.lst (List.map (D.int .u8) x.F_b), .int .i64 x.F_e]
def zHK.en (x:zHK):D:= .agg [.int .i64 x.F_Kind, .int .i64 x.F_From, .int .i64 x.F_Step, .int .i64 x.F_S.F_Scheme, .int .i64 x.F_S.F_Dim, .lst (List.map (D.int .i64) x.F_S.F_L), .lst (List.map (D.int .i64) x.F_S.F_V), .int .i64 x.F_S.F_Scale, .int .i64 x.F_S.F_Wide, .lst (List.map (D.int .u64) x.F_S.F_Lev), .lst (List.map D.bool x.F_S.F_Neg)]
def zFO.en (x:zFO):D:= .agg [.lst (List.map (D.int .u8) x.F_b), .int .i64 x.F_at]
def zFJ.en (x:zFJ):D:= .agg [.lst (List.map (D.int .u8) x.F_text.F_b), .int .i64 x.F_text.F_at, .bool x.F_bad]
def zIo (a0:List Int) (a1:List Int):Option Int:=
 if (if (a1.length:Int)>(a0.length:Int) then (a1.length:Int) else (a0.length:Int))>4096 then
  some 3
 else
  if (a0.length:Int)≠(a1.length:Int) then
   some 4
  else
   some 0
def zKl (a0:Int) (a1:Int):Option (Int×Int):=
 if (bAnd .i64 (bXor .i64 a0 (IntKind.i64.wrap (a0+a1))) (bXor .i64 a1 (IntKind.i64.wrap (a0+a1))))<0 then
  some (0,2)
 else
  some (IntKind.i64.wrap (a0+a1),0)
def zEZ (a0:Int) (a1:List Int) (a2:List Int):Option (Int×Int):=
 if 0≤a0∧a0<(a1.length:Int) then
  if 0≤a0∧a0<(a2.length:Int) then
   (zKl (at' a1 a0) (at' a2 a0))>>=fun r1=>
   some (r1.1,r1.2)
  else none
 else none
def zBn (a1:List Int) (a2:List Int) (y1:List Int) (x0:Int) (x1:List Int):Option (Sum ((List Int)×Int) (List Int)):=
 if x0<(y1.length:Int) then
  (zEZ x0 a1 a2)>>=fun r3=>
  if 0≤x0∧x0<(x1.length:Int) then
   some (x1.set (Int.toNat x0) r3.1)>>=fun y4=>
   if r3.2≠0 then
    some (.inl ([],r3.2))
   else
    zBn a1 a2 y1 (IntKind.i64.wrap (x0+1)) y4
  else none
 else
  some (.inr x1)
 partial_fixpoint
def zF9 (a0:Int) (a1:List Int) (a2:List Int):Option ((List Int)×Int):=
 if 0≤a0∧a0≤a0∧a0≤140737488355328∧a0*((8:Nat):Int)≤140737488355328 then
  some (List.replicate (Int.toNat a0) 0)>>=fun y1=>
  (zBn a1 a2 y1 0 y1)>>=fun e=>match e with
  | .inl r=>some r
  | .inr j6=>
   some (j6,0)
 else none
def zMG (a0:List Int) (a1:List Int):Option ((List Int)×Int):=
 (zIo a0 a1)>>=fun r1=>
 if r1≠0 then
  some ([],r1)
 else
  (zF9 (a0.length:Int) a0 a1)>>=fun r2=>
  some (r2.1,r2.2)
def zGF (a0:List Int):Option Int:=
 if (a0.length:Int)>4096 then
  some 3
 else
  some 0
def zC4:Option Unit:=
 some ()
def zHe (a0:zAi) (a1:Int):Option Bool:=
 ((
  if a0.F_K=0 then
   some (a0.F_Wide==0)
  else
   some false):Option Bool)>>=fun j1=>
 some j1
def zI4 (a0:zAi) (a1:Int):Option Bool:=
 ((
  if a0.F_K≥0 then
   some (decide (a0.F_K≤a1))
  else
   some false):Option Bool)>>=fun j1=>
 ((
  if j1=true then
   some (a0.F_Wide==0)
  else
   some false):Option Bool)>>=fun j2=>
 some j2
def zJo (a0:zAi) (a1:Int):Option Bool:=
 ((
  if a0.F_K=0 then
   some (decide (a0.F_Wide>0))
  else
   some false):Option Bool)>>=fun j1=>
 ((
  if j1=true then
   some (decide (a0.F_Wide≤8))
  else
   some false):Option Bool)>>=fun j2=>
 some j2
def zGn (a0:zAi) (a1:Int):Option Int:=
 (zC4)>>=fun r1=>
 if a0.F_Scheme=(0:Int) then
  ((
   if (hasK a0.F_Scheme [0,1,2,3])=false then
    some true
   else
    some (decide (a1<1))):Option Bool)>>=fun j2=>
  ((
   if j2=true then
    some true
   else
    some (decide (a1>4096))):Option Bool)>>=fun j3=>
  ((
   if j3=true then
    some true
   else
    (zHe a0 a1)>>=fun r4=>
    some (!r4)):Option Bool)>>=fun j5=>
  if j5=true then
   some 1
  else
   some 0
 else
  if a0.F_Scheme=(1:Int) then
   ((
    if (hasK a0.F_Scheme [0,1,2,3])=false then
     some true
    else
     some (decide (a1<1))):Option Bool)>>=fun j6=>
   ((
    if j6=true then
     some true
    else
     some (decide (a1>4096))):Option Bool)>>=fun j7=>
   ((
    if j7=true then
     some true
    else
     (zI4 a0 a1)>>=fun r8=>
     some (!r8)):Option Bool)>>=fun j9=>
   if j9=true then
    some 1
   else
    some 0
  else
   if a0.F_Scheme=(2:Int) then
    ((
     if (hasK a0.F_Scheme [0,1,2,3])=false then
      some true
     else
      some (decide (a1<1))):Option Bool)>>=fun j10=>
    ((
     if j10=true then
      some true
     else
      some (decide (a1>4096))):Option Bool)>>=fun j11=>
    ((
     if j11=true then
      some true
     else
      (zJo a0 a1)>>=fun r12=>
      some (!r12)):Option Bool)>>=fun j13=>
    if j13=true then
     some 1
    else
     some 0
   else
    if a0.F_Scheme=(3:Int) then
     ((
      if (hasK a0.F_Scheme [0,1,2,3])=false then
       some true
      else
       some (decide (a1<1))):Option Bool)>>=fun j14=>
     ((
      if j14=true then
       some true
      else
       some (decide (a1>4096))):Option Bool)>>=fun j15=>
     ((
      if j15=true then
       some true
      else
       (zHe a0 a1)>>=fun r16=>
       some (!r16)):Option Bool)>>=fun j17=>
     if j17=true then
      some 1
     else
      some 0
    else
     ((
      if (hasK a0.F_Scheme [0,1,2,3])=false then
       some true
      else
       some (decide (a1<1))):Option Bool)>>=fun j18=>
     ((
      if j18=true then
       some true
      else
       some (decide (a1>4096))):Option Bool)>>=fun j19=>
     ((
      if j19=true then
       some ()
      else
       none):Option Unit)>>=fun j20=>
     some 1
def zBW (a0:List Int):Option (List Int):=
 if room 8 ([]++a0).length then
  some ([]++a0)
 else none
def zKG (a0:zAi) (a1:List Int) (a2:Int) (a3:List Int):Option (Int×Int×(List Int)×Int×Int×Int):=
 (zBW a1)>>=fun r1=>
 some (0,(a1.length:Int),r1,0,0,0)
def zJU (a0:Int):Option Int:=
 if a0<0 then
  some (IntKind.u64.wrap (0-(IntKind.u64.wrap a0)))
 else
  some (IntKind.u64.wrap a0)
def zDl (a0:List Int) (x0:Int) (x1:List zAa):Option (List zAa):=
 if x0<(a0.length:Int) then
  if 0≤x0∧x0<(a0.length:Int) then
   (zJU (at' a0 x0))>>=fun r3=>
   if 0≤x0∧x0<(x1.length:Int) then
    some (x1.set (Int.toNat x0) (⟨x0,r3⟩:zAa))>>=fun y4=>
    zDl a0 (IntKind.i64.wrap (x0+1)) y4
   else none
  else none
 else
  some x1
 partial_fixpoint
def zJP (a0:List Int):Option (List zAa):=
 if 0≤(a0.length:Int)∧(a0.length:Int)≤(a0.length:Int)∧(a0.length:Int)≤140737488355328∧(a0.length:Int)*((16:Nat):Int)≤140737488355328 then
  some (List.replicate (Int.toNat (a0.length:Int)) (⟨0,0⟩:zAa))>>=fun y1=>
  (zDl a0 0 y1)>>=fun j6=>
  some j6
 else none
def zEm (a0:List zAa) (a1:Int) (a2:Int):Option (List zAa):=
 if room 16 (a0++[(⟨a1,a2⟩:zAa)]).length then
  some (a0++[(⟨a1,a2⟩:zAa)])
 else none
def zA8 (a0:List zAa):Option Int:=
 some (a0.length:Int)
def zDL (a0:Int):Option Bool:=
 some (a0 !=a0)
def zD4 (a0:Int) (a1:Int):Option Int:=
 (zDL a0)>>=fun r1=>
 (zDL a1)>>=fun r2=>
 if r1=true then
  if r2=true then
   some 0
  else
   some (-1)
 else
  if r2=true then
   some 1
  else
   if a0<a1 then
    some (-1)
   else
    if a0>a1 then
     some 1
    else
     some 0
def zE6 (a0:Int):Option Bool:=
 some (a0 !=a0)
def zFs (a0:Int) (a1:Int):Option Int:=
 (zE6 a0)>>=fun r1=>
 (zE6 a1)>>=fun r2=>
 if r1=true then
  if r2=true then
   some 0
  else
   some (-1)
 else
  if r2=true then
   some 1
  else
   if a0<a1 then
    some (-1)
   else
    if a0>a1 then
     some 1
    else
     some 0
def zC6 (a0:List Int) (x0:Int):Option (Sum Int Unit):=
 if x0<(a0.length:Int) then
  if 0≤x0∧x0<(a0.length:Int) then
   if (at' a0 x0)≠0 then
    some (.inl (at' a0 x0))
   else
    zC6 a0 (IntKind.i64.wrap (x0+1))
  else none
 else
  some (.inr ())
 partial_fixpoint
def zIF (a0:List Int):Option Int:=
 (zC6 a0 0)>>=fun e=>match e with
 | .inl r=>some r
 | .inr j1=>
  some 0
def zDc (a0:zAa) (a1:zAa):Option Int:=
 (zD4 a1.F_size a0.F_size)>>=fun r1=>
 (zFs a0.F_place a1.F_place)>>=fun r2=>
 (zIF [r1,r2])>>=fun r3=>
 some r3
def zBc (a0:List zAa) (a1:Int) (a2:Int):Option Bool:=
 if 0≤a1∧a1<(a0.length:Int) then
  if 0≤a2∧a2<(a0.length:Int) then
   (zDc (at' a0 a1) (at' a0 a2))>>=fun r1=>
   some (decide (r1>0))
  else none
 else none
def zA6 (a0:List zAa) (a1:Int) (a2:Int):Option (List zAa):=
 if 0≤a2∧a2<(a0.length:Int) then
  if 0≤a1∧a1<(a0.length:Int) then
   if 0≤a1∧a1<(a0.length:Int) then
    if 0≤a2∧a2<((a0.set (Int.toNat a1) (at' a0 a2)).length:Int) then
     some ((a0.set (Int.toNat a1) (at' a0 a2)).set (Int.toNat a2) (at' a0 a1))
    else none
   else none
  else none
 else none
def zBd (x0:Int) (x1:List zAa):Option (List zAa):=
 ((
  if (IntKind.i64.wrap (Int.tdiv (IntKind.i64.wrap (x0-1)) 2))=x0 then
   some true
  else
   (zBc x1 x0 (IntKind.i64.wrap (Int.tdiv (IntKind.i64.wrap (x0-1)) 2)))>>=fun r1=>
   some (!r1)):Option Bool)>>=fun j2=>
 if j2=true then
  some x1
 else
  (zA6 x1 (IntKind.i64.wrap (Int.tdiv (IntKind.i64.wrap (x0-1)) 2)) x0)>>=fun r3=>
  zBd (IntKind.i64.wrap (Int.tdiv (IntKind.i64.wrap (x0-1)) 2)) r3
 partial_fixpoint
def zFQ (a0:List zAa) (a1:Int):Option (List zAa):=
 (zBd a1 a0)>>=fun j4=>
 some j4
def zB9 (a0:List zAa) (a1:Int) (a2:Int):Option (List zAa):=
 (zEm a0 a1 a2)>>=fun r1=>
 (zA8 r1)>>=fun r2=>
 (zFQ r1 (IntKind.i64.wrap (r2-1)))>>=fun r3=>
 some r3
def zAJ (a1:Int) (a2:Int) (x0:Int) (x1:List zAa):Option (Int×(List zAa)):=
 ((
  if (IntKind.i64.wrap ((IntKind.i64.wrap (2*x0))+1))≥a2 then
   some true
  else
   some (decide ((IntKind.i64.wrap ((IntKind.i64.wrap (2*x0))+1))<0))):Option Bool)>>=fun j1=>
 if j1=true then
  some (x0,x1)
 else
  some (IntKind.i64.wrap ((IntKind.i64.wrap ((IntKind.i64.wrap (2*x0))+1))+1))>>=fun y2=>
  ((
   if y2<a2 then
    (zBc x1 y2 (IntKind.i64.wrap ((IntKind.i64.wrap (2*x0))+1)))>>=fun r4=>
    some r4
   else
    some false):Option Bool)>>=fun j5=>
  if j5=true then
   (zBc x1 y2 x0)>>=fun r6=>
   if r6=false then
    some (x0,x1)
   else
    (zA6 x1 x0 y2)>>=fun r7=>
    zAJ a1 a2 y2 r7
  else
   (zBc x1 (IntKind.i64.wrap ((IntKind.i64.wrap (2*x0))+1)) x0)>>=fun r8=>
   if r8=false then
    some (x0,x1)
   else
    (zA6 x1 x0 (IntKind.i64.wrap ((IntKind.i64.wrap (2*x0))+1)))>>=fun r9=>
    zAJ a1 a2 (IntKind.i64.wrap ((IntKind.i64.wrap (2*x0))+1)) r9
 partial_fixpoint
def zEG (a0:List zAa) (a1:Int) (a2:Int):Option (Bool×(List zAa)):=
 (zAJ a1 a2 a1 a0)>>=fun j10=>
 some (decide (j10.1>a1),j10.2)
def zFN (a0:List zAa):Option (Int×Int×(List zAa)):=
 if cutOk none (some (IntKind.i64.wrap ((a0.length:Int)-1))) a0.length then
  some (cut' a0 none (some (IntKind.i64.wrap ((a0.length:Int)-1))))>>=fun y1=>
  if 0≤IntKind.i64.wrap ((a0.length:Int)-1)∧IntKind.i64.wrap ((a0.length:Int)-1)<(a0.length:Int) then
   some ((at' a0 (IntKind.i64.wrap ((a0.length:Int)-1))).F_place,(at' a0 (IntKind.i64.wrap ((a0.length:Int)-1))).F_size,y1)
  else none
 else none
def zCI (a0:List zAa):Option (Int×Int×(List zAa)):=
 (zA8 a0)>>=fun r1=>
 (zA6 a0 0 (IntKind.i64.wrap (r1-1)))>>=fun r2=>
 (zEG r2 0 (IntKind.i64.wrap (r1-1)))>>=fun r3=>
 (zFN r3.2)>>=fun r4=>
 some (r4.1,r4.2.1,r4.2.2)
def zCP (a0:List zAa) (x0:Int) (x1:List Int):Option (List Int):=
 if x0<(a0.length:Int) then
  if 0≤x0∧x0<(a0.length:Int) then
   if room 8 (x1++[(at' a0 x0).F_place]).length then
    some (x1++[(at' a0 x0).F_place])>>=fun y3=>
    zCP a0 (IntKind.i64.wrap (x0+1)) y3
   else none
  else none
 else
  some x1
 partial_fixpoint
def zHN (a0:List zAa):Option (List Int):=
 if 0≤(0:Int)∧(0:Int)≤(a0.length:Int)∧(a0.length:Int)≤140737488355328∧(a0.length:Int)*((8:Nat):Int)≤140737488355328 then
  some (List.replicate (Int.toNat 0) 0)>>=fun y1=>
  (zCP a0 0 y1)>>=fun j5=>
  some j5
 else none
def zCS (a0:Int) (r2:(List zAa)) (x0:Int) (x1:List zAa):Option (List zAa):=
 if x0<(r2.length:Int) then
  if 0≤x0∧x0<(r2.length:Int) then
   (zB9 x1 ((at' r2 x0).F_place) ((at' r2 x0).F_size))>>=fun r3=>
   (zA8 r3)>>=fun r4=>
   if r4>a0 then
    (zCI r3)>>=fun r5=>
    zCS a0 r2 (IntKind.i64.wrap (x0+1)) r5.2.2
   else
    zCS a0 r2 (IntKind.i64.wrap (x0+1)) r3
  else none
 else
  some x1
 partial_fixpoint
def zDx (a0:Int) (a1:List Int):Option ((List Int)×Int):=
 if (a1.length:Int)>4096 then
  some ([],3)
 else
  ((
   if a0<0 then
    some true
   else
    some (decide (a0>(a1.length:Int)))):Option Bool)>>=fun j1=>
  if j1=true then
   some ([],1)
  else
   (zJP a1)>>=fun r2=>
   (zCS a0 r2 0 [])>>=fun j6=>
   (zHN j6)>>=fun r7=>
   (zFA r7)>>=fun r8=>
   some (r8,0)
def zCl (a0:List Int) (x0:Int):Option (Sum Bool Unit):=
 if x0<(a0.length:Int) then
  if 0≤IntKind.i64.wrap (x0-1)∧IntKind.i64.wrap (x0-1)<(a0.length:Int) then
   if 0≤x0∧x0<(a0.length:Int) then
    if (at' a0 (IntKind.i64.wrap (x0-1)))≥(at' a0 x0) then
     some (.inl false)
    else
     zCl a0 (IntKind.i64.wrap (x0+1))
   else none
  else none
 else
  some (.inr ())
 partial_fixpoint
def zEM (a0:List Int):Option Bool:=
 (zCl a0 1)>>=fun e=>match e with
 | .inl r=>some r
 | .inr j1=>
  some true
def zEN (a0:Int) (a1:List Int):Option Bool:=
 ((
  if a0<0 then
   some true
  else
   some (decide (a0≥(a1.length:Int)))):Option Bool)>>=fun j1=>
 some j1
def zAv (a0:List Int) (a1:List Int) (x0:Int):Option (Sum Int Unit):=
 if x0<(a0.length:Int) then
  if 0≤x0∧x0<(a0.length:Int) then
   (zEN (at' a0 x0) a1)>>=fun r1=>
   if r1=true then
    some (.inl x0)
   else
    zAv a0 a1 (IntKind.i64.wrap (x0+1))
  else none
 else
  some (.inr ())
 partial_fixpoint
def zBM (a0:List Int) (a1:List Int):Option Int:=
 (zAv a0 a1 0)>>=fun e=>match e with
 | .inl r=>some r
 | .inr j2=>
  some (-1)
def zA1 (a0:List Int) (a1:List Int):Option Bool:=
 (zBM a0 a1)>>=fun r1=>
 some (decide (r1≥0))
def zCD (a0:List Int) (a1:List Int) (x0:Int) (x1:List Int):Option (List Int):=
 if x0<(a0.length:Int) then
  if 0≤x0∧x0<(a0.length:Int) then
   if 0≤at' a0 x0∧at' a0 x0<(a1.length:Int) then
    if room 8 (x1++[at' a1 (at' a0 x0)]).length then
     some (x1++[at' a1 (at' a0 x0)])>>=fun y6=>
     zCD a0 a1 (IntKind.i64.wrap (x0+1)) y6
    else none
   else none
  else none
 else
  some x1
 partial_fixpoint
def zHt (a0:List Int) (a1:List Int):Option ((List Int)×Int):=
 (zEM a0)>>=fun r1=>
 ((
  if r1=false then
   some true
  else
   (zA1 a0 a1)>>=fun r2=>
   some r2):Option Bool)>>=fun j3=>
 if j3=true then
  some ([],1)
 else
  if 0≤(0:Int)∧(0:Int)≤(a0.length:Int)∧(a0.length:Int)≤140737488355328∧(a0.length:Int)*((8:Nat):Int)≤140737488355328 then
   some (List.replicate (Int.toNat 0) 0)>>=fun y4=>
   (zCD a0 a1 0 y4)>>=fun j8=>
   some (j8,0)
  else none
def zDF (a0:Int) (a1:List Int):Option (Int×Int×(List Int)×(List Int)×Int×Int×Int):=
 if (a1.length:Int)=0 then
  some (0,0,[],[],0,0,1)
 else
  (zDx a0 a1)>>=fun r1=>
  if r1.2≠0 then
   some (0,0,[],[],0,0,r1.2)
  else
   (zHt r1.1 a1)>>=fun r2=>
   if r2.2≠0 then
    some (0,0,[],[],0,0,r2.2)
   else
    some (1,(a1.length:Int),r1.1,r2.1,0,0,0)
def zJn (a0:zAi) (a1:List Int) (a2:Int) (a3:List Int):Option (Int×Int×(List Int)×(List Int)×Int×Int×Int):=
 (zDF a0.F_K a1)>>=fun r1=>
 some (r1.1,r1.2.1,r1.2.2.1,r1.2.2.2.1,r1.2.2.2.2.1,r1.2.2.2.2.2.1,r1.2.2.2.2.2.2)
def zEK (a0:Int):Option (Int×Int):=
 ((
  if a0<1 then
   some true
  else
   some (decide (a0>8))):Option Bool)>>=fun j1=>
 if j1=true then
  some (0,1)
 else
  if 0≤a0 then
   some (IntKind.u64.wrap ((sShl .u64 1 a0)-1),0)
  else none
def zKr (a0:Int) (a1:Int):Option (Int×Int):=
 if (bAnd .i64 (bXor .i64 a0 a1) (bXor .i64 a0 (IntKind.i64.wrap (a0-a1))))<0 then
  some (0,2)
 else
  some (IntKind.i64.wrap (a0-a1),0)
def zRh (a0:Int):Option (Int×Int):=
 (zKr 0 a0)>>=fun r1=>
 some (r1.1,r1.2)
def zKk (a0:Int):Option (Int×Int):=
 if a0≥0 then
  some (a0,0)
 else
  (zRh a0)>>=fun r1=>
  some (r1.1,r1.2)
def zDR (a0:List Int) (x0:Int) (x1:Int):Option (Sum (Int×Int) Int):=
 if x0<(a0.length:Int) then
  if 0≤x0∧x0<(a0.length:Int) then
   (zKk (at' a0 x0))>>=fun r2=>
   if r2.2≠0 then
    some (.inl (0,r2.2))
   else
    zDR a0 (IntKind.i64.wrap (x0+1)) (if r2.1>x1 then r2.1 else x1)
  else none
 else
  some (.inr x1)
 partial_fixpoint
def zIA (a0:List Int):Option (Int×Int):=
 (zGF a0)>>=fun r1=>
 if r1≠0 then
  some (0,r1)
 else
  (zDR a0 0 0)>>=fun e=>match e with
  | .inl r=>some r
  | .inr j3=>
   some (j3,0)
def zHi (a0:Int):Option Int:=
 if a0<0 then
  some (IntKind.u64.wrap (0-(IntKind.u64.wrap a0)))
 else
  some (IntKind.u64.wrap a0)
def zDe (a0:Int) (a1:Int):Option (Int×Int):=
 some (IntKind.u64.wrap ((IntKind.u64.wrap ((IntKind.u64.wrap ((sShr .u64 a0 32)*(sShr .u64 a1 32)))+(sShr .u64 (IntKind.u64.wrap ((IntKind.u64.wrap ((sShr .u64 a0 32)*(bAnd .u64 a1 4294967295)))+(sShr .u64 (IntKind.u64.wrap ((bAnd .u64 a0 4294967295)*(bAnd .u64 a1 4294967295))) 32))) 32)))+(sShr .u64 (IntKind.u64.wrap ((bAnd .u64 (IntKind.u64.wrap ((IntKind.u64.wrap ((sShr .u64 a0 32)*(bAnd .u64 a1 4294967295)))+(sShr .u64 (IntKind.u64.wrap ((bAnd .u64 a0 4294967295)*(bAnd .u64 a1 4294967295))) 32))) 4294967295)+(IntKind.u64.wrap ((bAnd .u64 a0 4294967295)*(sShr .u64 a1 32))))) 32)),IntKind.u64.wrap (a0*a1))
def zDX (a0:Int):Option Int:=
 ((
  if a0≥4294967296 then
   some (32,sShr .u64 a0 32)
  else
   some (0,a0)):Option (Int×Int))>>=fun j1=>
 ((
  if j1.2≥65536 then
   some (IntKind.i64.wrap (j1.1+16),sShr .u64 j1.2 16)
  else
   some (j1.1,j1.2)):Option (Int×Int))>>=fun j2=>
 if j2.2≥256 then
  if 0≤(IntKind.u8.wrap (sShr .u64 j2.2 8))∧(IntKind.u8.wrap (sShr .u64 j2.2 8))<((ByteArray.mk #[0,1,2,2,3,3,3,3,4,4,4,4,4,4,4,4,5,5,5,5,5,5,5,5,5,5,5,5,5,5,5,5,6,6,6,6,6,6,6,6,6,6,6,6,6,6,6,6,6,6,6,6,6,6,6,6,6,6,6,6,6,6,6,6,7,7,7,7,7,7,7,7,7,7,7,7,7,7,7,7,7,7,7,7,7,7,7,7,7,7,7,7,7,7,7,7,7,7,7,7,7,7,7,7,7,7,7,7,7,7,7,7,7,7,7,7,7,7,7,7,7,7,7,7,7,7,7,7,8,8,8,8,8,8,8,8,8,8,8,8,8,8,8,8,8,8,8,8,8,8,8,8,8,8,8,8,8,8,8,8,8,8,8,8,8,8,8,8,8,8,8,8,8,8,8,8,8,8,8,8,8,8,8,8,8,8,8,8,8,8,8,8,8,8,8,8,8,8,8,8,8,8,8,8,8,8,8,8,8,8,8,8,8,8,8,8,8,8,8,8,8,8,8,8,8,8,8,8,8,8,8,8,8,8,8,8,8,8,8,8,8,8,8,8,8,8,8,8,8,8,8,8,8,8,8,8]).size:Int) then
   some (IntKind.i64.wrap ((IntKind.i64.wrap (j2.1+8))+(IntKind.i64.wrap (((ByteArray.mk #[0,1,2,2,3,3,3,3,4,4,4,4,4,4,4,4,5,5,5,5,5,5,5,5,5,5,5,5,5,5,5,5,6,6,6,6,6,6,6,6,6,6,6,6,6,6,6,6,6,6,6,6,6,6,6,6,6,6,6,6,6,6,6,6,7,7,7,7,7,7,7,7,7,7,7,7,7,7,7,7,7,7,7,7,7,7,7,7,7,7,7,7,7,7,7,7,7,7,7,7,7,7,7,7,7,7,7,7,7,7,7,7,7,7,7,7,7,7,7,7,7,7,7,7,7,7,7,7,8,8,8,8,8,8,8,8,8,8,8,8,8,8,8,8,8,8,8,8,8,8,8,8,8,8,8,8,8,8,8,8,8,8,8,8,8,8,8,8,8,8,8,8,8,8,8,8,8,8,8,8,8,8,8,8,8,8,8,8,8,8,8,8,8,8,8,8,8,8,8,8,8,8,8,8,8,8,8,8,8,8,8,8,8,8,8,8,8,8,8,8,8,8,8,8,8,8,8,8,8,8,8,8,8,8,8,8,8,8,8,8,8,8,8,8,8,8,8,8,8,8,8,8,8,8,8,8]).data.getD (Int.toNat (IntKind.u8.wrap (sShr .u64 j2.2 8))) 0).toNat:Int))))
  else none
 else
  if 0≤(IntKind.u8.wrap j2.2)∧(IntKind.u8.wrap j2.2)<((ByteArray.mk #[0,1,2,2,3,3,3,3,4,4,4,4,4,4,4,4,5,5,5,5,5,5,5,5,5,5,5,5,5,5,5,5,6,6,6,6,6,6,6,6,6,6,6,6,6,6,6,6,6,6,6,6,6,6,6,6,6,6,6,6,6,6,6,6,7,7,7,7,7,7,7,7,7,7,7,7,7,7,7,7,7,7,7,7,7,7,7,7,7,7,7,7,7,7,7,7,7,7,7,7,7,7,7,7,7,7,7,7,7,7,7,7,7,7,7,7,7,7,7,7,7,7,7,7,7,7,7,7,8,8,8,8,8,8,8,8,8,8,8,8,8,8,8,8,8,8,8,8,8,8,8,8,8,8,8,8,8,8,8,8,8,8,8,8,8,8,8,8,8,8,8,8,8,8,8,8,8,8,8,8,8,8,8,8,8,8,8,8,8,8,8,8,8,8,8,8,8,8,8,8,8,8,8,8,8,8,8,8,8,8,8,8,8,8,8,8,8,8,8,8,8,8,8,8,8,8,8,8,8,8,8,8,8,8,8,8,8,8,8,8,8,8,8,8,8,8,8,8,8,8,8,8,8,8,8,8]).size:Int) then
   some (IntKind.i64.wrap (j2.1+(IntKind.i64.wrap (((ByteArray.mk #[0,1,2,2,3,3,3,3,4,4,4,4,4,4,4,4,5,5,5,5,5,5,5,5,5,5,5,5,5,5,5,5,6,6,6,6,6,6,6,6,6,6,6,6,6,6,6,6,6,6,6,6,6,6,6,6,6,6,6,6,6,6,6,6,7,7,7,7,7,7,7,7,7,7,7,7,7,7,7,7,7,7,7,7,7,7,7,7,7,7,7,7,7,7,7,7,7,7,7,7,7,7,7,7,7,7,7,7,7,7,7,7,7,7,7,7,7,7,7,7,7,7,7,7,7,7,7,7,8,8,8,8,8,8,8,8,8,8,8,8,8,8,8,8,8,8,8,8,8,8,8,8,8,8,8,8,8,8,8,8,8,8,8,8,8,8,8,8,8,8,8,8,8,8,8,8,8,8,8,8,8,8,8,8,8,8,8,8,8,8,8,8,8,8,8,8,8,8,8,8,8,8,8,8,8,8,8,8,8,8,8,8,8,8,8,8,8,8,8,8,8,8,8,8,8,8,8,8,8,8,8,8,8,8,8,8,8,8,8,8,8,8,8,8,8,8,8,8,8,8,8,8,8,8,8,8]).data.getD (Int.toNat (IntKind.u8.wrap j2.2)) 0).toNat:Int))))
  else none
def zCO (a0:Int):Option Int:=
 (zDX a0)>>=fun r1=>
 some (IntKind.i64.wrap (64-r1))
def zBR (a1:Int) (a2:Int) (r3:Int) (y4:Int) (x0:Int) (x1:Int):Option Int:=
 ((
  if x1≥4294967296 then
   some true
  else
   some (decide ((IntKind.u64.wrap (x1*(bAnd .u64 (sShl .u64 a2 (IntKind.u64.wrap r3)) 4294967295)))>(IntKind.u64.wrap ((IntKind.u64.wrap (4294967296*x0))+(sShr .u64 (sShl .u64 a1 (IntKind.u64.wrap r3)) 32)))))):Option Bool)>>=fun j10=>
 if j10=true then
  some (IntKind.u64.wrap (x0+(sShr .u64 (sShl .u64 a2 (IntKind.u64.wrap r3)) 32)))>>=fun y11=>
  if y11≥4294967296 then
   some (IntKind.u64.wrap (x1-1))
  else
   zBR a1 a2 r3 y4 y11 (IntKind.u64.wrap (x1-1))
 else
  some x1
 partial_fixpoint
def zBV (a1:Int) (a2:Int) (r3:Int) (j13:Int) (y14:Int) (x0:Int) (x1:Int):Option Int:=
 ((
  if x1≥4294967296 then
   some true
  else
   some (decide ((IntKind.u64.wrap (x1*(bAnd .u64 (sShl .u64 a2 (IntKind.u64.wrap r3)) 4294967295)))>(IntKind.u64.wrap ((IntKind.u64.wrap (4294967296*x0))+(bAnd .u64 (sShl .u64 a1 (IntKind.u64.wrap r3)) 4294967295)))))):Option Bool)>>=fun j20=>
 if j20=true then
  some (IntKind.u64.wrap (x0+(sShr .u64 (sShl .u64 a2 (IntKind.u64.wrap r3)) 32)))>>=fun y21=>
  if y21≥4294967296 then
   some (IntKind.u64.wrap (x1-1))
  else
   zBV a1 a2 r3 j13 y14 y21 (IntKind.u64.wrap (x1-1))
 else
  some x1
 partial_fixpoint
def zDd (a0:Int) (a1:Int) (a2:Int):Option (Int×Int):=
 ((
  if a2=0 then
   none
  else
   some ()):Option Unit)>>=fun j1=>
 ((
  if a2≤a0 then
   none
  else
   some ()):Option Unit)>>=fun j2=>
 if a0=0 then
  if a2≠0 then
   if a2≠0 then
    some (IntKind.u64.wrap (Int.tdiv a1 a2),Int.tmod a1 a2)
   else none
  else none
 else
  (zCO a2)>>=fun r3=>
  if 0≤IntKind.u64.wrap r3 then
   if 0≤IntKind.u64.wrap r3 then
    if 0≤IntKind.u64.wrap (64-(IntKind.u64.wrap r3)) then
     some (bOr .u64 (sShl .u64 a0 (IntKind.u64.wrap r3)) (sShr .u64 a1 (IntKind.u64.wrap (64-(IntKind.u64.wrap r3)))))>>=fun y4=>
     if 0≤IntKind.u64.wrap r3 then
      if sShr .u64 (sShl .u64 a2 (IntKind.u64.wrap r3)) 32≠0 then
       some (IntKind.u64.wrap (Int.tdiv y4 (sShr .u64 (sShl .u64 a2 (IntKind.u64.wrap r3)) 32)))>>=fun y6=>
       some (IntKind.u64.wrap (y4-(IntKind.u64.wrap (y6*(sShr .u64 (sShl .u64 a2 (IntKind.u64.wrap r3)) 32)))))>>=fun y8=>
       (zBR a1 a2 r3 y4 y8 y6)>>=fun j13=>
       some (IntKind.u64.wrap ((IntKind.u64.wrap ((IntKind.u64.wrap (y4*4294967296))+(sShr .u64 (sShl .u64 a1 (IntKind.u64.wrap r3)) 32)))-(IntKind.u64.wrap (j13*(sShl .u64 a2 (IntKind.u64.wrap r3))))))>>=fun y14=>
       if sShr .u64 (sShl .u64 a2 (IntKind.u64.wrap r3)) 32≠0 then
        some (IntKind.u64.wrap (Int.tdiv y14 (sShr .u64 (sShl .u64 a2 (IntKind.u64.wrap r3)) 32)))>>=fun y16=>
        some (IntKind.u64.wrap (y14-(IntKind.u64.wrap (y16*(sShr .u64 (sShl .u64 a2 (IntKind.u64.wrap r3)) 32)))))>>=fun y18=>
        (zBV a1 a2 r3 j13 y14 y18 y16)>>=fun j23=>
        some (IntKind.u64.wrap ((IntKind.u64.wrap (j13*4294967296))+j23))>>=fun y24=>
        some (IntKind.u64.wrap ((IntKind.u64.wrap ((IntKind.u64.wrap (y14*4294967296))+(bAnd .u64 (sShl .u64 a1 (IntKind.u64.wrap r3)) 4294967295)))-(IntKind.u64.wrap (j23*(sShl .u64 a2 (IntKind.u64.wrap r3))))))>>=fun y26=>
        if 0≤IntKind.u64.wrap r3 then
         some (y24,sShr .u64 y26 (IntKind.u64.wrap r3))
        else none
       else none
      else none
     else none
    else none
   else none
  else none
def zGp (a0:Int) (a1:Int) (a2:Int):Option (Int×Int×Int):=
 (zEK a2)>>=fun r1=>
 ((
  if r1.2≠0 then
   some true
  else
   some (decide (a1<0))):Option Bool)>>=fun j2=>
 ((
  if j2=true then
   some true
  else
   (zHi a0)>>=fun r3=>
   some (decide (r3>(IntKind.u64.wrap a1)))):Option Bool)>>=fun j4=>
 if j4=true then
  some (0,0,1)
 else
  if a1=0 then
   some (0,0,0)
  else
   (zHi a0)>>=fun r5=>
   (zDe r5 r1.1)>>=fun r6=>
   (zDd r6.1 r6.2 (IntKind.u64.wrap a1))>>=fun r7=>
   some (r7.1,r7.2,0)
def zCJ (a0:List Int):Option (List Int):=
 if room 8 ([]++a0).length then
  some ([]++a0)
 else none
def zE9 (a0:Int) (a1:Int):Option Int:=
 some (bXor .u64 (IntKind.u64.wrap ((bXor .u64 a0 (IntKind.u64.wrap a1))*11400714819323198485)) (sShr .u64 (IntKind.u64.wrap ((bXor .u64 a0 (IntKind.u64.wrap a1))*11400714819323198485)) 29))
def zDr (a1:List Int) (x0:Int) (x1:Int):Option Int:=
 if x0<(a1.length:Int) then
  if 0≤x0∧x0<(a1.length:Int) then
   (zE9 x1 (at' a1 x0))>>=fun r1=>
   zDr a1 (IntKind.i64.wrap (x0+1)) r1
  else none
 else
  some x1
 partial_fixpoint
def zMW (a0:Int) (a1:List Int):Option Int:=
 (zDr a1 0 a0)>>=fun j2=>
 some j2
def zId (a0:Int):Option Int:=
 some (bXor .u64 (IntKind.u64.wrap (a0*13787848793156543929)) (sShr .u64 (IntKind.u64.wrap (a0*13787848793156543929)) 32))
def zMI (a0:Int) (a1:List Int):Option Int:=
 (zMW a0 a1)>>=fun r1=>
 (zId r1)>>=fun r2=>
 some r2
def zLG (a0:Int) (a1:Int) (a2:List Int):Option (Int×Int):=
 if a0=0 then
  some (0,1)
 else
  (zMI a1 a2)>>=fun r1=>
  if a0≠0 then
   some (Int.tmod r1 a0,0)
  else none
def zGr (a0:Int) (a1:Int) (a2:Int) (a3:List Int):Option (Bool×Int):=
 if a0>a1 then
  some (false,1)
 else
  (zLG a1 a2 a3)>>=fun r1=>
  ((
   if r1.2=0 then
    some (decide (r1.1<a0))
   else
    some false):Option Bool)>>=fun j2=>
  some (j2,r1.2)
def zCQ (a0:List Int) (a1:Int) (a2:Int) (a3:List Int) (r3:Int×Int) (x0:Int) (x1:List Int) (x2:List Bool):Option (Sum (Int×Int×Int×Int×(List Int)×(List Bool)×Int) ((List Int)×(List Bool))):=
 if x0<(a0.length:Int) then
  if 0≤x0∧x0<(a0.length:Int) then
   (zGp (at' a0 x0) r3.1 a1)>>=fun r9=>
   if r9.2.2≠0 then
    some (.inl (0,0,0,0,[],[],r9.2.2))
   else
    ((
     if r9.2.1>0 then
      (zCJ a3)>>=fun r10=>
      if room 8 (r10++[x0]).length then
       (zGr r9.2.1 (IntKind.u64.wrap r3.1) a2 (r10++[x0]))>>=fun r11=>
       if r11.2≠0 then
        some (.inl (0,0,0,0,[],[],r11.2))
       else
        if r11.1=true then
         some (.inr (IntKind.u64.wrap (r9.1+1)))
        else
         some (.inr r9.1)
      else none
     else
      some (.inr r9.1)):Option (Sum (Int×Int×Int×Int×(List Int)×(List Bool)×Int) Int))>>=fun e=>match e with
    | .inl r=>some (.inl r)
    | .inr j12=>
     if 0≤x0∧x0<(x1.length:Int) then
      if 0≤x0∧x0<(x2.length:Int) then
       some (x1.set (Int.toNat x0) j12)>>=fun y13=>
       some (x2.set (Int.toNat x0) (decide ((at' a0 x0)<0)))>>=fun y15=>
       zCQ a0 a1 a2 a3 r3 (IntKind.i64.wrap (x0+1)) y13 y15
      else none
     else none
  else none
 else
  some (.inr (x1,x2))
 partial_fixpoint
def zHR (a0:List Int) (a1:Int) (a2:Int) (a3:List Int):Option (Int×Int×Int×Int×(List Int)×(List Bool)×Int):=
 (zEK a1)>>=fun r1=>
 ((
  if r1.2≠0 then
   some true
  else
   some ((a0.length:Int)==0)):Option Bool)>>=fun j2=>
 if j2=true then
  some (0,0,0,0,[],[],1)
 else
  (zIA a0)>>=fun r3=>
  if r3.2≠0 then
   some (0,0,0,0,[],[],r3.2)
  else
   ((
    if 0≤(a0.length:Int)∧(a0.length:Int)≤(a0.length:Int)∧(a0.length:Int)≤140737488355328∧(a0.length:Int)*((8:Nat):Int)≤140737488355328 then
     if 0≤(a0.length:Int)∧(a0.length:Int)≤(a0.length:Int)∧(a0.length:Int)≤140737488355328∧(a0.length:Int)*((1:Nat):Int)≤140737488355328 then
      some ()
     else none
    else none):Option Unit)>>=fun j4=>
   some (List.replicate (Int.toNat (a0.length:Int)) 0)>>=fun y5=>
   some (List.replicate (Int.toNat (a0.length:Int)) false)>>=fun y7=>
   (zCQ a0 a1 a2 a3 r3 0 y5 y7)>>=fun e=>match e with
   | .inl r=>some r
   | .inr j17=>
    some (2,(a0.length:Int),r3.1,a1,j17.1,j17.2,0)
def zJC (a0:zAi) (a1:List Int) (a2:Int) (a3:List Int):Option (Int×Int×Int×Int×(List Int)×(List Bool)×Int):=
 (zHR a1 a0.F_Wide a2 a3)>>=fun r1=>
 some (r1.1,r1.2.1,r1.2.2.1,r1.2.2.2.1,r1.2.2.2.2.1,r1.2.2.2.2.2.1,r1.2.2.2.2.2.2)
def zI1 (a0:Int) (a1:List Int):Option (Int×Int):=
 if 0≤a0∧a0<(a1.length:Int) then
  (zKk (at' a1 a0))>>=fun r1=>
  some (r1.1,r1.2)
 else none
def zAV (a0:Int) (a1:List Int) (x0:Int) (x1:Int):Option (Sum (Int×Int) Int):=
 if x0<a0 then
  (zI1 x0 a1)>>=fun r1=>
  if r1.2=0 then
   (zKl x1 r1.1)>>=fun r2=>
   if r2.2≠0 then
    some (.inl (0,r2.2))
   else
    zAV a0 a1 (IntKind.i64.wrap (x0+1)) r2.1
  else
   if r1.2≠0 then
    some (.inl (0,r1.2))
   else
    zAV a0 a1 (IntKind.i64.wrap (x0+1)) x1
 else
  some (.inr x1)
 partial_fixpoint
def zFb (a0:Int) (a1:List Int):Option (Int×Int):=
 (zAV a0 a1 0 0)>>=fun e=>match e with
 | .inl r=>some r
 | .inr j3=>
  some (j3,0)
def zK9 (a0:List Int):Option (Int×Int):=
 (zGF a0)>>=fun r1=>
 if r1≠0 then
  some (0,r1)
 else
  (zFb (a0.length:Int) a0)>>=fun r2=>
  some (r2.1,r2.2)
def zJF (a0:List Int):Option (Int×Int):=
 if (a0.length:Int)=0 then
  some (0,1)
 else
  (zK9 a0)>>=fun r1=>
  if (a0.length:Int)≠0 then
   some (IntKind.i64.wrap (Int.tdiv r1.1 (a0.length:Int)),r1.2)
  else none
def zJt (a0:Int):Option Bool:=
 some (decide (a0<0))
def zAB (a0:List Int) (x0:Int) (x1:List Bool):Option (List Bool):=
 if x0<(a0.length:Int) then
  if 0≤x0∧x0<(a0.length:Int) then
   (zJt (at' a0 x0))>>=fun r3=>
   if room 1 (x1++[r3]).length then
    zAB a0 (IntKind.i64.wrap (x0+1)) (x1++[r3])
   else none
  else none
 else
  some x1
 partial_fixpoint
def zCx (a0:List Int):Option (List Bool):=
 if 0≤(0:Int)∧(0:Int)≤(a0.length:Int)∧(a0.length:Int)≤140737488355328∧(a0.length:Int)*((1:Nat):Int)≤140737488355328 then
  some (List.replicate (Int.toNat 0) false)>>=fun y1=>
  (zAB a0 0 y1)>>=fun j4=>
  some j4
 else none
def zG5 (a0:List Int):Option (Int×Int×Int×Int×(List Bool)×Int):=
 (zJF a0)>>=fun r1=>
 if r1.2≠0 then
  some (0,0,0,0,[],r1.2)
 else
  (zCx a0)>>=fun r2=>
  some (3,(a0.length:Int),r1.1,0,r2,0)
def zIH (a0:zAi) (a1:List Int) (a2:Int) (a3:List Int):Option (Int×Int×Int×Int×(List Bool)×Int):=
 (zG5 a1)>>=fun r1=>
 some (r1.1,r1.2.1,r1.2.2.1,r1.2.2.2.1,r1.2.2.2.2.1,r1.2.2.2.2.2)
def zHU (a0:zAi) (a1:List Int) (a2:Int) (a3:List Int):Option (Int×Int×(List Int)×(List Int)×Int×Int×(List Int)×(List Bool)×Int):=
 (zGF a1)>>=fun r1=>
 ((
  if r1=0 then
   (zGn a0 (a1.length:Int))>>=fun r2=>
   some r2
  else
   some r1):Option Int)>>=fun j3=>
 if j3≠0 then
  some (0,0,[],[],0,0,[],[],j3)
 else
  (zC4)>>=fun r4=>
  if a0.F_Scheme=(0:Int) then
   (zKG a0 a1 a2 a3)>>=fun r5=>
   some (r5.1,r5.2.1,[],r5.2.2.1,r5.2.2.2.1,r5.2.2.2.2.1,[],[],r5.2.2.2.2.2)
  else
   if a0.F_Scheme=(1:Int) then
    (zJn a0 a1 a2 a3)>>=fun r6=>
    some (r6.1,r6.2.1,r6.2.2.1,r6.2.2.2.1,r6.2.2.2.2.1,r6.2.2.2.2.2.1,[],[],r6.2.2.2.2.2.2)
   else
    if a0.F_Scheme=(2:Int) then
     (zJC a0 a1 a2 a3)>>=fun r7=>
     some (r7.1,r7.2.1,[],[],r7.2.2.1,r7.2.2.2.1,r7.2.2.2.2.1,r7.2.2.2.2.2.1,r7.2.2.2.2.2.2)
    else
     if a0.F_Scheme=(3:Int) then
      (zIH a0 a1 a2 a3)>>=fun r8=>
      some (r8.1,r8.2.1,[],[],r8.2.2.1,r8.2.2.2.1,[],r8.2.2.2.2.1,r8.2.2.2.2.2)
     else
      none
def zGR (a0:Int):Option Bool:=
 ((
  if a0>0 then
   some (decide (a0≤4096))
  else
   some false):Option Bool)>>=fun j1=>
 some j1
def zEJ (a0:Int) (a1:List Int):Option Int:=
 (zGR a0)>>=fun r1=>
 ((
  if r1=false then
   some true
  else
   (zEM a1)>>=fun r2=>
   some (!r2)):Option Bool)>>=fun j3=>
 if j3=true then
  some 1
 else
  if (a1.length:Int)>0 then
   if 0≤(0:Int)∧(0:Int)<(a1.length:Int) then
    if (at' a1 0)<0 then
     some 1
    else
     if 0≤IntKind.i64.wrap ((a1.length:Int)-1)∧IntKind.i64.wrap ((a1.length:Int)-1)<(a1.length:Int) then
      if (at' a1 (IntKind.i64.wrap ((a1.length:Int)-1)))≥a0 then
       some 1
      else
       some 0
     else none
   else none
  else
   some 0
def zHO (a0:Int):Option Int:=
 (zDX a0)>>=fun r1=>
 some r1
def zH4 (a0:Int) (a1:Int) (a2:Int) (a3:List Int) (a4:List Int) (a5:Int) (a6:Int) (a7:List Int) (a8:List Bool):Option Bool:=
 (zHO a0)>>=fun r1=>
 some (decide (r1>a6))
def zAs (a0:List Int) (a1:Int) (a2:Int) (a3:List Int) (a4:List Int) (a5:Int) (a6:Int) (a7:List Int) (a8:List Bool) (x0:Int):Option (Sum Int Unit):=
 if x0<(a0.length:Int) then
  if 0≤x0∧x0<(a0.length:Int) then
   (zH4 (at' a0 x0) a1 a2 a3 a4 a5 a6 a7 a8)>>=fun r1=>
   if r1=true then
    some (.inl x0)
   else
    zAs a0 a1 a2 a3 a4 a5 a6 a7 a8 (IntKind.i64.wrap (x0+1))
  else none
 else
  some (.inr ())
 partial_fixpoint
def zBr (a0:List Int) (a1:Int) (a2:Int) (a3:List Int) (a4:List Int) (a5:Int) (a6:Int) (a7:List Int) (a8:List Bool):Option Int:=
 (zAs a0 a1 a2 a3 a4 a5 a6 a7 a8 0)>>=fun e=>match e with
 | .inl r=>some r
 | .inr j2=>
  some (-1)
def zAO (a0:List Int) (a1:Int) (a2:Int) (a3:List Int) (a4:List Int) (a5:Int) (a6:Int) (a7:List Int) (a8:List Bool):Option Bool:=
 (zBr a0 a1 a2 a3 a4 a5 a6 a7 a8)>>=fun r1=>
 some (decide (r1≥0))
def zIw (a0:zAc):Option (Int×Int×(List Int)×(List Int)×Int×Int×(List Int)×(List Bool)×Bool):=
 ((
  if a0.F_Dim>0 then
   some (decide (a0.F_Dim≤4096))
  else
   some false):Option Bool)>>=fun j1=>
 if a0.F_Scheme=0 then
  ((
   if j1=true then
    some ((a0.F_V.length:Int)==a0.F_Dim)
   else
    some false):Option Bool)>>=fun j2=>
  some (0,0,a0.F_L,[],a0.F_Scale,a0.F_Wide,a0.F_Lev,a0.F_Neg,j2)
 else
  if a0.F_Scheme=1 then
   ((
    if j1=true then
     (zEJ a0.F_Dim a0.F_L)>>=fun r3=>
     some (r3==0)
    else
     some false):Option Bool)>>=fun j4=>
   ((
    if j4=true then
     some ((a0.F_L.length:Int)==(a0.F_V.length:Int))
    else
     some false):Option Bool)>>=fun j5=>
   some (0,0,[],[],a0.F_Scale,a0.F_Wide,a0.F_Lev,a0.F_Neg,j5)
  else
   if a0.F_Scheme=2 then
    ((
     if j1=true then
      some (decide (a0.F_Wide>0))
     else
      some false):Option Bool)>>=fun j6=>
    ((
     if j6=true then
      some (decide (a0.F_Wide≤8))
     else
      some false):Option Bool)>>=fun j7=>
    ((
     if j7=true then
      some ((a0.F_Lev.length:Int)==a0.F_Dim)
     else
      some false):Option Bool)>>=fun j8=>
    ((
     if j8=true then
      (zAO a0.F_Lev a0.F_Scheme a0.F_Dim a0.F_L a0.F_V a0.F_Scale a0.F_Wide a0.F_Lev a0.F_Neg)>>=fun r9=>
      some (!r9)
     else
      some false):Option Bool)>>=fun j10=>
    ((
     if j10=true then
      some (decide (a0.F_Scale≥0))
     else
      some false):Option Bool)>>=fun j11=>
    ((
     if j11=true then
      some ((a0.F_Neg.length:Int)==a0.F_Dim)
     else
      some false):Option Bool)>>=fun j12=>
    some (0,0,a0.F_L,a0.F_V,0,0,[],[],j12)
   else
    if a0.F_Scheme=3 then
     ((
      if j1=true then
       some (decide (a0.F_Scale≥0))
      else
       some false):Option Bool)>>=fun j13=>
     ((
      if j13=true then
       some ((a0.F_Neg.length:Int)==a0.F_Dim)
      else
       some false):Option Bool)>>=fun j14=>
     some (0,0,a0.F_L,a0.F_V,0,a0.F_Wide,a0.F_Lev,[],j14)
    else
     some (0,0,a0.F_L,a0.F_V,a0.F_Scale,a0.F_Wide,a0.F_Lev,a0.F_Neg,false)
def zAU (a0:List Int) (a1:List Int) (x0:Int):Option (Sum Bool Unit):=
 if x0<(a0.length:Int) then
  if 0≤x0∧x0<(a0.length:Int) then
   if 0≤x0∧x0<(a1.length:Int) then
    if (at' a0 x0)≠(at' a1 x0) then
     some (.inl false)
    else
     zAU a0 a1 (IntKind.i64.wrap (x0+1))
   else none
  else none
 else
  some (.inr ())
 partial_fixpoint
def zBw (a0:List Int) (a1:List Int):Option Bool:=
 if (a0.length:Int)≠(a1.length:Int) then
  some false
 else
  (zAU a0 a1 0)>>=fun e=>match e with
  | .inl r=>some r
  | .inr j1=>
   some true
def zAI (a0:List Int) (a1:List Int) (x0:Int):Option (Sum Bool Unit):=
 if x0<(a0.length:Int) then
  if 0≤x0∧x0<(a0.length:Int) then
   if 0≤x0∧x0<(a1.length:Int) then
    if (at' a0 x0)≠(at' a1 x0) then
     some (.inl false)
    else
     zAI a0 a1 (IntKind.i64.wrap (x0+1))
   else none
  else none
 else
  some (.inr ())
 partial_fixpoint
def zAT (a0:List Int) (a1:List Int):Option Bool:=
 if (a0.length:Int)≠(a1.length:Int) then
  some false
 else
  (zAI a0 a1 0)>>=fun e=>match e with
  | .inl r=>some r
  | .inr j1=>
   some true
def zAN (a0:List Int) (a1:List Int) (x0:Int):Option (Sum Bool Unit):=
 if x0<(a0.length:Int) then
  if 0≤x0∧x0<(a0.length:Int) then
   if 0≤x0∧x0<(a1.length:Int) then
    if (at' a0 x0)≠(at' a1 x0) then
     some (.inl false)
    else
     zAN a0 a1 (IntKind.i64.wrap (x0+1))
   else none
  else none
 else
  some (.inr ())
 partial_fixpoint
def zCy (a0:List Int) (a1:List Int):Option Bool:=
 if (a0.length:Int)≠(a1.length:Int) then
  some false
 else
  (zAN a0 a1 0)>>=fun e=>match e with
  | .inl r=>some r
  | .inr j1=>
   some true
def zA5 (a0:List Bool) (a1:List Bool) (x0:Int):Option (Sum Bool Unit):=
 if x0<(a0.length:Int) then
  if 0≤x0∧x0<(a0.length:Int) then
   if 0≤x0∧x0<(a1.length:Int) then
    if (at' a0 x0)≠(at' a1 x0) then
     some (.inl false)
    else
     zA5 a0 a1 (IntKind.i64.wrap (x0+1))
   else none
  else none
 else
  some (.inr ())
 partial_fixpoint
def zCu (a0:List Bool) (a1:List Bool):Option Bool:=
 if (a0.length:Int)≠(a1.length:Int) then
  some false
 else
  (zA5 a0 a1 0)>>=fun e=>match e with
  | .inl r=>some r
  | .inr j1=>
   some true
def zIr (a0:zAc) (a1:zAc):Option Bool:=
 ((
  if ([a0.F_Scheme,a0.F_Dim,a0.F_Scale,a0.F_Wide]:List Int)=[a1.F_Scheme,a1.F_Dim,a1.F_Scale,a1.F_Wide] then
   (zBw a0.F_L a1.F_L)>>=fun r1=>
   some r1
  else
   some false):Option Bool)>>=fun j2=>
 ((
  if j2=true then
   (zAT a0.F_V a1.F_V)>>=fun r3=>
   some r3
  else
   some false):Option Bool)>>=fun j4=>
 ((
  if j4=true then
   (zCy a0.F_Lev a1.F_Lev)>>=fun r5=>
   some r5
  else
   some false):Option Bool)>>=fun j6=>
 ((
  if j6=true then
   (zCu a0.F_Neg a1.F_Neg)>>=fun r7=>
   some r7
  else
   some false):Option Bool)>>=fun j8=>
 some j8
def zC1 (a0:zAc):Option Bool:=
 (zIw a0)>>=fun r1=>
 ((
  if r1.2.2.2.2.2.2.2.2=true then
   (zIr (⟨r1.1,r1.2.1,r1.2.2.1,r1.2.2.2.1,r1.2.2.2.2.1,r1.2.2.2.2.2.1,r1.2.2.2.2.2.2.1,r1.2.2.2.2.2.2.2.1⟩:zAc) (⟨0,0,[],[],0,0,[],[]⟩:zAc))>>=fun r2=>
   some r2
  else
   some false):Option Bool)>>=fun j3=>
 some j3
def zJh (a0:zAc):Option ((List Int)×Int):=
 (zBW a0.F_V)>>=fun r1=>
 some (r1,0)
def zCC (a1:List Int) (a2:List Int) (x0:Int) (x1:List Int):Option (List Int):=
 if x0<(a1.length:Int) then
  if 0≤x0∧x0<(a1.length:Int) then
   if 0≤x0∧x0<(a2.length:Int) then
    if 0≤at' a1 x0∧at' a1 x0<(x1.length:Int) then
     some (x1.set (Int.toNat (at' a1 x0)) (at' a2 x0))>>=fun y4=>
     zCC a1 a2 (IntKind.i64.wrap (x0+1)) y4
    else none
   else none
  else none
 else
  some x1
 partial_fixpoint
def zHl (a0:Int) (a1:List Int) (a2:List Int):Option ((List Int)×Int):=
 (zEJ a0 a1)>>=fun r1=>
 if r1≠0 then
  some ([],r1)
 else
  if (a1.length:Int)≠(a2.length:Int) then
   some ([],4)
  else
   if 0≤a0∧a0≤a0∧a0≤140737488355328∧a0*((8:Nat):Int)≤140737488355328 then
    some (List.replicate (Int.toNat a0) 0)>>=fun y2=>
    (zCC a1 a2 0 y2)>>=fun j6=>
    some (j6,0)
   else none
def zI2 (a0:zAc):Option ((List Int)×Int):=
 (zHl a0.F_Dim a0.F_L a0.F_V)>>=fun r1=>
 some (r1.1,r1.2)
def zHZ (a0:Int) (a1:Int) (a2:Int):Option (Int×Int):=
 (zEK a2)>>=fun r1=>
 ((
  if r1.2≠0 then
   some true
  else
   some (decide (a1<0))):Option Bool)>>=fun j2=>
 ((
  if j2=true then
   some true
  else
   some (decide (a0>r1.1))):Option Bool)>>=fun j3=>
 if j3=true then
  some (0,1)
 else
  (zDe (IntKind.u64.wrap a1) a0)>>=fun r4=>
  (zDd r4.1 r4.2 r1.1)>>=fun r5=>
  some (IntKind.i64.wrap r5.1,0)
def zBZ (a0:zAc) (x0:Int) (x1:List Int):Option (Sum ((List Int)×Int) (List Int)):=
 if x0<(a0.F_Lev.length:Int) then
  if 0≤x0∧x0<(a0.F_Lev.length:Int) then
   (zHZ (at' a0.F_Lev x0) a0.F_Scale a0.F_Wide)>>=fun r5=>
   if r5.2≠0 then
    some (.inl ([],r5.2))
   else
    if 0≤x0∧x0<(x1.length:Int) then
     some (x1.set (Int.toNat x0) r5.1)>>=fun y6=>
     if 0≤x0∧x0<(a0.F_Neg.length:Int) then
      if (at' a0.F_Neg x0)=true then
       if 0≤x0∧x0<(y6.length:Int) then
        some (y6.set (Int.toNat x0) (IntKind.i64.wrap (0-r5.1)))>>=fun y8=>
        zBZ a0 (IntKind.i64.wrap (x0+1)) y8
       else none
      else
       zBZ a0 (IntKind.i64.wrap (x0+1)) y6
     else none
    else none
  else none
 else
  some (.inr x1)
 partial_fixpoint
def zJw (a0:zAc):Option ((List Int)×Int):=
 (zC1 a0)>>=fun r1=>
 ((
  if r1=false then
   some true
  else
   some (a0.F_Scheme !=2)):Option Bool)>>=fun j2=>
 if j2=true then
  some ([],1)
 else
  if 0≤a0.F_Dim∧a0.F_Dim≤a0.F_Dim∧a0.F_Dim≤140737488355328∧a0.F_Dim*((8:Nat):Int)≤140737488355328 then
   some (List.replicate (Int.toNat a0.F_Dim) 0)>>=fun y3=>
   (zBZ a0 0 y3)>>=fun e=>match e with
   | .inl r=>some r
   | .inr j10=>
    some (j10,0)
  else none
def zFB (a0:Bool) (a1:Int) (a2:Int) (a3:List Int) (a4:List Int) (a5:Int) (a6:Int) (a7:List Int) (a8:List Bool):Option Int:=
 if a0=true then
  some (IntKind.i64.wrap (0-a5))
 else
  some a5
def zAA (a0:List Bool) (a1:Int) (a2:Int) (a3:List Int) (a4:List Int) (a5:Int) (a6:Int) (a7:List Int) (a8:List Bool) (x0:Int) (x1:List Int):Option (List Int):=
 if x0<(a0.length:Int) then
  if 0≤x0∧x0<(a0.length:Int) then
   (zFB (at' a0 x0) a1 a2 a3 a4 a5 a6 a7 a8)>>=fun r3=>
   if room 8 (x1++[r3]).length then
    zAA a0 a1 a2 a3 a4 a5 a6 a7 a8 (IntKind.i64.wrap (x0+1)) (x1++[r3])
   else none
  else none
 else
  some x1
 partial_fixpoint
def zCv (a0:List Bool) (a1:Int) (a2:Int) (a3:List Int) (a4:List Int) (a5:Int) (a6:Int) (a7:List Int) (a8:List Bool):Option (List Int):=
 if 0≤(0:Int)∧(0:Int)≤(a0.length:Int)∧(a0.length:Int)≤140737488355328∧(a0.length:Int)*((8:Nat):Int)≤140737488355328 then
  some (List.replicate (Int.toNat 0) 0)>>=fun y1=>
  (zAA a0 a1 a2 a3 a4 a5 a6 a7 a8 0 y1)>>=fun j4=>
  some j4
 else none
def zKB (a0:zAc):Option ((List Int)×Int):=
 (zC1 a0)>>=fun r1=>
 ((
  if r1=false then
   some true
  else
   some (a0.F_Scheme !=3)):Option Bool)>>=fun j2=>
 if j2=true then
  some ([],1)
 else
  (zCv a0.F_Neg a0.F_Scheme a0.F_Dim a0.F_L a0.F_V a0.F_Scale a0.F_Wide a0.F_Lev a0.F_Neg)>>=fun r3=>
  some (r3,0)
def zEc (a0:zAc):Option ((List Int)×Int):=
 (zC1 a0)>>=fun r1=>
 if r1=false then
  some ([],1)
 else
  (zC4)>>=fun r2=>
  if a0.F_Scheme=(0:Int) then
   (zJh a0)>>=fun r3=>
   some (r3.1,r3.2)
  else
   if a0.F_Scheme=(1:Int) then
    (zI2 a0)>>=fun r4=>
    some (r4.1,r4.2)
   else
    if a0.F_Scheme=(2:Int) then
     (zJw a0)>>=fun r5=>
     some (r5.1,r5.2)
    else
     if a0.F_Scheme=(3:Int) then
      (zKB a0)>>=fun r6=>
      some (r6.1,r6.2)
     else
      none
def zE2 (a0:Int) (a1:List Int) (a2:List Int):Option (Int×Int):=
 if 0≤a0∧a0<(a1.length:Int) then
  if 0≤a0∧a0<(a2.length:Int) then
   (zKr (at' a1 a0) (at' a2 a0))>>=fun r1=>
   some (r1.1,r1.2)
  else none
 else none
def zBo (a1:List Int) (a2:List Int) (y1:List Int) (x0:Int) (x1:List Int):Option (Sum ((List Int)×Int) (List Int)):=
 if x0<(y1.length:Int) then
  (zE2 x0 a1 a2)>>=fun r3=>
  if 0≤x0∧x0<(x1.length:Int) then
   some (x1.set (Int.toNat x0) r3.1)>>=fun y4=>
   if r3.2≠0 then
    some (.inl ([],r3.2))
   else
    zBo a1 a2 y1 (IntKind.i64.wrap (x0+1)) y4
  else none
 else
  some (.inr x1)
 partial_fixpoint
def zF5 (a0:Int) (a1:List Int) (a2:List Int):Option ((List Int)×Int):=
 if 0≤a0∧a0≤a0∧a0≤140737488355328∧a0*((8:Nat):Int)≤140737488355328 then
  some (List.replicate (Int.toNat a0) 0)>>=fun y1=>
  (zBo a1 a2 y1 0 y1)>>=fun e=>match e with
  | .inl r=>some r
  | .inr j6=>
   some (j6,0)
 else none
def zML (a0:List Int) (a1:List Int):Option ((List Int)×Int):=
 (zIo a0 a1)>>=fun r1=>
 if r1≠0 then
  some ([],r1)
 else
  (zF5 (a0.length:Int) a0 a1)>>=fun r2=>
  some (r2.1,r2.2)
def zHd (a0:List Int) (a1:zAc):Option ((List Int)×Int):=
 (zEc a1)>>=fun r1=>
 if r1.2≠0 then
  some ([],r1.2)
 else
  (zML a0 r1.1)>>=fun r2=>
  some (r2.1,r2.2)
def zH0 (a0:zAi) (a1:List Int) (a2:List Int) (a3:Int) (a4:List Int):Option (Int×Int×(List Int)×(List Int)×Int×Int×(List Int)×(List Bool)×(List Int)×Int):=
 (zMG a1 a2)>>=fun r1=>
 ((
  if r1.2=0 then
   (zHU a0 r1.1 a3 a4)>>=fun r2=>
   some (r2.2.2.2.2.2.2.2.2,r2.1,r2.2.1,r2.2.2.1,r2.2.2.2.1,r2.2.2.2.2.1,r2.2.2.2.2.2.1,r2.2.2.2.2.2.2.1,r2.2.2.2.2.2.2.2.1)
  else
   some (r1.2,0,0,[],[],0,0,[],[])):Option (Int×Int×Int×(List Int)×(List Int)×Int×Int×(List Int)×(List Bool)))>>=fun j3=>
 if j3.1=0 then
  (zHd r1.1 (⟨j3.2.1,j3.2.2.1,j3.2.2.2.1,j3.2.2.2.2.1,j3.2.2.2.2.2.1,j3.2.2.2.2.2.2.1,j3.2.2.2.2.2.2.2.1,j3.2.2.2.2.2.2.2.2⟩:zAc))>>=fun r4=>
  if r4.2≠0 then
   some (0,0,[],[],0,0,[],[],[],r4.2)
  else
   some (j3.2.1,j3.2.2.1,j3.2.2.2.1,j3.2.2.2.2.1,j3.2.2.2.2.2.1,j3.2.2.2.2.2.2.1,j3.2.2.2.2.2.2.2.1,j3.2.2.2.2.2.2.2.2,r4.1,0)
 else
  if j3.1≠0 then
   some (0,0,[],[],0,0,[],[],[],j3.1)
  else
   some (j3.2.1,j3.2.2.1,j3.2.2.2.1,j3.2.2.2.2.1,j3.2.2.2.2.2.1,j3.2.2.2.2.2.2.1,j3.2.2.2.2.2.2.2.1,j3.2.2.2.2.2.2.2.2,[],0)
def zC3 (a0:List Int) (a1:List Int) (x0:Int):Option (Sum Bool Unit):=
 if x0<(a0.length:Int) then
  if 0≤x0∧x0<(a0.length:Int) then
   if 0≤x0∧x0<(a1.length:Int) then
    if (at' a0 x0)≠(at' a1 x0) then
     some (.inl false)
    else
     zC3 a0 a1 (IntKind.i64.wrap (x0+1))
   else none
  else none
 else
  some (.inr ())
 partial_fixpoint
def zBm (a0:List Int) (a1:List Int):Option Bool:=
 if (a0.length:Int)≠(a1.length:Int) then
  some false
 else
  (zC3 a0 a1 0)>>=fun e=>match e with
  | .inl r=>some r
  | .inr j1=>
   some true
def zFC:Option Bool:=
 (zH0 (⟨1,1,0⟩:zAi) [3,-5] [0,0] 1 [])>>=fun r1=>
 ((
  if r1.2.2.2.2.2.2.2.2.2=0 then
   some ((r1.2.2.1.length:Int)==1)
  else
   some false):Option Bool)>>=fun j2=>
 ((
  if j2=true then
   if 0≤(0:Int)∧(0:Int)<(r1.2.2.1.length:Int) then
    some ((at' r1.2.2.1 0)==1)
   else none
  else
   some false):Option Bool)>>=fun j3=>
 ((
  if j3=true then
   (zBm r1.2.2.2.1 [-5])>>=fun r4=>
   some r4
  else
   some false):Option Bool)>>=fun j5=>
 ((
  if j5=true then
   (zBm r1.2.2.2.2.2.2.2.2.1 [3,0])>>=fun r6=>
   some r6
  else
   some false):Option Bool)>>=fun j7=>
 some j7
def zB5 (a0:List Int) (a1:List (List Int)) (x0:Int):Option (Sum Bool Unit):=
 if x0<(a1.length:Int) then
  if 0≤x0∧x0<(a1.length:Int) then
   ((
    if ((at' a1 x0).length:Int)>200 then
     some (decide (((at' a1 x0).length:Int)≤4096))
    else
     some false):Option Bool)>>=fun j1=>
   ((
    if j1=true then
     some true
    else
     some (decide (((at' a1 x0).length:Int)>5000))):Option Bool)>>=fun j2=>
   if j2=true then
    some (.inl false)
   else
    zB5 a0 a1 (IntKind.i64.wrap (x0+1))
  else none
 else
  some (.inr ())
 partial_fixpoint
def zGe (a0:List Int) (a1:List (List Int)):Option Bool:=
 (zB5 a0 a1 0)>>=fun e=>match e with
 | .inl r=>some r
 | .inr j3=>
  ((
   if (a0.length:Int)≤50 then
    some (decide ((a1.length:Int)≤30))
   else
    some false):Option Bool)>>=fun j4=>
  some j4
def zGb (a0:zAc):Option Bool:=
 ((
  if (a0.F_L.length:Int)>500 then
   some true
  else
   some (decide ((a0.F_V.length:Int)>500))):Option Bool)>>=fun j1=>
 ((
  if j1=true then
   some true
  else
   some (decide ((a0.F_Lev.length:Int)>500))):Option Bool)>>=fun j2=>
 ((
  if j2=true then
   some true
  else
   some (decide ((a0.F_Neg.length:Int)>500))):Option Bool)>>=fun j3=>
 some j3
def zBk (a0:List Int) (x0:Int):Option (Sum Bool Unit):=
 if x0<(a0.length:Int) then
  if 0≤x0∧x0<(a0.length:Int) then
   if 0≤IntKind.i64.wrap (x0-1)∧IntKind.i64.wrap (x0-1)<(a0.length:Int) then
    if (at' a0 x0)≤(at' a0 (IntKind.i64.wrap (x0-1))) then
     some (.inl false)
    else
     zBk a0 (IntKind.i64.wrap (x0+1))
   else none
  else none
 else
  some (.inr ())
 partial_fixpoint
def zDM (a0:List Int):Option Bool:=
 (zBk a0 1)>>=fun e=>match e with
 | .inl r=>some r
 | .inr j1=>
  some true
def zBJ (a0:Int) (a1:List Int) (x0:Int):Option (Sum Int Unit):=
 if x0<(a1.length:Int) then
  if 0≤x0∧x0<(a1.length:Int) then
   ((
    if (at' a1 x0)<0 then
     some true
    else
     some (decide ((at' a1 x0)≥a0))):Option Bool)>>=fun j4=>
   if j4=true then
    some (.inl 1)
   else
    zBJ a0 a1 (IntKind.i64.wrap (x0+1))
  else none
 else
  some (.inr ())
 partial_fixpoint
def zDD (a0:Int) (a1:List Int):Option Int:=
 ((
  if a0<1 then
   some true
  else
   some (decide (a0>4096))):Option Bool)>>=fun j1=>
 ((
  if j1=true then
   some true
  else
   (zDM a1)>>=fun r2=>
   some (!r2)):Option Bool)>>=fun j3=>
 if j3=true then
  some 1
 else
  (zBJ a0 a1 0)>>=fun e=>match e with
  | .inl r=>some r
  | .inr j5=>
   some 0
def zBA (x0:Int) (x1:Int):Option Int:=
 if x1>0 then
  zBA (IntKind.i64.wrap (x0+1)) (IntKind.u64.wrap (Int.tdiv x1 2))
 else
  some x0
 partial_fixpoint
def zDy (a0:Int):Option Int:=
 (zBA 0 a0)>>=fun j1=>
 some j1
def zB1 (a0:zAc) (j2:Bool) (x0:Int):Option (Sum Bool Unit):=
 if x0<(a0.F_Lev.length:Int) then
  if 0≤x0∧x0<(a0.F_Lev.length:Int) then
   (zDy (at' a0.F_Lev x0))>>=fun r14=>
   if r14>a0.F_Wide then
    some (.inl false)
   else
    zB1 a0 j2 (IntKind.i64.wrap (x0+1))
  else none
 else
  some (.inr ())
 partial_fixpoint
def zBQ (a0:zAc):Option Bool:=
 ((
  if a0.F_Dim<1 then
   some true
  else
   some (decide (a0.F_Dim>4096))):Option Bool)>>=fun j1=>
 if j1=true then
  some false
 else
  ((
   if (a0.F_L.length:Int)=0 then
    some ((a0.F_V.length:Int)==0)
   else
    some false):Option Bool)>>=fun j2=>
  ((
   if a0.F_Wide=0 then
    some ((a0.F_Lev.length:Int)==0)
   else
    some false):Option Bool)>>=fun j3=>
  ((
   if a0.F_Scale=0 then
    some ((a0.F_Neg.length:Int)==0)
   else
    some false):Option Bool)>>=fun j4=>
  if a0.F_Scheme=0 then
   ((
    if (a0.F_L.length:Int)=0 then
     some ((a0.F_V.length:Int)==a0.F_Dim)
    else
     some false):Option Bool)>>=fun j5=>
   ((
    if j5=true then
     some j3
    else
     some false):Option Bool)>>=fun j6=>
   ((
    if j6=true then
     some j4
    else
     some false):Option Bool)>>=fun j7=>
   some j7
  else
   if a0.F_Scheme=1 then
    (zDD a0.F_Dim a0.F_L)>>=fun r8=>
    ((
     if r8=0 then
      some ((a0.F_V.length:Int)==(a0.F_L.length:Int))
     else
      some false):Option Bool)>>=fun j9=>
    ((
     if j9=true then
      some j3
     else
      some false):Option Bool)>>=fun j10=>
    ((
     if j10=true then
      some j4
     else
      some false):Option Bool)>>=fun j11=>
    some j11
   else
    if a0.F_Scheme=2 then
     ((
      if a0.F_Wide<1 then
       some true
      else
       some (decide (a0.F_Wide>8))):Option Bool)>>=fun j12=>
     ((
      if j12=true then
       some true
      else
       some ((a0.F_Lev.length:Int) !=a0.F_Dim)):Option Bool)>>=fun j13=>
     if j13=true then
      some false
     else
      (zB1 a0 j2 0)>>=fun e=>match e with
      | .inl r=>some r
      | .inr j15=>
       ((
        if j2=true then
         some (decide (a0.F_Scale≥0))
        else
         some false):Option Bool)>>=fun j16=>
       ((
        if j16=true then
         some ((a0.F_Neg.length:Int)==a0.F_Dim)
        else
         some false):Option Bool)>>=fun j17=>
       some j17
    else
     if a0.F_Scheme=3 then
      ((
       if j2=true then
        some j3
       else
        some false):Option Bool)>>=fun j18=>
      ((
       if j18=true then
        some (decide (a0.F_Scale≥0))
       else
        some false):Option Bool)>>=fun j19=>
      ((
       if j19=true then
        some ((a0.F_Neg.length:Int)==a0.F_Dim)
       else
        some false):Option Bool)>>=fun j20=>
      some j20
     else
      some false
def zDN (a0:Int):Option (Int×Int):=
 ((
  if a0<1 then
   some true
  else
   some (decide (a0>8))):Option Bool)>>=fun j1=>
 if j1=true then
  some (0,1)
 else
  if 0≤a0 then
   some (IntKind.u64.wrap ((sShl .u64 1 a0)-1),0)
  else none
def zE4 (a0:Int) (a1:Int) (a2:Int):Option (Int×Int):=
 (zDN a2)>>=fun r1=>
 ((
  if r1.2≠0 then
   some true
  else
   some (decide (a1<0))):Option Bool)>>=fun j2=>
 ((
  if j2=true then
   some true
  else
   some (decide (a0>r1.1))):Option Bool)>>=fun j3=>
 if j3=true then
  some (0,1)
 else
  if r1.1≠0 then
   if r1.1≠0 then
    some (IntKind.u64.wrap ((Int.tmod (IntKind.u64.wrap a1) r1.1)*a0))>>=fun y4=>
    some (IntKind.u64.wrap ((IntKind.u64.wrap (Int.tdiv (IntKind.u64.wrap a1) r1.1))*a0))>>=fun y6=>
    if r1.1≠0 then
     some (IntKind.i64.wrap (IntKind.u64.wrap (y6+(IntKind.u64.wrap (Int.tdiv y4 r1.1)))),0)
    else none
   else none
  else none
def zBa (a0:zAc) (x0:Int) (x1:List Int):Option (List Int):=
 if x0<(a0.F_Lev.length:Int) then
  if 0≤x0∧x0<(a0.F_Lev.length:Int) then
   (zE4 (at' a0.F_Lev x0) a0.F_Scale a0.F_Wide)>>=fun r3=>
   if 0≤x0∧x0<(a0.F_Neg.length:Int) then
    if (at' a0.F_Neg x0)=true then
     if room 8 (x1++[IntKind.i64.wrap (0-r3.1)]).length then
      some (x1++[IntKind.i64.wrap (0-r3.1)])>>=fun y4=>
      zBa a0 (IntKind.i64.wrap (x0+1)) y4
     else none
    else
     if room 8 (x1++[r3.1]).length then
      zBa a0 (IntKind.i64.wrap (x0+1)) (x1++[r3.1])
     else none
   else none
  else none
 else
  some x1
 partial_fixpoint
def zGK (a0:zAc):Option ((List Int)×Int):=
 (zBQ a0)>>=fun r1=>
 ((
  if r1=false then
   some true
  else
   some (a0.F_Scheme !=2)):Option Bool)>>=fun j2=>
 if j2=true then
  some ([],1)
 else
  (zBa a0 0 [])>>=fun j6=>
  some (j6,0)
def zA9 (a0:zAc) (x0:Int) (x1:List Int):Option (List Int):=
 if x0<(a0.F_Neg.length:Int) then
  if 0≤x0∧x0<(a0.F_Neg.length:Int) then
   if (at' a0.F_Neg x0)=true then
    if room 8 (x1++[IntKind.i64.wrap (0-a0.F_Scale)]).length then
     some (x1++[IntKind.i64.wrap (0-a0.F_Scale)])>>=fun y3=>
     zA9 a0 (IntKind.i64.wrap (x0+1)) y3
    else none
   else
    if room 8 (x1++[a0.F_Scale]).length then
     zA9 a0 (IntKind.i64.wrap (x0+1)) (x1++[a0.F_Scale])
    else none
  else none
 else
  some x1
 partial_fixpoint
def zGN (a0:zAc):Option ((List Int)×Int):=
 (zBQ a0)>>=fun r1=>
 ((
  if r1=false then
   some true
  else
   some (a0.F_Scheme !=3)):Option Bool)>>=fun j2=>
 if j2=true then
  some ([],1)
 else
  (zA9 a0 0 [])>>=fun j5=>
  some (j5,0)
def zBv (a0:zAc) (x0:Int) (x1:List Int):Option (List Int):=
 if x0<(a0.F_L.length:Int) then
  if 0≤x0∧x0<(a0.F_L.length:Int) then
   if 0≤x0∧x0<(a0.F_V.length:Int) then
    if 0≤at' a0.F_L x0∧at' a0.F_L x0<(x1.length:Int) then
     some (x1.set (Int.toNat (at' a0.F_L x0)) (at' a0.F_V x0))>>=fun y4=>
     zBv a0 (IntKind.i64.wrap (x0+1)) y4
    else none
   else none
  else none
 else
  some x1
 partial_fixpoint
def zDi (a0:zAc):Option ((List Int)×Int):=
 (zBQ a0)>>=fun r1=>
 if r1=false then
  some ([],1)
 else
  if a0.F_Scheme=1 then
   if 0≤a0.F_Dim∧a0.F_Dim≤a0.F_Dim∧a0.F_Dim≤140737488355328∧a0.F_Dim*((8:Nat):Int)≤140737488355328 then
    some (List.replicate (Int.toNat a0.F_Dim) 0)>>=fun y2=>
    (zBv a0 0 y2)>>=fun j6=>
    some (j6,0)
   else none
  else
   if a0.F_Scheme=2 then
    (zGK a0)>>=fun r7=>
    some (r7.1,r7.2)
   else
    if a0.F_Scheme=3 then
     (zGN a0)>>=fun r8=>
     some (r8.1,r8.2)
    else
     if room 8 (a0.F_V:List Int).length then
      some (a0.F_V,0)
     else none
def zEg (a0:List Int) (a1:List Int):Option Int:=
 ((
  if (a0.length:Int)>4096 then
   some true
  else
   some (decide ((a1.length:Int)>4096))):Option Bool)>>=fun j1=>
 if j1=true then
  some 3
 else
  if (a0.length:Int)≠(a1.length:Int) then
   some 4
  else
   some 0
def zDn (a0:Int) (a1:Int):Option (Int×Int):=
 ((
  if a1<0 then
   some (decide (a0>(IntKind.i64.wrap (9223372036854775807+a1))))
  else
   some false):Option Bool)>>=fun j1=>
 if j1=true then
  some (0,2)
 else
  if a1>0 then
   if a0<(IntKind.i64.wrap ((-9223372036854775808)+a1)) then
    some (0,2)
   else
    some (IntKind.i64.wrap (a0-a1),0)
  else
   some (IntKind.i64.wrap (a0-a1),0)
def zB4 (a0:List Int) (a1:List Int) (x0:Int) (x1:List Int):Option (Sum ((List Int)×Int) (List Int)):=
 if x0<(a0.length:Int) then
  if 0≤x0∧x0<(a0.length:Int) then
   if 0≤x0∧x0<(a1.length:Int) then
    (zDn (at' a0 x0) (at' a1 x0))>>=fun r2=>
    if r2.2≠0 then
     some (.inl ([],r2.2))
    else
     if room 8 (x1++[r2.1]).length then
      zB4 a0 a1 (IntKind.i64.wrap (x0+1)) (x1++[r2.1])
     else none
   else none
  else none
 else
  some (.inr x1)
 partial_fixpoint
def zGk (a0:List Int) (a1:List Int):Option ((List Int)×Int):=
 (zEg a0 a1)>>=fun r1=>
 if r1≠0 then
  some ([],r1)
 else
  (zB4 a0 a1 0 [])>>=fun e=>match e with
  | .inl r=>some r
  | .inr j3=>
   some (j3,0)
def zFE (a0:List Int) (a1:zAc):Option ((List Int)×Int):=
 (zDi a1)>>=fun r1=>
 if r1.2≠0 then
  some ([],r1.2)
 else
  (zGk a0 r1.1)>>=fun r2=>
  some (r2.1,r2.2)
def zCi (a0:List Int):Option (List Int):=
 if room 1 ([]++a0).length then
  some ([]++a0)
 else none
def zDG (x0:List Int) (x1:Int):Option ((List Int)×Int):=
 if x1>127 then
  if room 1 (x0++[bOr .u8 (IntKind.u8.wrap x1) 128]).length then
   some (x0++[bOr .u8 (IntKind.u8.wrap x1) 128])>>=fun y1=>
   zDG y1 (sShr .u64 x1 7)
  else none
 else
  some (x0,x1)
 partial_fixpoint
def zKh (a0:List Int) (a1:Int):Option (List Int):=
 (zDG a0 a1)>>=fun j3=>
 if room 1 (j3.1++[IntKind.u8.wrap j3.2]).length then
  some (j3.1++[IntKind.u8.wrap j3.2])
 else none
def zEu (a1:List Int) (x0:Int) (x1:List Int):Option (List Int):=
 if x0<(a1.length:Int) then
  if 0≤x0∧x0<(a1.length:Int) then
   (zKh x1 (at' a1 x0))>>=fun r2=>
   zEu a1 (IntKind.i64.wrap (x0+1)) r2
  else none
 else
  some x1
 partial_fixpoint
def zFX (a0:List Int) (a1:List Int):Option (List Int):=
 (zCi a0)>>=fun r1=>
 (zEu a1 0 r1)>>=fun j3=>
 some j3
def zMJ (a0:Int):Option Int:=
 some (bXor .u64 (IntKind.u64.wrap (sShl .i64 a0 1)) (IntKind.u64.wrap (sShr .i64 a0 63)))
def zCF (a1:List Int) (x0:Int) (x1:List Int):Option (List Int):=
 if x0<(a1.length:Int) then
  if 0≤x0∧x0<(a1.length:Int) then
   (zMJ (at' a1 x0))>>=fun r2=>
   (zKh x1 r2)>>=fun r3=>
   zCF a1 (IntKind.i64.wrap (x0+1)) r3
  else none
 else
  some x1
 partial_fixpoint
def zIn (a0:List Int) (a1:List Int):Option (List Int):=
 (zCi a0)>>=fun r1=>
 (zCF a1 0 r1)>>=fun j4=>
 some j4
def zCB (a0:zAw) (a1:zAc):Option ((List Int)×Int):=
 (zIn a0.F_b a1.F_V)>>=fun r1=>
 some (r1,a0.F_e)
def zDo (a1:List Int) (x0:Int) (x1:Int) (x2:List Int):Option (List Int):=
 if x0<(a1.length:Int) then
  if 0≤x0∧x0<(a1.length:Int) then
   if room 8 (x2++[IntKind.u64.wrap (IntKind.i64.wrap ((IntKind.i64.wrap ((at' a1 x0)-x1))-1))]).length then
    some (x2++[IntKind.u64.wrap (IntKind.i64.wrap ((IntKind.i64.wrap ((at' a1 x0)-x1))-1))])>>=fun y6=>
    zDo a1 (IntKind.i64.wrap (x0+1)) (at' a1 x0) y6
   else none
  else none
 else
  some x2
 partial_fixpoint
def zJH (a0:Int) (a1:List Int):Option ((List Int)×Int):=
 (zEJ a0 a1)>>=fun r1=>
 if r1≠0 then
  some ([],r1)
 else
  if 0≤(0:Int)∧(0:Int)≤IntKind.i64.wrap ((a1.length:Int)+1)∧IntKind.i64.wrap ((a1.length:Int)+1)≤140737488355328∧(IntKind.i64.wrap ((a1.length:Int)+1))*((8:Nat):Int)≤140737488355328 then
   some (List.replicate (Int.toNat 0) 0)>>=fun y2=>
   if room 8 (y2++[IntKind.u64.wrap (a1.length:Int)]).length then
    some (y2++[IntKind.u64.wrap (a1.length:Int)])>>=fun y4=>
    (zDo a1 0 (-1) y4)>>=fun j8=>
    (zFX [] j8)>>=fun r9=>
    some (r9,0)
   else none
  else none
def zBp (a0:zAw) (a1:List Int) (a2:Int):Option ((List Int)×Int):=
 if room 1 (a0.F_b++a1).length then
  if a2≠0 then
   some (a0.F_b++a1,a2)
  else
   some (a0.F_b++a1,a0.F_e)
 else none
def zFI (a0:zAw) (a1:zAc):Option ((List Int)×Int):=
 (zJH a1.F_Dim a1.F_L)>>=fun r1=>
 (zBp a0 r1.1 r1.2)>>=fun r2=>
 (zCB (⟨r2.1,r2.2⟩:zAw) a1)>>=fun r3=>
 some (r3.1,r3.2)
def zKz (a0:Int):Option Int:=
 some a0
def zGw (a0:Int) (a1:Int):Option (Int×Int):=
 ((
  if a0<0 then
   some true
  else
   some (decide (a0>32))):Option Bool)>>=fun j1=>
 ((
  if j1=true then
   some true
  else
   some (decide (a1<0))):Option Bool)>>=fun j2=>
 if j2=true then
  some (0,1)
 else
  if a1>4096 then
   some (0,3)
  else
   some (sShr .i64 (IntKind.i64.wrap ((IntKind.i64.wrap (a0*a1))+7)) 3,0)
def zIz (a0:Int) (a1:Int):Option Bool:=
 if 0≤a1 then
  some ((sShr .u64 a0 a1) !=0)
 else none
def zAt (a0:List Int) (a1:Int) (x0:Int):Option (Sum Int Unit):=
 if x0<(a0.length:Int) then
  if 0≤x0∧x0<(a0.length:Int) then
   (zIz (at' a0 x0) a1)>>=fun r1=>
   if r1=true then
    some (.inl x0)
   else
    zAt a0 a1 (IntKind.i64.wrap (x0+1))
  else none
 else
  some (.inr ())
 partial_fixpoint
def zBx (a0:List Int) (a1:Int):Option Int:=
 (zAt a0 a1 0)>>=fun e=>match e with
 | .inl r=>some r
 | .inr j2=>
  some (-1)
def zAG (a0:List Int) (a1:Int):Option Bool:=
 (zBx a0 a1)>>=fun r1=>
 some (decide (r1≥0))
def zFF (a0:Int) (a1:Int) (a2:Int):Option Int:=
 some (IntKind.i64.wrap ((IntKind.i64.wrap (a1*a2))+a0))
def zAY (a0:Int) (a1:List Int) (a2:Int) (x0:Int) (x0_:Int) (x1_:List Int):Option (List Int):=
 if x0_<a0 then
  (zFF x0 x0_ a2)>>=fun r5=>
  if 0≤sShr .i64 r5 3∧sShr .i64 r5 3<(x1_.length:Int) then
   if 0≤IntKind.i64.wrap ((IntKind.i64.wrap (a0-1))-x0_) then
    if 0≤IntKind.i64.wrap (7-(bAnd .i64 r5 7)) then
     if 0≤sShr .i64 r5 3∧sShr .i64 r5 3<(x1_.length:Int) then
      some (x1_.set (Int.toNat (sShr .i64 r5 3)) (bOr .u8 (at' x1_ (sShr .i64 r5 3)) (sShl .u8 (IntKind.u8.wrap (bAnd .u64 (sShr .u64 (at' a1 x0) (IntKind.i64.wrap ((IntKind.i64.wrap (a0-1))-x0_))) 1)) (IntKind.i64.wrap (7-(bAnd .i64 r5 7))))))>>=fun y6=>
      zAY a0 a1 a2 x0 (IntKind.i64.wrap (x0_+1)) y6
     else none
    else none
   else none
  else none
 else
  some x1_
 partial_fixpoint
def zAZ (a0:Int) (a1:List Int) (a2:Int) (x0:Int) (x1:List Int):Option (List Int):=
 if x0<(a1.length:Int) then
  if 0≤x0∧x0<(a1.length:Int) then
   (zAY a0 a1 a2 x0 0 x1)>>=fun j8=>
   zAZ a0 a1 a2 (IntKind.i64.wrap (x0+1)) j8
  else none
 else
  some x1
 partial_fixpoint
def zCW (a0:Int) (a1:List Int) (a2:Int):Option ((List Int)×Int):=
 (zGw a0 (a1.length:Int))>>=fun r1=>
 if r1.2≠0 then
  some ([],r1.2)
 else
  (zAG a1 a0)>>=fun r2=>
  if r2=true then
   some ([],1)
  else
   if 0≤r1.1∧r1.1≤r1.1∧r1.1≤140737488355328∧r1.1*((1:Nat):Int)≤140737488355328 then
    some (List.replicate (Int.toNat r1.1) 0)>>=fun y3=>
    (zAZ a0 a1 a2 0 y3)>>=fun j9=>
    some (j9,0)
   else none
def zKQ (a0:Int) (a1:List Int):Option ((List Int)×Int):=
 (zKz (a1.length:Int))>>=fun r1=>
 (zCW a0 a1 r1)>>=fun r2=>
 some (r2.1,r2.2)
def zLM (a0:Int):Option Int:=
 some a0
def zF3 (a0:Int) (a1:Int) (a2:Int):Option Int:=
 some (IntKind.i64.wrap ((IntKind.i64.wrap (a0*a2))+a1))
def zA4 (a0:Int) (a1:List Int) (a2:Int) (x0:Int) (x0_:Int) (x1_:List Int):Option (List Int):=
 if x0_<a0 then
  (zF3 x0 x0_ a2)>>=fun r5=>
  if 0≤sShr .i64 r5 3∧sShr .i64 r5 3<(x1_.length:Int) then
   if 0≤IntKind.i64.wrap ((IntKind.i64.wrap (a0-1))-x0_) then
    if 0≤IntKind.i64.wrap (7-(bAnd .i64 r5 7)) then
     if 0≤sShr .i64 r5 3∧sShr .i64 r5 3<(x1_.length:Int) then
      some (x1_.set (Int.toNat (sShr .i64 r5 3)) (bOr .u8 (at' x1_ (sShr .i64 r5 3)) (sShl .u8 (IntKind.u8.wrap (bAnd .u64 (sShr .u64 (at' a1 x0) (IntKind.i64.wrap ((IntKind.i64.wrap (a0-1))-x0_))) 1)) (IntKind.i64.wrap (7-(bAnd .i64 r5 7))))))>>=fun y6=>
      zA4 a0 a1 a2 x0 (IntKind.i64.wrap (x0_+1)) y6
     else none
    else none
   else none
  else none
 else
  some x1_
 partial_fixpoint
def zA3 (a0:Int) (a1:List Int) (a2:Int) (x0:Int) (x1:List Int):Option (List Int):=
 if x0<(a1.length:Int) then
  if 0≤x0∧x0<(a1.length:Int) then
   (zA4 a0 a1 a2 x0 0 x1)>>=fun j8=>
   zA3 a0 a1 a2 (IntKind.i64.wrap (x0+1)) j8
  else none
 else
  some x1
 partial_fixpoint
def zC8 (a0:Int) (a1:List Int) (a2:Int):Option ((List Int)×Int):=
 (zGw a0 (a1.length:Int))>>=fun r1=>
 if r1.2≠0 then
  some ([],r1.2)
 else
  (zAG a1 a0)>>=fun r2=>
  if r2=true then
   some ([],1)
  else
   if 0≤r1.1∧r1.1≤r1.1∧r1.1≤140737488355328∧r1.1*((1:Nat):Int)≤140737488355328 then
    some (List.replicate (Int.toNat r1.1) 0)>>=fun y3=>
    (zA3 a0 a1 a2 0 y3)>>=fun j9=>
    some (j9,0)
   else none
def zLK (a0:Int) (a1:List Int):Option ((List Int)×Int):=
 (zLM a0)>>=fun r1=>
 (zC8 a0 a1 r1)>>=fun r2=>
 some (r2.1,r2.2)
def zCt (a0:List Bool) (x0:Int) (x1:List Int):Option (List Int):=
 if x0<(a0.length:Int) then
  if 0≤x0∧x0<(a0.length:Int) then
   if (at' a0 x0)=true then
    if 0≤x0∧x0<(x1.length:Int) then
     zCt a0 (IntKind.i64.wrap (x0+1)) (x1.set (Int.toNat x0) 1)
    else none
   else
    zCt a0 (IntKind.i64.wrap (x0+1)) x1
  else none
 else
  some x1
 partial_fixpoint
def zGx (a0:List Bool):Option ((List Int)×Int):=
 if 0≤(a0.length:Int)∧(a0.length:Int)≤(a0.length:Int)∧(a0.length:Int)≤140737488355328∧(a0.length:Int)*((8:Nat):Int)≤140737488355328 then
  some (List.replicate (Int.toNat (a0.length:Int)) 0)>>=fun y1=>
  (zCt a0 0 y1)>>=fun j3=>
  (zLK 1 j3)>>=fun r4=>
  some (r4.1,r4.2)
 else none
def zEH (a0:zAw) (a1:zAc):Option ((List Int)×Int):=
 ((
  (zFX a0.F_b [IntKind.u64.wrap a1.F_Scale])>>=fun r1=>
  if room 1 (r1++[IntKind.u8.wrap a1.F_Wide]).length then
   some (r1++[IntKind.u8.wrap a1.F_Wide])
  else none):Option (List Int))>>=fun j2=>
 (zKQ a1.F_Wide a1.F_Lev)>>=fun r3=>
 (zBp (⟨j2,a0.F_e⟩:zAw) r3.1 r3.2)>>=fun r4=>
 (zGx a1.F_Neg)>>=fun r5=>
 (zBp (⟨r4.1,r4.2⟩:zAw) r5.1 r5.2)>>=fun r6=>
 some (r6.1,r6.2)
def zFq (a0:zAw) (a1:zAc):Option ((List Int)×Int):=
 (zFX a0.F_b [IntKind.u64.wrap a1.F_Scale])>>=fun r1=>
 (zGx a1.F_Neg)>>=fun r2=>
 (zBp (⟨r1,a0.F_e⟩:zAw) r2.1 r2.2)>>=fun r3=>
 some (r3.1,r3.2)
def zIs (a0:zAc):Option ((List Int)×Int):=
 (zC1 a0)>>=fun r1=>
 if r1=false then
  some ([],1)
 else
  (zFX [IntKind.u8.wrap a0.F_Scheme] [IntKind.u64.wrap a0.F_Dim])>>=fun r2=>
  ((
   if a0.F_Scheme=(0:Int) then
    (zCB (⟨r2,0⟩:zAw) a0)>>=fun r3=>
    some (r3.1,r3.2)
   else
    if a0.F_Scheme=(1:Int) then
     (zFI (⟨r2,0⟩:zAw) a0)>>=fun r4=>
     some (r4.1,r4.2)
    else
     if a0.F_Scheme=(2:Int) then
      (zEH (⟨r2,0⟩:zAw) a0)>>=fun r5=>
      some (r5.1,r5.2)
     else
      if a0.F_Scheme=(3:Int) then
       (zFq (⟨r2,0⟩:zAw) a0)>>=fun r6=>
       some (r6.1,r6.2)
      else
       none):Option ((List Int)×Int))>>=fun j7=>
  if j7.2≠0 then
   some ([],j7.2)
  else
   some (j7.1,0)
def zHY (a0:zAc):Option (Int×Int):=
 (zIs a0)>>=fun r1=>
 some ((r1.1.length:Int),r1.2)
def zBY (a0:Int):Option (List Int):=
 if a0<128 then
  some [IntKind.u8.wrap a0]
 else
  (zBY (IntKind.u64.wrap (Int.tdiv a0 128)))>>=fun r1=>
  if room 1 ([IntKind.u8.wrap ((IntKind.u8.wrap (Int.tmod a0 128))+128)]++r1).length then
   some ([IntKind.u8.wrap ((IntKind.u8.wrap (Int.tmod a0 128))+128)]++r1)
  else none
 partial_fixpoint
def zB0 (a1:List Int) (x0:Int) (x1:List Int):Option (List Int):=
 if x0<(a1.length:Int) then
  if 0≤x0∧x0<(a1.length:Int) then
   (zBY (at' a1 x0))>>=fun r1=>
   if room 1 (x1++r1).length then
    zB0 a1 (IntKind.i64.wrap (x0+1)) (x1++r1)
   else none
  else none
 else
  some x1
 partial_fixpoint
def zCg (a0:List Int) (a1:List Int):Option (List Int):=
 if room 1 (a0:List Int).length then
  (zB0 a1 0 a0)>>=fun j2=>
  some j2
 else none
def zGc (a0:Int):Option Int:=
 if a0<0 then
  some (IntKind.u64.wrap ((IntKind.u64.wrap (2*(IntKind.u64.wrap (IntKind.i64.wrap (0-(IntKind.i64.wrap (a0+1)))))))+1))
 else
  some (IntKind.u64.wrap (2*(IntKind.u64.wrap a0)))
def zBb (a1:List Int) (x0:Int) (x1:List Int):Option (List Int):=
 if x0<(a1.length:Int) then
  if 0≤x0∧x0<(a1.length:Int) then
   (zGc (at' a1 x0))>>=fun r1=>
   (zBY r1)>>=fun r2=>
   if room 1 (x1++r2).length then
    zBb a1 (IntKind.i64.wrap (x0+1)) (x1++r2)
   else none
  else none
 else
  some x1
 partial_fixpoint
def zDj (a0:List Int) (a1:List Int):Option (List Int):=
 if room 1 (a0:List Int).length then
  (zBb a1 0 a0)>>=fun j3=>
  some j3
 else none
def zB2 (a1:List Int) (x0:Int) (x1:Int) (x2:List Int):Option (List Int):=
 if x0<(a1.length:Int) then
  if 0≤x0∧x0<(a1.length:Int) then
   (zCg x2 [IntKind.u64.wrap (IntKind.i64.wrap ((IntKind.i64.wrap ((at' a1 x0)-x1))-1))])>>=fun r3=>
   zB2 a1 (IntKind.i64.wrap (x0+1)) (at' a1 x0) r3
  else none
 else
  some x2
 partial_fixpoint
def zGj (a0:Int) (a1:List Int):Option ((List Int)×Int):=
 (zDD a0 a1)>>=fun r1=>
 if r1≠0 then
  some ([],r1)
 else
  (zCg [] [IntKind.u64.wrap (a1.length:Int)])>>=fun r2=>
  (zB2 a1 0 (-1) r2)>>=fun j4=>
  some (j4,0)
def zE8 (a0:Int) (a1:Int):Option (Int×Int):=
 ((
  if a0<0 then
   some true
  else
   some (decide (a0>32))):Option Bool)>>=fun j1=>
 ((
  if j1=true then
   some true
  else
   some (decide (a1<0))):Option Bool)>>=fun j2=>
 if j2=true then
  some (0,1)
 else
  if a1>4096 then
   some (0,3)
  else
   some (IntKind.i64.wrap (Int.tdiv (IntKind.i64.wrap ((IntKind.i64.wrap (a0*a1))+7)) 8),0)
def zB3 (a0:Int) (a1:List Int) (x0:Int):Option (Sum Int Unit):=
 if x0<(a1.length:Int) then
  if 0≤x0∧x0<(a1.length:Int) then
   (zDy (at' a1 x0))>>=fun r2=>
   if r2>a0 then
    some (.inl 1)
   else
    zB3 a0 a1 (IntKind.i64.wrap (x0+1))
  else none
 else
  some (.inr ())
 partial_fixpoint
def zF6 (a0:Int) (a1:List Int):Option Int:=
 (zE8 a0 (a1.length:Int))>>=fun r1=>
 if r1.2≠0 then
  some r1.2
 else
  (zB3 a0 a1 0)>>=fun e=>match e with
  | .inl r=>some r
  | .inr j3=>
   some 0
def zBq (a0:List Bool) (x0:Int) (x1:List Int):Option (List Int):=
 if x0<(a0.length:Int) then
  if 0≤x0∧x0<(a0.length:Int) then
   if (at' a0 x0)=true then
    if 0≤IntKind.i64.wrap (Int.tdiv x0 8)∧IntKind.i64.wrap (Int.tdiv x0 8)<(x1.length:Int) then
     if 0≤Int.tmod x0 8 then
      if 0≤IntKind.i64.wrap (Int.tdiv x0 8)∧IntKind.i64.wrap (Int.tdiv x0 8)<(x1.length:Int) then
       some (x1.set (Int.toNat (IntKind.i64.wrap (Int.tdiv x0 8))) (IntKind.u8.wrap ((at' x1 (IntKind.i64.wrap (Int.tdiv x0 8)))+(sShr .u8 128 (Int.tmod x0 8)))))>>=fun y5=>
       zBq a0 (IntKind.i64.wrap (x0+1)) y5
      else none
     else none
    else none
   else
    zBq a0 (IntKind.i64.wrap (x0+1)) x1
  else none
 else
  some x1
 partial_fixpoint
def zDZ (a0:List Bool):Option (List Int):=
 some (IntKind.i64.wrap (Int.tdiv (IntKind.i64.wrap ((a0.length:Int)+7)) 8))>>=fun y1=>
 if 0≤y1∧y1≤y1∧y1≤140737488355328∧y1*((1:Nat):Int)≤140737488355328 then
  some (List.replicate (Int.toNat y1) 0)>>=fun y3=>
  (zBq a0 0 y3)>>=fun j7=>
  some j7
 else none
def zBC (a1:List Int) (x0:Int) (x0_:Int) (x1_:List Bool):Option (List Bool):=
 if x0_<(a1.length:Int) then
  if 0≤x0_∧x0_<(a1.length:Int) then
   if 0≤x0 then
    if room 1 (x1_++[(Int.tmod (sShr .u64 (at' a1 x0_) x0) 2)==1]).length then
     some (x1_++[(Int.tmod (sShr .u64 (at' a1 x0_) x0) 2)==1])>>=fun y2=>
     zBC a1 x0 (IntKind.i64.wrap (x0_+1)) y2
    else none
   else none
  else none
 else
  some x1_
 partial_fixpoint
def zBF (a1:List Int) (x0:Int) (x1:List Bool):Option (List Bool):=
 if x0≥0 then
  (zBC a1 x0 0 x1)>>=fun j4=>
  zBF a1 (IntKind.i64.wrap (x0-1)) j4
 else
  some x1
 partial_fixpoint
def zE3 (a0:Int) (a1:List Int):Option ((List Int)×Int):=
 (zF6 a0 a1)>>=fun r1=>
 if r1≠0 then
  some ([],r1)
 else
  (zBF a1 (IntKind.i64.wrap (a0-1)) [])>>=fun j5=>
  (zDZ j5)>>=fun r6=>
  some (r6,0)
def zDA (a0:List Bool):Option ((List Int)×Int):=
 if (a0.length:Int)>4096 then
  some ([],3)
 else
  (zDZ a0)>>=fun r1=>
  some (r1,0)
def zFv (a0:zAc):Option ((List Int)×Int):=
 (zBQ a0)>>=fun r1=>
 if r1=false then
  some ([],1)
 else
  (zCg [IntKind.u8.wrap a0.F_Scheme] [IntKind.u64.wrap a0.F_Dim])>>=fun r2=>
  if a0.F_Scheme=0 then
   (zDj r2 a0.F_V)>>=fun r3=>
   some (r3,0)
  else
   if a0.F_Scheme=1 then
    (zGj a0.F_Dim a0.F_L)>>=fun r4=>
    if room 1 (r2++r4.1).length then
     (zDj (r2++r4.1) a0.F_V)>>=fun r5=>
     some (r5,0)
    else none
   else
    (zCg r2 [IntKind.u64.wrap a0.F_Scale])>>=fun r6=>
    if a0.F_Scheme=2 then
     (zE3 a0.F_Wide a0.F_Lev)>>=fun r7=>
     if room 1 (r6++[IntKind.u8.wrap a0.F_Wide]).length then
      some (r6++[IntKind.u8.wrap a0.F_Wide])>>=fun y8=>
      if room 1 (y8++r7.1).length then
       (zDA a0.F_Neg)>>=fun r10=>
       if room 1 ((y8++r7.1)++r10.1).length then
        some ((y8++r7.1)++r10.1,0)
       else none
      else none
     else none
    else
     (zDA a0.F_Neg)>>=fun r11=>
     if room 1 (r6++r11.1).length then
      some (r6++r11.1,0)
     else none
def zE0 (a0:zAc):Option (Int×Int):=
 (zFv a0)>>=fun r1=>
 some ((r1.1.length:Int),r1.2)
def zJv (a0:zAi) (a1:List Int) (a2:zAc):Option Bool:=
 (zAT a1 a2.F_V)>>=fun r1=>
 some r1
def zME (a0:Int) (a1:List Int) (a2:zAc):Option Bool:=
 (zDF a0 a1)>>=fun r1=>
 ((
  if r1.2.2.2.2.2.2≠0 then
   some true
  else
   (zBw r1.2.2.1 a2.F_L)>>=fun r2=>
   some (!r2)):Option Bool)>>=fun j3=>
 ((
  if j3=true then
   some true
  else
   (zAT r1.2.2.2.1 a2.F_V)>>=fun r4=>
   some (!r4)):Option Bool)>>=fun j5=>
 if j5=true then
  some false
 else
  ((
   if a2.F_Scheme=r1.1 then
    some (a2.F_Dim==r1.2.1)
   else
    some false):Option Bool)>>=fun j6=>
  ((
   if j6=true then
    some (a2.F_Scale==0)
   else
    some false):Option Bool)>>=fun j7=>
  ((
   if j7=true then
    some (a2.F_Wide==0)
   else
    some false):Option Bool)>>=fun j8=>
  ((
   if j8=true then
    some ((IntKind.i64.wrap ((a2.F_Lev.length:Int)+(a2.F_Neg.length:Int)))==0)
   else
    some false):Option Bool)>>=fun j9=>
  some j9
def zI7 (a0:zAi) (a1:List Int) (a2:zAc):Option Bool:=
 (zME a0.F_K a1 a2)>>=fun r1=>
 some r1
def zGd (a0:Int) (a1:List Int) (a2:Int) (a3:Int) (a4:Int) (a5:List Int) (a6:List Int) (a7:Int) (a8:Int) (a9:List Int) (a10:List Bool):Option Bool:=
 if 0≤a0∧a0<(a1.length:Int) then
  (zGp (at' a1 a0) a2 a8)>>=fun r1=>
  if 0≤a0∧a0<(a9.length:Int) then
   if r1.2.2≠0 then
    some true
   else
    if 0≤a0∧a0<(a10.length:Int) then
     if 0≤a0∧a0<(a1.length:Int) then
      if (at' a10 a0)≠(decide ((at' a1 a0)<0)) then
       some true
      else
       if (IntKind.u64.wrap ((at' a9 a0)-r1.1))>1 then
        some true
       else
        if (IntKind.u64.wrap ((at' a9 a0)-r1.1))=1 then
         some (r1.2.1==0)
        else
         some false
     else none
    else none
  else none
 else none
def zC9 (a0:List Int) (a1:zAc) (r1:Int×Int) (x0:Int):Option (Sum Bool Unit):=
 if x0<(a0.length:Int) then
  (zGd x0 a0 r1.1 a1.F_Scheme a1.F_Dim a1.F_L a1.F_V a1.F_Scale a1.F_Wide a1.F_Lev a1.F_Neg)>>=fun r7=>
  if r7=true then
   some (.inl false)
  else
   zC9 a0 a1 r1 (IntKind.i64.wrap (x0+1))
 else
  some (.inr ())
 partial_fixpoint
def zII (a0:List Int) (a1:zAc):Option Bool:=
 (zIA a0)>>=fun r1=>
 ((
  if r1.2≠0 then
   some true
  else
   (zC1 a1)>>=fun r2=>
   some (!r2)):Option Bool)>>=fun j3=>
 ((
  if j3=true then
   some true
  else
   some (a1.F_Scheme !=2)):Option Bool)>>=fun j4=>
 ((
  if j4=true then
   some true
  else
   some (a1.F_Dim !=(a0.length:Int))):Option Bool)>>=fun j5=>
 ((
  if j5=true then
   some true
  else
   some (a1.F_Scale !=r1.1)):Option Bool)>>=fun j6=>
 if j6=true then
  some false
 else
  (zC9 a0 a1 r1 0)>>=fun e=>match e with
  | .inl r=>some r
  | .inr j8=>
   some true
def zJx (a0:zAi) (a1:List Int) (a2:zAc):Option Bool:=
 ((
  if a2.F_Wide=a0.F_Wide then
   (zII a1 a2)>>=fun r1=>
   some r1
  else
   some false):Option Bool)>>=fun j2=>
 some j2
def zMM (a0:List Int) (a1:zAc):Option Bool:=
 (zG5 a0)>>=fun r1=>
 ((
  if r1.2.2.2.2.2=0 then
   (zC1 a1)>>=fun r2=>
   some r2
  else
   some false):Option Bool)>>=fun j3=>
 ((
  if j3=true then
   some (a1.F_Scheme==3)
  else
   some false):Option Bool)>>=fun j4=>
 ((
  if j4=true then
   some (a1.F_Scale==r1.2.2.1)
  else
   some false):Option Bool)>>=fun j5=>
 ((
  if j5=true then
   (zCu a1.F_Neg r1.2.2.2.2.1)>>=fun r6=>
   some r6
  else
   some false):Option Bool)>>=fun j7=>
 some j7
def zIK (a0:zAi) (a1:List Int) (a2:zAc):Option Bool:=
 (zMM a1 a2)>>=fun r1=>
 some r1
def zHV (a0:zAi) (a1:List Int) (a2:zAc):Option Bool:=
 (zGn a0 (a1.length:Int))>>=fun r1=>
 if r1=0 then
  (zC1 a2)>>=fun r2=>
  if r2=true then
   if a2.F_Scheme=a0.F_Scheme then
    (zC4)>>=fun r3=>
    if a0.F_Scheme=(0:Int) then
     (zJv a0 a1 a2)>>=fun r4=>
     some r4
    else
     if a0.F_Scheme=(1:Int) then
      (zI7 a0 a1 a2)>>=fun r5=>
      some r5
     else
      if a0.F_Scheme=(2:Int) then
       (zJx a0 a1 a2)>>=fun r6=>
       some r6
      else
       if a0.F_Scheme=(3:Int) then
        (zIK a0 a1 a2)>>=fun r7=>
        some r7
       else
        none
   else
    some false
  else
   some false
 else
  some false
def zEU (a0:zAi) (a1:Int):Option Int:=
 ((
  if a1≥1 then
   some (decide (a1≤4096))
  else
   some false):Option Bool)>>=fun j1=>
 ((
  if a0.F_Scheme=0 then
   some true
  else
   some (a0.F_Scheme==3)):Option Bool)>>=fun j2=>
 if j2=true then
  ((
   if j1=true then
    some (a0.F_K==0)
   else
    some false):Option Bool)>>=fun j3=>
  ((
   if j3=true then
    some (a0.F_Wide==0)
   else
    some false):Option Bool)>>=fun j4=>
  if j4=false then
   some 1
  else
   some 0
 else
  if a0.F_Scheme=1 then
   ((
    if j1=true then
     some (decide (a0.F_K≥0))
    else
     some false):Option Bool)>>=fun j5=>
   ((
    if j5=true then
     some (decide (a0.F_K≤a1))
    else
     some false):Option Bool)>>=fun j6=>
   ((
    if j6=true then
     some (a0.F_Wide==0)
    else
     some false):Option Bool)>>=fun j7=>
   if j7=false then
    some 1
   else
    some 0
  else
   if a0.F_Scheme=2 then
    ((
     if j1=true then
      some (a0.F_K==0)
     else
      some false):Option Bool)>>=fun j8=>
    ((
     if j8=true then
      some (decide (a0.F_Wide≥1))
     else
      some false):Option Bool)>>=fun j9=>
    ((
     if j9=true then
      some (decide (a0.F_Wide≤8))
     else
      some false):Option Bool)>>=fun j10=>
    if j10=false then
     some 1
    else
     some 0
   else
    some 1
def zBX (a0:Int):Option Int:=
 if a0<0 then
  some (IntKind.u64.wrap ((IntKind.u64.wrap (IntKind.i64.wrap (0-(IntKind.i64.wrap (a0+1)))))+1))
 else
  some (IntKind.u64.wrap a0)
def zE5 (a0:List Int) (a1:Int) (a2:Int):Option Bool:=
 if 0≤a1∧a1<(a0.length:Int) then
  (zBX (at' a0 a1))>>=fun r1=>
  if 0≤a2∧a2<(a0.length:Int) then
   (zBX (at' a0 a2))>>=fun r2=>
   if r1>r2 then
    some true
   else
    if r1=r2 then
     some (decide (a1<a2))
    else
     some false
  else none
 else none
def zBh (a0:List Int) (x0:Int) (x1:List Int) (x0_:Int) (x1_:Int):Option Int:=
 if x0_<(a0.length:Int) then
  (zE5 a0 x0_ x0)>>=fun r3=>
  if r3=true then
   zBh a0 x0 x1 (IntKind.i64.wrap (x0_+1)) (IntKind.i64.wrap (x1_+1))
  else
   zBh a0 x0 x1 (IntKind.i64.wrap (x0_+1)) x1_
 else
  some x1_
 partial_fixpoint
def zBD (a0:List Int) (x0:Int) (x1:List Int):Option (List Int):=
 if x0<(a0.length:Int) then
  (zBh a0 x0 x1 0 0)>>=fun j4=>
  if 0≤j4∧j4<(x1.length:Int) then
   zBD a0 (IntKind.i64.wrap (x0+1)) (x1.set (Int.toNat j4) x0)
  else none
 else
  some x1
 partial_fixpoint
def zDI (a0:List Int):Option ((List Int)×Int):=
 if (a0.length:Int)>4096 then
  some ([],3)
 else
  if 0≤(a0.length:Int)∧(a0.length:Int)≤(a0.length:Int)∧(a0.length:Int)≤140737488355328∧(a0.length:Int)*((8:Nat):Int)≤140737488355328 then
   some (List.replicate (Int.toNat (a0.length:Int)) 0)>>=fun y1=>
   (zBD a0 0 y1)>>=fun j5=>
   some (j5,0)
  else none
def zCk (a0:List Int) (a1:Int) (x0:Int):Option (Sum Bool Unit):=
 if x0<(a0.length:Int) then
  if 0≤x0∧x0<(a0.length:Int) then
   if (at' a0 x0)=a1 then
    some (.inl true)
   else
    zCk a0 a1 (IntKind.i64.wrap (x0+1))
  else none
 else
  some (.inr ())
 partial_fixpoint
def zGW (a0:List Int) (a1:Int):Option Bool:=
 (zCk a0 a1 0)>>=fun e=>match e with
 | .inl r=>some r
 | .inr j1=>
  some false
def zBl (a0:List (List Int)) (x0:Int) (x0_:Int) (x1_:List Int) (x0__:Int) (x1__:List Int):Option (List Int):=
 if x0__<(x1_.length:Int) then
  if 0≤x0__∧x0__<(x1_.length:Int) then
   if (at' x1_ x0__)<(at' (at' a0 x0) x0_) then
    if room 8 (x1__++[at' x1_ x0__]).length then
     zBl a0 x0 x0_ x1_ (IntKind.i64.wrap (x0__+1)) (x1__++[at' x1_ x0__])
    else none
   else
    zBl a0 x0 x0_ x1_ (IntKind.i64.wrap (x0__+1)) x1__
  else none
 else
  some x1__
 partial_fixpoint
def zBg (a0:List (List Int)) (x0:Int) (x0_:Int) (x1_:List Int) (x0__:Int) (x1__:List Int):Option (List Int):=
 if x0__<(x1_.length:Int) then
  if 0≤x0__∧x0__<(x1_.length:Int) then
   if (at' x1_ x0__)>(at' (at' a0 x0) x0_) then
    if room 8 (x1__++[at' x1_ x0__]).length then
     zBg a0 x0 x0_ x1_ (IntKind.i64.wrap (x0__+1)) (x1__++[at' x1_ x0__])
    else none
   else
    zBg a0 x0 x0_ x1_ (IntKind.i64.wrap (x0__+1)) x1__
  else none
 else
  some x1__
 partial_fixpoint
def zBf (a0:List (List Int)) (x0:Int) (x0_:Int) (x1_:List Int):Option (List Int):=
 if x0_<((at' a0 x0).length:Int) then
  if 0≤x0_∧x0_<((at' a0 x0).length:Int) then
   (zGW x1_ (at' (at' a0 x0) x0_))>>=fun r1=>
   if r1=true then
    zBf a0 x0 (IntKind.i64.wrap (x0_+1)) x1_
   else
    (zBl a0 x0 x0_ x1_ 0 [])>>=fun j2=>
    if room 8 (j2++[at' (at' a0 x0) x0_]).length then
     some (j2++[at' (at' a0 x0) x0_])>>=fun y3=>
     (zBg a0 x0 x0_ x1_ 0 y3)>>=fun j5=>
     zBf a0 x0 (IntKind.i64.wrap (x0_+1)) j5
    else none
  else none
 else
  some x1_
 partial_fixpoint
def zBK (a0:List (List Int)) (x0:Int) (x1:List Int):Option (List Int):=
 if x0<(a0.length:Int) then
  if 0≤x0∧x0<(a0.length:Int) then
   (zBf a0 x0 0 x1)>>=fun j6=>
   zBK a0 (IntKind.i64.wrap (x0+1)) j6
  else none
 else
  some x1
 partial_fixpoint
def zER (a0:List (List Int)):Option (List Int):=
 (zBK a0 0 [])>>=fun j7=>
 some j7
def zDf (a0:Int) (a1:List Int):Option ((List Int)×Int):=
 (zDI a1)>>=fun r1=>
 if r1.2≠0 then
  some ([],r1.2)
 else
  ((
   if a0<0 then
    some true
   else
    some (decide (a0>(a1.length:Int)))):Option Bool)>>=fun j2=>
  if j2=true then
   some ([],1)
  else
   if cutOk none (some a0) r1.1.length then
    (zER [cut' r1.1 none (some a0)])>>=fun r3=>
    some (r3,0)
   else none
def zBE (a1:List Int) (r1:(List Int)×Int) (x0:Int) (x1:List Int):Option (List Int):=
 if x0<(r1.1.length:Int) then
  if 0≤x0∧x0<(r1.1.length:Int) then
   if 0≤at' r1.1 x0∧at' r1.1 x0<(a1.length:Int) then
    if room 8 (x1++[at' a1 (at' r1.1 x0)]).length then
     some (x1++[at' a1 (at' r1.1 x0)])>>=fun y2=>
     zBE a1 r1 (IntKind.i64.wrap (x0+1)) y2
    else none
   else none
  else none
 else
  some x1
 partial_fixpoint
def zDE (a0:Int) (a1:List Int):Option (Int×Int×(List Int)×(List Int)×Int×Int×Int):=
 if (a1.length:Int)=0 then
  some (0,0,[],[],0,0,1)
 else
  (zDf a0 a1)>>=fun r1=>
  if r1.2≠0 then
   some (0,0,[],[],0,0,r1.2)
  else
   (zBE a1 r1 0 [])>>=fun j4=>
   some (1,(a1.length:Int),r1.1,j4,0,0,0)
def zCR (a0:List Int) (a1:List Int) (x0:Int):Option (Sum Bool Unit):=
 if x0<(a0.length:Int) then
  if 0≤x0∧x0<(a0.length:Int) then
   if 0≤x0∧x0<(a1.length:Int) then
    if (at' a0 x0)≠(at' a1 x0) then
     some (.inl false)
    else
     zCR a0 a1 (IntKind.i64.wrap (x0+1))
   else none
  else none
 else
  some (.inr ())
 partial_fixpoint
def zEP (a0:List Int) (a1:List Int):Option Bool:=
 if (a0.length:Int)≠(a1.length:Int) then
  some false
 else
  (zCR a0 a1 0)>>=fun e=>match e with
  | .inl r=>some r
  | .inr j1=>
   some true
def zBN (a0:List Int) (a1:List Int) (x0:Int):Option (Sum Bool Unit):=
 if x0<(a0.length:Int) then
  if 0≤x0∧x0<(a0.length:Int) then
   if 0≤x0∧x0<(a1.length:Int) then
    if (at' a0 x0)≠(at' a1 x0) then
     some (.inl false)
    else
     zBN a0 a1 (IntKind.i64.wrap (x0+1))
   else none
  else none
 else
  some (.inr ())
 partial_fixpoint
def zC7 (a0:List Int) (a1:List Int):Option Bool:=
 if (a0.length:Int)≠(a1.length:Int) then
  some false
 else
  (zBN a0 a1 0)>>=fun e=>match e with
  | .inl r=>some r
  | .inr j1=>
   some true
def zB8 (a0:List Bool) (a1:List Bool) (x0:Int):Option (Sum Bool Unit):=
 if x0<(a0.length:Int) then
  if 0≤x0∧x0<(a0.length:Int) then
   if 0≤x0∧x0<(a1.length:Int) then
    if (at' a0 x0)≠(at' a1 x0) then
     some (.inl false)
    else
     zB8 a0 a1 (IntKind.i64.wrap (x0+1))
   else none
  else none
 else
  some (.inr ())
 partial_fixpoint
def zDv (a0:List Bool) (a1:List Bool):Option Bool:=
 if (a0.length:Int)≠(a1.length:Int) then
  some false
 else
  (zB8 a0 a1 0)>>=fun e=>match e with
  | .inl r=>some r
  | .inr j1=>
   some true
def zCU (a0:zAc) (a1:zAc):Option Bool:=
 ((
  if a0.F_Scheme=a1.F_Scheme then
   some (a0.F_Dim==a1.F_Dim)
  else
   some false):Option Bool)>>=fun j1=>
 ((
  if j1=true then
   (zEP a0.F_L a1.F_L)>>=fun r2=>
   some r2
  else
   some false):Option Bool)>>=fun j3=>
 ((
  if j3=true then
   (zBm a0.F_V a1.F_V)>>=fun r4=>
   some r4
  else
   some false):Option Bool)>>=fun j5=>
 ((
  if j5=true then
   some (a0.F_Scale==a1.F_Scale)
  else
   some false):Option Bool)>>=fun j6=>
 ((
  if j6=true then
   some (a0.F_Wide==a1.F_Wide)
  else
   some false):Option Bool)>>=fun j7=>
 ((
  if j7=true then
   (zC7 a0.F_Lev a1.F_Lev)>>=fun r8=>
   some r8
  else
   some false):Option Bool)>>=fun j9=>
 ((
  if j9=true then
   (zDv a0.F_Neg a1.F_Neg)>>=fun r10=>
   some r10
  else
   some false):Option Bool)>>=fun j11=>
 some j11
def zGV (a0:Int) (a1:List Int) (a2:zAc):Option Bool:=
 (zDE a0 a1)>>=fun r1=>
 ((
  if r1.2.2.2.2.2.2=0 then
   (zCU (⟨r1.1,r1.2.1,r1.2.2.1,r1.2.2.2.1,r1.2.2.2.2.1,r1.2.2.2.2.2.1,[],[]⟩:zAc) a2)>>=fun r2=>
   some r2
  else
   some false):Option Bool)>>=fun j3=>
 some j3
def zH7 (a0:Int):Option (Int×Int):=
 (zDn 0 a0)>>=fun r1=>
 some (r1.1,r1.2)
def zEt (a0:Int):Option (Int×Int):=
 if a0<0 then
  (zH7 a0)>>=fun r1=>
  some (r1.1,r1.2)
 else
  some (a0,0)
def zBU (a0:List Int) (x0:Int) (x1:Int):Option (Sum (Int×Int) Int):=
 if x0<(a0.length:Int) then
  if 0≤x0∧x0<(a0.length:Int) then
   (zEt (at' a0 x0))>>=fun r1=>
   if r1.2≠0 then
    some (.inl (0,r1.2))
   else
    zBU a0 (IntKind.i64.wrap (x0+1)) (if r1.1>x1 then r1.1 else x1)
  else none
 else
  some (.inr x1)
 partial_fixpoint
def zFt (a0:List Int):Option (Int×Int):=
 if (a0.length:Int)>4096 then
  some (0,3)
 else
  (zBU a0 0 0)>>=fun e=>match e with
  | .inl r=>some r
  | .inr j2=>
   some (j2,0)
def zBj (a0:Int) (a1:Int) (r1:Int×Int) (x0:Int) (x1:Int) (x2:Int):Option (Int×Int):=
 if x0<r1.1 then
  (zBX a0)>>=fun r5=>
  if (IntKind.u64.wrap (x1+r5))≥(IntKind.u64.wrap a1) then
   some (IntKind.u64.wrap ((IntKind.u64.wrap (x1+r5))-(IntKind.u64.wrap a1)))>>=fun y6=>
   zBj a0 a1 r1 (IntKind.u64.wrap (x0+1)) y6 (IntKind.u64.wrap (x2+1))
  else
   zBj a0 a1 r1 (IntKind.u64.wrap (x0+1)) (IntKind.u64.wrap (x1+r5)) x2
 else
  some (x1,x2)
 partial_fixpoint
def zET (a0:Int) (a1:Int) (a2:Int):Option (Int×Int×Int):=
 (zDN a2)>>=fun r1=>
 ((
  if r1.2≠0 then
   some true
  else
   some (decide (a1<0))):Option Bool)>>=fun j2=>
 ((
  if j2=true then
   some true
  else
   (zBX a0)>>=fun r3=>
   some (decide (r3>(IntKind.u64.wrap a1)))):Option Bool)>>=fun j4=>
 if j4=true then
  some (0,0,1)
 else
  if a1=0 then
   some (0,0,0)
  else
   (zBj a0 a1 r1 0 0 0)>>=fun j8=>
   some (j8.2,j8.1,0)
def zBs (a0:List Int) (a1:zAc) (r1:Int×Int) (x0:Int):Option (Sum Bool Unit):=
 if x0<(a0.length:Int) then
  if 0≤x0∧x0<(a0.length:Int) then
   (zET (at' a0 x0) r1.1 a1.F_Wide)>>=fun r7=>
   if 0≤x0∧x0<(a1.F_Neg.length:Int) then
    if (at' a1.F_Neg x0)≠(decide ((at' a0 x0)<0)) then
     some (.inl false)
    else
     if 0≤x0∧x0<(a1.F_Lev.length:Int) then
      if (at' a1.F_Lev x0)≠r7.1 then
       if r7.2.1=0 then
        some (.inl false)
       else
        if 0≤x0∧x0<(a1.F_Lev.length:Int) then
         if (at' a1.F_Lev x0)≠(IntKind.u64.wrap (r7.1+1)) then
          some (.inl false)
         else
          zBs a0 a1 r1 (IntKind.i64.wrap (x0+1))
        else none
      else
       zBs a0 a1 r1 (IntKind.i64.wrap (x0+1))
     else none
   else none
  else none
 else
  some (.inr ())
 partial_fixpoint
def zFD (a0:List Int) (a1:zAc):Option Bool:=
 (zFt a0)>>=fun r1=>
 ((
  if r1.2≠0 then
   some true
  else
   (zBQ a1)>>=fun r2=>
   some (!r2)):Option Bool)>>=fun j3=>
 ((
  if j3=true then
   some true
  else
   some (a1.F_Scheme !=2)):Option Bool)>>=fun j4=>
 ((
  if j4=true then
   some true
  else
   some (a1.F_Dim !=(a0.length:Int))):Option Bool)>>=fun j5=>
 ((
  if j5=true then
   some true
  else
   some (a1.F_Scale !=r1.1)):Option Bool)>>=fun j6=>
 if j6=true then
  some false
 else
  (zBs a0 a1 r1 0)>>=fun e=>match e with
  | .inl r=>some r
  | .inr j8=>
   some true
def zDq (a0:Int) (a1:Int):Option (Int×Int):=
 ((
  if a1>0 then
   some (decide (a0>(IntKind.i64.wrap (9223372036854775807-a1))))
  else
   some false):Option Bool)>>=fun j1=>
 if j1=true then
  some (0,2)
 else
  if a1<0 then
   if a0<(IntKind.i64.wrap ((-9223372036854775808)-a1)) then
    some (0,2)
   else
    some (IntKind.i64.wrap (a0+a1),0)
  else
   some (IntKind.i64.wrap (a0+a1),0)
def zBT (a0:List Int) (x0:Int) (x1:Int):Option (Sum (Int×Int) Int):=
 if x0<(a0.length:Int) then
  if 0≤x0∧x0<(a0.length:Int) then
   (zEt (at' a0 x0))>>=fun r1=>
   if r1.2≠0 then
    some (.inl (0,r1.2))
   else
    (zDq x1 r1.1)>>=fun r2=>
    if r2.2≠0 then
     some (.inl (0,r2.2))
    else
     zBT a0 (IntKind.i64.wrap (x0+1)) r2.1
  else none
 else
  some (.inr x1)
 partial_fixpoint
def zFy (a0:List Int):Option (Int×Int):=
 if (a0.length:Int)>4096 then
  some (0,3)
 else
  (zBT a0 0 0)>>=fun e=>match e with
  | .inl r=>some r
  | .inr j3=>
   some (j3,0)
def zFu (a0:List Int):Option (Int×Int):=
 if (a0.length:Int)=0 then
  some (0,1)
 else
  (zFy a0)>>=fun r1=>
  if r1.2≠0 then
   some (0,r1.2)
  else
   if (a0.length:Int)≠0 then
    some (IntKind.i64.wrap (Int.tdiv r1.1 (a0.length:Int)),0)
   else none
def zBB (a0:List Int) (r1:Int×Int) (x0:Int) (x1:List Bool):Option (List Bool):=
 if x0<(a0.length:Int) then
  if 0≤x0∧x0<(a0.length:Int) then
   if room 1 (x1++[decide ((at' a0 x0)<0)]).length then
    some (x1++[decide ((at' a0 x0)<0)])>>=fun y2=>
    zBB a0 r1 (IntKind.i64.wrap (x0+1)) y2
   else none
  else none
 else
  some x1
 partial_fixpoint
def zEQ (a0:List Int):Option (Int×Int×Int×Int×(List Bool)×Int):=
 (zFu a0)>>=fun r1=>
 if r1.2≠0 then
  some (0,0,0,0,[],r1.2)
 else
  (zBB a0 r1 0 [])>>=fun j4=>
  some (3,(a0.length:Int),r1.1,0,j4,0)
def zGP (a0:List Int) (a1:zAc):Option Bool:=
 (zEQ a0)>>=fun r1=>
 ((
  if r1.2.2.2.2.2=0 then
   (zCU (⟨r1.1,r1.2.1,[],[],r1.2.2.1,r1.2.2.2.1,[],r1.2.2.2.2.1⟩:zAc) a1)>>=fun r2=>
   some r2
  else
   some false):Option Bool)>>=fun j3=>
 some j3
def zEW (a0:zAi) (a1:List Int) (a2:zAc):Option Bool:=
 (zEU a0 (a1.length:Int))>>=fun r1=>
 ((
  if r1≠0 then
   some true
  else
   (zBQ a2)>>=fun r2=>
   some (!r2)):Option Bool)>>=fun j3=>
 ((
  if j3=true then
   some true
  else
   some (a2.F_Scheme !=a0.F_Scheme)):Option Bool)>>=fun j4=>
 if j4=true then
  some false
 else
  if a0.F_Scheme=1 then
   (zGV a0.F_K a1 a2)>>=fun r5=>
   some r5
  else
   if a0.F_Scheme=2 then
    ((
     if a2.F_Wide=a0.F_Wide then
      (zFD a1 a2)>>=fun r6=>
      some r6
     else
      some false):Option Bool)>>=fun j7=>
    some j7
   else
    if a0.F_Scheme=3 then
     (zGP a1 a2)>>=fun r8=>
     some r8
    else
     (zBm a2.F_V a1)>>=fun r9=>
     some r9
def zAW (a0:zAi) (a1:List Int) (a2:zAc) (r1:Bool) (r5:(List Int)×Int) (r6:(List Int)×Int) (x0:Int) (x1:List Int):Option Unit:=
 if x0<(r5.1.length:Int) then
  if 0≤x0∧x0<(x1.length:Int) then
   if 0≤x0∧x0<(x1.length:Int) then
    some (x1.set (Int.toNat x0) (IntKind.i64.wrap ((at' x1 x0)+1)))>>=fun y18=>
    zAW a0 a1 a2 r1 r5 r6 (IntKind.i64.wrap (x0+1)) y18
   else none
  else none
 else
  some ()
 partial_fixpoint
def zD8 (a0:zAi) (a1:List Int) (a2:zAc):Option Bool:=
 (zFC)>>=fun r1=>
 if r1=false then
  some false
 else
  (zGe [] [a1])>>=fun r2=>
  ((
   if r2=false then
    some true
   else
    (zGb a2)>>=fun r3=>
    some r3):Option Bool)>>=fun j4=>
  if j4=true then
   some r1
  else
   (zEc a2)>>=fun r5=>
   (zDi a2)>>=fun r6=>
   (zHd a1 a2)>>=fun r7=>
   (zFE a1 a2)>>=fun r8=>
   (zHY a2)>>=fun r9=>
   (zE0 a2)>>=fun r10=>
   (zBm r5.1 r6.1)>>=fun r11=>
   ((
    if r11=false then
     some true
    else
     some (r5.2 !=r6.2)):Option Bool)>>=fun j12=>
   ((
    if j12=true then
     some true
    else
     (zBm r7.1 r8.1)>>=fun r13=>
     some (!r13)):Option Bool)>>=fun j14=>
   ((
    if j14=true then
     some true
    else
     some (r7.2 !=r8.2)):Option Bool)>>=fun j15=>
   ((
    if j15=true then
     some true
    else
     some (r9.1 !=r10.1)):Option Bool)>>=fun j16=>
   ((
    if j16=true then
     some true
    else
     some (r9.2 !=r10.2)):Option Bool)>>=fun j17=>
   if j17=true then
    some false
   else
    (zAW a0 a1 a2 r1 r5 r6 0 r5.1)>>=fun j20=>
    (zEc a2)>>=fun r21=>
    if r1=true then
     (zBm r21.1 r6.1)>>=fun r22=>
     if r22=true then
      if r21.2=r6.2 then
       (zHV a0 a1 a2)>>=fun r23=>
       (zEW a0 a1 a2)>>=fun r24=>
       some (r23==r24)
      else
       some false
     else
      some false
    else
     some false
def zDk (a0:List Int) (a1:List Int) (x0:Int) (x1:List Int):Option (Sum ((List Int)×Int) (List Int)):=
 if x0<(a0.length:Int) then
  if 0≤x0∧x0<(a0.length:Int) then
   if 0≤x0∧x0<(a1.length:Int) then
    (zDq (at' a0 x0) (at' a1 x0))>>=fun r2=>
    if r2.2≠0 then
     some (.inl ([],r2.2))
    else
     if room 8 (x1++[r2.1]).length then
      zDk a0 a1 (IntKind.i64.wrap (x0+1)) (x1++[r2.1])
     else none
   else none
  else none
 else
  some (.inr x1)
 partial_fixpoint
def zLR (a0:List Int) (a1:List Int):Option ((List Int)×Int):=
 (zEg a0 a1)>>=fun r1=>
 if r1≠0 then
  some ([],r1)
 else
  (zDk a0 a1 0 [])>>=fun e=>match e with
  | .inl r=>some r
  | .inr j3=>
   some (j3,0)
end Go.Proofs.YtdgdgfckcnjpfaaGreat.Abs
