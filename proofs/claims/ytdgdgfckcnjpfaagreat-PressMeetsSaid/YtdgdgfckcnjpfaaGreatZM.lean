/- Models of functions, printed by a program. Conditions: none. -/
import Derived.Test.YtdgdgfckcnjpfaaGreatCrcD
import Derived.Test.YtdgdgfckcnjpfaaGreatSrtS
import Derived.Test.YtdgdgfckcnjpfaaGreatAbs5
namespace Go.Proofs.YtdgdgfckcnjpfaaGreat.Abs
open Go Go.RowKit
set_option linter.unusedVariables false
set_option maxRecDepth 100000
structure zAk where
 F_Scheme:Int
 F_K:Int
 F_Wide:Int
 deriving Inhabited,DecidableEq
structure zAc where
 F_Scheme:Int
 F_Dim:Int
 F_L:List Int
 F_V:List Int
 F_Scale:Int
 F_Wide:Int
 F_Lev:List Int
 F_Neg:List Bool
 deriving Inhabited,DecidableEq
structure zAa where
 F_place:Int
 F_size:Int
 deriving Inhabited,DecidableEq
structure zAu where
 F_b:List Int
 F_e:Int
 deriving Inhabited,DecidableEq
structure zAE where
 F_Kind:Int
 F_From:Int
 F_Step:Int
 F_S:zAc
 deriving Inhabited,DecidableEq
structure zAh where
 F_b:List Int
 F_at:Int
 deriving Inhabited,DecidableEq
structure zAe where
 F_text:zAh
 F_bad:Bool
 deriving Inhabited,DecidableEq
def zAk.en (x:zAk):D:= .agg [.int .i64 x.F_Scheme, .int .i64 x.F_K, .int .i64 x.F_Wide]
def zAc.en (x:zAc):D:= .agg [.int .i64 x.F_Scheme, .int .i64 x.F_Dim, .lst (List.map (D.int .i64) x.F_L), .lst (List.map (D.int .i64) x.F_V), .int .i64 x.F_Scale, .int .i64 x.F_Wide, .lst (List.map (D.int .u64) x.F_Lev), .lst (List.map D.bool x.F_Neg)]
def zAa.en (x:zAa):D:= .agg [.int .i64 x.F_place, .int .u64 x.F_size]
def zAu.en (x:zAu):D:= .agg [.lst (List.map (D.int .u8) x.F_b), .int .i64 x.F_e]
def zAE.en (x:zAE):D:= .agg [.int .i64 x.F_Kind, .int .i64 x.F_From, .int .i64 x.F_Step, .int .i64 x.F_S.F_Scheme, .int .i64 x.F_S.F_Dim, .lst (List.map (D.int .i64) x.F_S.F_L), .lst (List.map (D.int .i64) x.F_S.F_V), .int .i64 x.F_S.F_Scale, .int .i64 x.F_S.F_Wide, .lst (List.map (D.int .u64) x.F_S.F_Lev), .lst (List.map D.bool x.F_S.F_Neg)]
def zAh.en (x:zAh):D:= .agg [.lst (List.map (D.int .u8) x.F_b), .int .i64 x.F_at]
def zAe.en (x:zAe):D:= .agg [.lst (List.map (D.int .u8) x.F_text.F_b), .int .i64 x.F_text.F_at, .bool x.F_bad]
def zIl (a0:List Int) (a1:List Int):Option Int:=
 if (if (a1.length:Int)>(a0.length:Int) then (a1.length:Int) else (a0.length:Int))>4096 then
  some 3
 else
  if (a0.length:Int)≠(a1.length:Int) then
   some 4
  else
   some 0
def zJP (a0:Int) (a1:Int):Option (Int×Int):=
 if (bAnd .i64 (bXor .i64 a0 (IntKind.i64.wrap (a0+a1))) (bXor .i64 a1 (IntKind.i64.wrap (a0+a1))))<0 then
  some (0,2)
 else
  some (IntKind.i64.wrap (a0+a1),0)
def zEN (a0:Int) (a1:List Int) (a2:List Int):Option (Int×Int):=
 if 0≤a0∧a0<(a1.length:Int) then
  if 0≤a0∧a0<(a2.length:Int) then
   (zJP (at' a1 a0) (at' a2 a0))>>=fun r1=>
   some (r1.1,r1.2)
  else none
 else none
def zBB (a1:List Int) (a2:List Int) (y1:List Int) (x0:Int) (x1:List Int):Option (Sum ((List Int)×Int) (List Int)):=
 if x0<(y1.length:Int) then
  (zEN x0 a1 a2)>>=fun r3=>
  if 0≤x0∧x0<(x1.length:Int) then
   some (x1.set (Int.toNat x0) r3.1)>>=fun y4=>
   if r3.2≠0 then
    some (.inl ([],r3.2))
   else
    zBB a1 a2 y1 (IntKind.i64.wrap (x0+1)) y4
  else none
 else
  some (.inr x1)
 partial_fixpoint
def zFR (a0:Int) (a1:List Int) (a2:List Int):Option ((List Int)×Int):=
 if 0≤a0∧a0≤a0∧a0≤140737488355328∧a0*((8:Nat):Int)≤140737488355328 then
  some (List.replicate (Int.toNat a0) 0)>>=fun y1=>
  (zBB a1 a2 y1 0 y1)>>=fun e=>match e with
  | .inl r=>some r
  | .inr j6=>
   some (j6,0)
 else none
def zKb (a0:List Int) (a1:List Int):Option ((List Int)×Int):=
 (zIl a0 a1)>>=fun r1=>
 if r1≠0 then
  some ([],r1)
 else
  (zFR (a0.length:Int) a0 a1)>>=fun r2=>
  some (r2.1,r2.2)
def zGh (a0:List Int):Option Int:=
 if (a0.length:Int)>4096 then
  some 3
 else
  some 0
def zDd:Option Unit:=
 some ()
def zGF (a0:zAk) (a1:Int):Option Bool:=
 ((
  if a0.F_K=0 then
   some (a0.F_Wide==0)
  else
   some false):Option Bool)>>=fun j1=>
 some j1
def zI6 (a0:zAk) (a1:Int):Option Bool:=
 ((
  if a0.F_K≥0 then
   some (decide (a0.F_K≤a1))
  else
   some false):Option Bool)>>=fun j1=>
 ((
  if j1=true then
   some (a0.F_Wide==0)
  else
   some false):Option Bool)>>=fun j2=>
 some j2
def zJr (a0:zAk) (a1:Int):Option Bool:=
 ((
  if a0.F_K=0 then
   some (decide (a0.F_Wide>0))
  else
   some false):Option Bool)>>=fun j1=>
 ((
  if j1=true then
   some (decide (a0.F_Wide≤8))
  else
   some false):Option Bool)>>=fun j2=>
 some j2
def zF0 (a0:zAk) (a1:Int):Option Int:=
 (zDd)>>=fun r1=>
 if a0.F_Scheme=(0:Int) then
  ((
   if (hasK a0.F_Scheme [0,1,2,3])=false then
    some true
   else
    some (decide (a1<1))):Option Bool)>>=fun j2=>
  ((
   if j2=true then
    some true
   else
    some (decide (a1>4096))):Option Bool)>>=fun j3=>
  ((
   if j3=true then
    some true
   else
    (zGF a0 a1)>>=fun r4=>
    some (!r4)):Option Bool)>>=fun j5=>
  if j5=true then
   some 1
  else
   some 0
 else
  if a0.F_Scheme=(1:Int) then
   ((
    if (hasK a0.F_Scheme [0,1,2,3])=false then
     some true
    else
     some (decide (a1<1))):Option Bool)>>=fun j6=>
   ((
    if j6=true then
     some true
    else
     some (decide (a1>4096))):Option Bool)>>=fun j7=>
   ((
    if j7=true then
     some true
    else
     (zI6 a0 a1)>>=fun r8=>
     some (!r8)):Option Bool)>>=fun j9=>
   if j9=true then
    some 1
   else
    some 0
  else
   if a0.F_Scheme=(2:Int) then
    ((
     if (hasK a0.F_Scheme [0,1,2,3])=false then
      some true
     else
      some (decide (a1<1))):Option Bool)>>=fun j10=>
    ((
     if j10=true then
      some true
     else
      some (decide (a1>4096))):Option Bool)>>=fun j11=>
    ((
     if j11=true then
      some true
     else
      (zJr a0 a1)>>=fun r12=>
      some (!r12)):Option Bool)>>=fun j13=>
    if j13=true then
     some 1
    else
     some 0
   else
    if a0.F_Scheme=(3:Int) then
     ((
      if (hasK a0.F_Scheme [0,1,2,3])=false then
       some true
      else
       some (decide (a1<1))):Option Bool)>>=fun j14=>
     ((
      if j14=true then
       some true
      else
       some (decide (a1>4096))):Option Bool)>>=fun j15=>
     ((
      if j15=true then
       some true
      else
       (zGF a0 a1)>>=fun r16=>
       some (!r16)):Option Bool)>>=fun j17=>
     if j17=true then
      some 1
     else
      some 0
    else
     ((
      if (hasK a0.F_Scheme [0,1,2,3])=false then
       some true
      else
       some (decide (a1<1))):Option Bool)>>=fun j18=>
     ((
      if j18=true then
       some true
      else
       some (decide (a1>4096))):Option Bool)>>=fun j19=>
     ((
      if j19=true then
       some ()
      else
       none):Option Unit)>>=fun j20=>
     some 1
def zBX (a0:List Int):Option (List Int):=
 if room 8 ([]++a0).length then
  some ([]++a0)
 else none
def zKL (a0:zAk) (a1:List Int) (a2:Int) (a3:List Int):Option (Int×Int×(List Int)×Int×Int×Int):=
 (zBX a1)>>=fun r1=>
 some (0,(a1.length:Int),r1,0,0,0)
def zJH (a0:Int):Option Int:=
 if a0<0 then
  some (IntKind.u64.wrap (0-(IntKind.u64.wrap a0)))
 else
  some (IntKind.u64.wrap a0)
def zDl (a0:List Int) (x0:Int) (x1:List zAa):Option (List zAa):=
 if x0<(a0.length:Int) then
  if 0≤x0∧x0<(a0.length:Int) then
   (zJH (at' a0 x0))>>=fun r3=>
   if 0≤x0∧x0<(x1.length:Int) then
    some (x1.set (Int.toNat x0) (⟨x0,r3⟩:zAa))>>=fun y4=>
    zDl a0 (IntKind.i64.wrap (x0+1)) y4
   else none
  else none
 else
  some x1
 partial_fixpoint
def zJB (a0:List Int):Option (List zAa):=
 if 0≤(a0.length:Int)∧(a0.length:Int)≤(a0.length:Int)∧(a0.length:Int)≤140737488355328∧(a0.length:Int)*((16:Nat):Int)≤140737488355328 then
  some (List.replicate (Int.toNat (a0.length:Int)) (⟨0,0⟩:zAa))>>=fun y1=>
  (zDl a0 0 y1)>>=fun j6=>
  some j6
 else none
def zD3 (a0:List zAa) (a1:Int) (a2:Int):Option (List zAa):=
 if room 16 (a0++[(⟨a1,a2⟩:zAa)]).length then
  some (a0++[(⟨a1,a2⟩:zAa)])
 else none
def zBs (a0:List zAa):Option Int:=
 some (a0.length:Int)
def zDA (a0:Int):Option Bool:=
 some (a0 !=a0)
def zDS (a0:Int) (a1:Int):Option Int:=
 (zDA a0)>>=fun r1=>
 (zDA a1)>>=fun r2=>
 if r1=true then
  if r2=true then
   some 0
  else
   some (-1)
 else
  if r2=true then
   some 1
  else
   if a0<a1 then
    some (-1)
   else
    if a0>a1 then
     some 1
    else
     some 0
def zEJ (a0:Int):Option Bool:=
 some (a0 !=a0)
def zE7 (a0:Int) (a1:Int):Option Int:=
 (zEJ a0)>>=fun r1=>
 (zEJ a1)>>=fun r2=>
 if r1=true then
  if r2=true then
   some 0
  else
   some (-1)
 else
  if r2=true then
   some 1
  else
   if a0<a1 then
    some (-1)
   else
    if a0>a1 then
     some 1
    else
     some 0
def zC7 (a0:List Int) (x0:Int):Option (Sum Int Unit):=
 if x0<(a0.length:Int) then
  if 0≤x0∧x0<(a0.length:Int) then
   if (at' a0 x0)≠0 then
    some (.inl (at' a0 x0))
   else
    zC7 a0 (IntKind.i64.wrap (x0+1))
  else none
 else
  some (.inr ())
 partial_fixpoint
def zH5 (a0:List Int):Option Int:=
 (zC7 a0 0)>>=fun e=>match e with
 | .inl r=>some r
 | .inr j1=>
  some 0
def zC3 (a0:zAa) (a1:zAa):Option Int:=
 (zDS a1.F_size a0.F_size)>>=fun r1=>
 (zE7 a0.F_place a1.F_place)>>=fun r2=>
 (zH5 [r1,r2])>>=fun r3=>
 some r3
def zBv (a0:List zAa) (a1:Int) (a2:Int):Option Bool:=
 if 0≤a1∧a1<(a0.length:Int) then
  if 0≤a2∧a2<(a0.length:Int) then
   (zC3 (at' a0 a1) (at' a0 a2))>>=fun r1=>
   some (decide (r1>0))
  else none
 else none
def zBo (a0:List zAa) (a1:Int) (a2:Int):Option (List zAa):=
 if 0≤a2∧a2<(a0.length:Int) then
  if 0≤a1∧a1<(a0.length:Int) then
   if 0≤a1∧a1<(a0.length:Int) then
    if 0≤a2∧a2<((a0.set (Int.toNat a1) (at' a0 a2)).length:Int) then
     some ((a0.set (Int.toNat a1) (at' a0 a2)).set (Int.toNat a2) (at' a0 a1))
    else none
   else none
  else none
 else none
def zBx (x0:Int) (x1:List zAa):Option (List zAa):=
 ((
  if (IntKind.i64.wrap (Int.tdiv (IntKind.i64.wrap (x0-1)) 2))=x0 then
   some true
  else
   (zBv x1 x0 (IntKind.i64.wrap (Int.tdiv (IntKind.i64.wrap (x0-1)) 2)))>>=fun r1=>
   some (!r1)):Option Bool)>>=fun j2=>
 if j2=true then
  some x1
 else
  (zBo x1 (IntKind.i64.wrap (Int.tdiv (IntKind.i64.wrap (x0-1)) 2)) x0)>>=fun r3=>
  zBx (IntKind.i64.wrap (Int.tdiv (IntKind.i64.wrap (x0-1)) 2)) r3
 partial_fixpoint
def zFz (a0:List zAa) (a1:Int):Option (List zAa):=
 (zBx a1 a0)>>=fun j4=>
 some j4
def zB4 (a0:List zAa) (a1:Int) (a2:Int):Option (List zAa):=
 (zD3 a0 a1 a2)>>=fun r1=>
 (zBs r1)>>=fun r2=>
 (zFz r1 (IntKind.i64.wrap (r2-1)))>>=fun r3=>
 some r3
def zAN (a1:Int) (a2:Int) (x0:Int) (x1:List zAa):Option (Int×(List zAa)):=
 ((
  if (IntKind.i64.wrap ((IntKind.i64.wrap (2*x0))+1))≥a2 then
   some true
  else
   some (decide ((IntKind.i64.wrap ((IntKind.i64.wrap (2*x0))+1))<0))):Option Bool)>>=fun j1=>
 if j1=true then
  some (x0,x1)
 else
  some (IntKind.i64.wrap ((IntKind.i64.wrap ((IntKind.i64.wrap (2*x0))+1))+1))>>=fun y2=>
  ((
   if y2<a2 then
    (zBv x1 y2 (IntKind.i64.wrap ((IntKind.i64.wrap (2*x0))+1)))>>=fun r4=>
    some r4
   else
    some false):Option Bool)>>=fun j5=>
  if j5=true then
   (zBv x1 y2 x0)>>=fun r6=>
   if r6=false then
    some (x0,x1)
   else
    (zBo x1 x0 y2)>>=fun r7=>
    zAN a1 a2 y2 r7
  else
   (zBv x1 (IntKind.i64.wrap ((IntKind.i64.wrap (2*x0))+1)) x0)>>=fun r8=>
   if r8=false then
    some (x0,x1)
   else
    (zBo x1 x0 (IntKind.i64.wrap ((IntKind.i64.wrap (2*x0))+1)))>>=fun r9=>
    zAN a1 a2 (IntKind.i64.wrap ((IntKind.i64.wrap (2*x0))+1)) r9
 partial_fixpoint
def zEr (a0:List zAa) (a1:Int) (a2:Int):Option (Bool×(List zAa)):=
 (zAN a1 a2 a1 a0)>>=fun j10=>
 some (decide (j10.1>a1),j10.2)
def zFx (a0:List zAa):Option (Int×Int×(List zAa)):=
 if cutOk none (some (IntKind.i64.wrap ((a0.length:Int)-1))) a0.length then
  some (cut' a0 none (some (IntKind.i64.wrap ((a0.length:Int)-1))))>>=fun y1=>
  if 0≤IntKind.i64.wrap ((a0.length:Int)-1)∧IntKind.i64.wrap ((a0.length:Int)-1)<(a0.length:Int) then
   some ((at' a0 (IntKind.i64.wrap ((a0.length:Int)-1))).F_place,(at' a0 (IntKind.i64.wrap ((a0.length:Int)-1))).F_size,y1)
  else none
 else none
def zCy (a0:List zAa):Option (Int×Int×(List zAa)):=
 (zBs a0)>>=fun r1=>
 (zBo a0 0 (IntKind.i64.wrap (r1-1)))>>=fun r2=>
 (zEr r2 0 (IntKind.i64.wrap (r1-1)))>>=fun r3=>
 (zFx r3.2)>>=fun r4=>
 some (r4.1,r4.2.1,r4.2.2)
def zCH (a0:List zAa) (x0:Int) (x1:List Int):Option (List Int):=
 if x0<(a0.length:Int) then
  if 0≤x0∧x0<(a0.length:Int) then
   if room 8 (x1++[(at' a0 x0).F_place]).length then
    some (x1++[(at' a0 x0).F_place])>>=fun y3=>
    zCH a0 (IntKind.i64.wrap (x0+1)) y3
   else none
  else none
 else
  some x1
 partial_fixpoint
def zHi (a0:List zAa):Option (List Int):=
 if 0≤(0:Int)∧(0:Int)≤(a0.length:Int)∧(a0.length:Int)≤140737488355328∧(a0.length:Int)*((8:Nat):Int)≤140737488355328 then
  some (List.replicate (Int.toNat 0) 0)>>=fun y1=>
  (zCH a0 0 y1)>>=fun j5=>
  some j5
 else none
def zCJ (a0:Int) (r2:(List zAa)) (x0:Int) (x1:List zAa):Option (List zAa):=
 if x0<(r2.length:Int) then
  if 0≤x0∧x0<(r2.length:Int) then
   (zB4 x1 ((at' r2 x0).F_place) ((at' r2 x0).F_size))>>=fun r3=>
   (zBs r3)>>=fun r4=>
   if r4>a0 then
    (zCy r3)>>=fun r5=>
    zCJ a0 r2 (IntKind.i64.wrap (x0+1)) r5.2.2
   else
    zCJ a0 r2 (IntKind.i64.wrap (x0+1)) r3
  else none
 else
  some x1
 partial_fixpoint
def zJJ (a0:Int) (a1:List Int):Option ((List Int)×Int):=
 if (a1.length:Int)>4096 then
  some ([],3)
 else
  ((
   if a0<0 then
    some true
   else
    some (decide (a0>(a1.length:Int)))):Option Bool)>>=fun j1=>
  if j1=true then
   some ([],1)
  else
   (zJB a1)>>=fun r2=>
   (zCJ a0 r2 0 [])>>=fun j6=>
   (zHi j6)>>=fun r7=>
   (zFc r7)>>=fun r8=>
   some (r8,0)
def zCd (a0:List Int) (x0:Int):Option (Sum Bool Unit):=
 if x0<(a0.length:Int) then
  if 0≤IntKind.i64.wrap (x0-1)∧IntKind.i64.wrap (x0-1)<(a0.length:Int) then
   if 0≤x0∧x0<(a0.length:Int) then
    if (at' a0 (IntKind.i64.wrap (x0-1)))≥(at' a0 x0) then
     some (.inl false)
    else
     zCd a0 (IntKind.i64.wrap (x0+1))
   else none
  else none
 else
  some (.inr ())
 partial_fixpoint
def zEw (a0:List Int):Option Bool:=
 (zCd a0 1)>>=fun e=>match e with
 | .inl r=>some r
 | .inr j1=>
  some true
def zEL (a0:Int) (a1:List Int):Option Bool:=
 ((
  if a0<0 then
   some true
  else
   some (decide (a0≥(a1.length:Int)))):Option Bool)>>=fun j1=>
 some j1
def zAt (a0:List Int) (a1:List Int) (x0:Int):Option (Sum Int Unit):=
 if x0<(a0.length:Int) then
  if 0≤x0∧x0<(a0.length:Int) then
   (zEL (at' a0 x0) a1)>>=fun r1=>
   if r1=true then
    some (.inl x0)
   else
    zAt a0 a1 (IntKind.i64.wrap (x0+1))
  else none
 else
  some (.inr ())
 partial_fixpoint
def zBN (a0:List Int) (a1:List Int):Option Int:=
 (zAt a0 a1 0)>>=fun e=>match e with
 | .inl r=>some r
 | .inr j2=>
  some (-1)
def zBj (a0:List Int) (a1:List Int):Option Bool:=
 (zBN a0 a1)>>=fun r1=>
 some (decide (r1≥0))
def zCp (a0:List Int) (a1:List Int) (x0:Int) (x1:List Int):Option (List Int):=
 if x0<(a0.length:Int) then
  if 0≤x0∧x0<(a0.length:Int) then
   if 0≤at' a0 x0∧at' a0 x0<(a1.length:Int) then
    if room 8 (x1++[at' a1 (at' a0 x0)]).length then
     some (x1++[at' a1 (at' a0 x0)])>>=fun y6=>
     zCp a0 a1 (IntKind.i64.wrap (x0+1)) y6
    else none
   else none
  else none
 else
  some x1
 partial_fixpoint
def zGS (a0:List Int) (a1:List Int):Option ((List Int)×Int):=
 (zEw a0)>>=fun r1=>
 ((
  if r1=false then
   some true
  else
   (zBj a0 a1)>>=fun r2=>
   some r2):Option Bool)>>=fun j3=>
 if j3=true then
  some ([],1)
 else
  if 0≤(0:Int)∧(0:Int)≤(a0.length:Int)∧(a0.length:Int)≤140737488355328∧(a0.length:Int)*((8:Nat):Int)≤140737488355328 then
   some (List.replicate (Int.toNat 0) 0)>>=fun y4=>
   (zCp a0 a1 0 y4)>>=fun j8=>
   some (j8,0)
  else none
def zGL (a0:Int) (a1:List Int):Option (Int×Int×(List Int)×(List Int)×Int×Int×Int):=
 if (a1.length:Int)=0 then
  some (0,0,[],[],0,0,1)
 else
  (zJJ a0 a1)>>=fun r1=>
  if r1.2≠0 then
   some (0,0,[],[],0,0,r1.2)
  else
   (zGS r1.1 a1)>>=fun r2=>
   if r2.2≠0 then
    some (0,0,[],[],0,0,r2.2)
   else
    some (1,(a1.length:Int),r1.1,r2.1,0,0,0)
def zJi (a0:zAk) (a1:List Int) (a2:Int) (a3:List Int):Option (Int×Int×(List Int)×(List Int)×Int×Int×Int):=
 (zGL a0.F_K a1)>>=fun r1=>
 some (r1.1,r1.2.1,r1.2.2.1,r1.2.2.2.1,r1.2.2.2.2.1,r1.2.2.2.2.2.1,r1.2.2.2.2.2.2)
def zEv (a0:Int):Option (Int×Int):=
 ((
  if a0<1 then
   some true
  else
   some (decide (a0>8))):Option Bool)>>=fun j1=>
 if j1=true then
  some (0,1)
 else
  if 0≤a0 then
   some (IntKind.u64.wrap ((sShl .u64 1 a0)-1),0)
  else none
def zJS (a0:Int) (a1:Int):Option (Int×Int):=
 if (bAnd .i64 (bXor .i64 a0 a1) (bXor .i64 a0 (IntKind.i64.wrap (a0-a1))))<0 then
  some (0,2)
 else
  some (IntKind.i64.wrap (a0-a1),0)
def zOX (a0:Int):Option (Int×Int):=
 (zJS 0 a0)>>=fun r1=>
 some (r1.1,r1.2)
def zKa (a0:Int):Option (Int×Int):=
 if a0≥0 then
  some (a0,0)
 else
  (zOX a0)>>=fun r1=>
  some (r1.1,r1.2)
def zDE (a0:List Int) (x0:Int) (x1:Int):Option (Sum (Int×Int) Int):=
 if x0<(a0.length:Int) then
  if 0≤x0∧x0<(a0.length:Int) then
   (zKa (at' a0 x0))>>=fun r2=>
   if r2.2≠0 then
    some (.inl (0,r2.2))
   else
    zDE a0 (IntKind.i64.wrap (x0+1)) (if r2.1>x1 then r2.1 else x1)
  else none
 else
  some (.inr x1)
 partial_fixpoint
def zHU (a0:List Int):Option (Int×Int):=
 (zGh a0)>>=fun r1=>
 if r1≠0 then
  some (0,r1)
 else
  (zDE a0 0 0)>>=fun e=>match e with
  | .inl r=>some r
  | .inr j3=>
   some (j3,0)
def zGJ (a0:Int):Option Int:=
 if a0<0 then
  some (IntKind.u64.wrap (0-(IntKind.u64.wrap a0)))
 else
  some (IntKind.u64.wrap a0)
def zDf (a0:Int) (a1:Int):Option (Int×Int):=
 some (IntKind.u64.wrap ((IntKind.u64.wrap ((IntKind.u64.wrap ((sShr .u64 a0 32)*(sShr .u64 a1 32)))+(sShr .u64 (IntKind.u64.wrap ((IntKind.u64.wrap ((sShr .u64 a0 32)*(bAnd .u64 a1 4294967295)))+(sShr .u64 (IntKind.u64.wrap ((bAnd .u64 a0 4294967295)*(bAnd .u64 a1 4294967295))) 32))) 32)))+(sShr .u64 (IntKind.u64.wrap ((bAnd .u64 (IntKind.u64.wrap ((IntKind.u64.wrap ((sShr .u64 a0 32)*(bAnd .u64 a1 4294967295)))+(sShr .u64 (IntKind.u64.wrap ((bAnd .u64 a0 4294967295)*(bAnd .u64 a1 4294967295))) 32))) 4294967295)+(IntKind.u64.wrap ((bAnd .u64 a0 4294967295)*(sShr .u64 a1 32))))) 32)),IntKind.u64.wrap (a0*a1))
def zDO (a0:Int):Option Int:=
 ((
  if a0≥4294967296 then
   some (32,sShr .u64 a0 32)
  else
   some (0,a0)):Option (Int×Int))>>=fun j1=>
 ((
  if j1.2≥65536 then
   some (IntKind.i64.wrap (j1.1+16),sShr .u64 j1.2 16)
  else
   some (j1.1,j1.2)):Option (Int×Int))>>=fun j2=>
 if j2.2≥256 then
  if 0≤(IntKind.u8.wrap (sShr .u64 j2.2 8))∧(IntKind.u8.wrap (sShr .u64 j2.2 8))<((ByteArray.mk #[0,1,2,2,3,3,3,3,4,4,4,4,4,4,4,4,5,5,5,5,5,5,5,5,5,5,5,5,5,5,5,5,6,6,6,6,6,6,6,6,6,6,6,6,6,6,6,6,6,6,6,6,6,6,6,6,6,6,6,6,6,6,6,6,7,7,7,7,7,7,7,7,7,7,7,7,7,7,7,7,7,7,7,7,7,7,7,7,7,7,7,7,7,7,7,7,7,7,7,7,7,7,7,7,7,7,7,7,7,7,7,7,7,7,7,7,7,7,7,7,7,7,7,7,7,7,7,7,8,8,8,8,8,8,8,8,8,8,8,8,8,8,8,8,8,8,8,8,8,8,8,8,8,8,8,8,8,8,8,8,8,8,8,8,8,8,8,8,8,8,8,8,8,8,8,8,8,8,8,8,8,8,8,8,8,8,8,8,8,8,8,8,8,8,8,8,8,8,8,8,8,8,8,8,8,8,8,8,8,8,8,8,8,8,8,8,8,8,8,8,8,8,8,8,8,8,8,8,8,8,8,8,8,8,8,8,8,8,8,8,8,8,8,8,8,8,8,8,8,8,8,8,8,8,8,8]).size:Int) then
   some (IntKind.i64.wrap ((IntKind.i64.wrap (j2.1+8))+(IntKind.i64.wrap (((ByteArray.mk #[0,1,2,2,3,3,3,3,4,4,4,4,4,4,4,4,5,5,5,5,5,5,5,5,5,5,5,5,5,5,5,5,6,6,6,6,6,6,6,6,6,6,6,6,6,6,6,6,6,6,6,6,6,6,6,6,6,6,6,6,6,6,6,6,7,7,7,7,7,7,7,7,7,7,7,7,7,7,7,7,7,7,7,7,7,7,7,7,7,7,7,7,7,7,7,7,7,7,7,7,7,7,7,7,7,7,7,7,7,7,7,7,7,7,7,7,7,7,7,7,7,7,7,7,7,7,7,7,8,8,8,8,8,8,8,8,8,8,8,8,8,8,8,8,8,8,8,8,8,8,8,8,8,8,8,8,8,8,8,8,8,8,8,8,8,8,8,8,8,8,8,8,8,8,8,8,8,8,8,8,8,8,8,8,8,8,8,8,8,8,8,8,8,8,8,8,8,8,8,8,8,8,8,8,8,8,8,8,8,8,8,8,8,8,8,8,8,8,8,8,8,8,8,8,8,8,8,8,8,8,8,8,8,8,8,8,8,8,8,8,8,8,8,8,8,8,8,8,8,8,8,8,8,8,8,8]).data.getD (Int.toNat (IntKind.u8.wrap (sShr .u64 j2.2 8))) 0).toNat:Int))))
  else none
 else
  if 0≤(IntKind.u8.wrap j2.2)∧(IntKind.u8.wrap j2.2)<((ByteArray.mk #[0,1,2,2,3,3,3,3,4,4,4,4,4,4,4,4,5,5,5,5,5,5,5,5,5,5,5,5,5,5,5,5,6,6,6,6,6,6,6,6,6,6,6,6,6,6,6,6,6,6,6,6,6,6,6,6,6,6,6,6,6,6,6,6,7,7,7,7,7,7,7,7,7,7,7,7,7,7,7,7,7,7,7,7,7,7,7,7,7,7,7,7,7,7,7,7,7,7,7,7,7,7,7,7,7,7,7,7,7,7,7,7,7,7,7,7,7,7,7,7,7,7,7,7,7,7,7,7,8,8,8,8,8,8,8,8,8,8,8,8,8,8,8,8,8,8,8,8,8,8,8,8,8,8,8,8,8,8,8,8,8,8,8,8,8,8,8,8,8,8,8,8,8,8,8,8,8,8,8,8,8,8,8,8,8,8,8,8,8,8,8,8,8,8,8,8,8,8,8,8,8,8,8,8,8,8,8,8,8,8,8,8,8,8,8,8,8,8,8,8,8,8,8,8,8,8,8,8,8,8,8,8,8,8,8,8,8,8,8,8,8,8,8,8,8,8,8,8,8,8,8,8,8,8,8,8]).size:Int) then
   some (IntKind.i64.wrap (j2.1+(IntKind.i64.wrap (((ByteArray.mk #[0,1,2,2,3,3,3,3,4,4,4,4,4,4,4,4,5,5,5,5,5,5,5,5,5,5,5,5,5,5,5,5,6,6,6,6,6,6,6,6,6,6,6,6,6,6,6,6,6,6,6,6,6,6,6,6,6,6,6,6,6,6,6,6,7,7,7,7,7,7,7,7,7,7,7,7,7,7,7,7,7,7,7,7,7,7,7,7,7,7,7,7,7,7,7,7,7,7,7,7,7,7,7,7,7,7,7,7,7,7,7,7,7,7,7,7,7,7,7,7,7,7,7,7,7,7,7,7,8,8,8,8,8,8,8,8,8,8,8,8,8,8,8,8,8,8,8,8,8,8,8,8,8,8,8,8,8,8,8,8,8,8,8,8,8,8,8,8,8,8,8,8,8,8,8,8,8,8,8,8,8,8,8,8,8,8,8,8,8,8,8,8,8,8,8,8,8,8,8,8,8,8,8,8,8,8,8,8,8,8,8,8,8,8,8,8,8,8,8,8,8,8,8,8,8,8,8,8,8,8,8,8,8,8,8,8,8,8,8,8,8,8,8,8,8,8,8,8,8,8,8,8,8,8,8,8]).data.getD (Int.toNat (IntKind.u8.wrap j2.2)) 0).toNat:Int))))
  else none
def zCB (a0:Int):Option Int:=
 (zDO a0)>>=fun r1=>
 some (IntKind.i64.wrap (64-r1))
def zBU (a1:Int) (a2:Int) (r3:Int) (y4:Int) (x0:Int) (x1:Int):Option Int:=
 ((
  if x1≥4294967296 then
   some true
  else
   some (decide ((IntKind.u64.wrap (x1*(bAnd .u64 (sShl .u64 a2 (IntKind.u64.wrap r3)) 4294967295)))>(IntKind.u64.wrap ((IntKind.u64.wrap (4294967296*x0))+(sShr .u64 (sShl .u64 a1 (IntKind.u64.wrap r3)) 32)))))):Option Bool)>>=fun j10=>
 if j10=true then
  some (IntKind.u64.wrap (x0+(sShr .u64 (sShl .u64 a2 (IntKind.u64.wrap r3)) 32)))>>=fun y11=>
  if y11≥4294967296 then
   some (IntKind.u64.wrap (x1-1))
  else
   zBU a1 a2 r3 y4 y11 (IntKind.u64.wrap (x1-1))
 else
  some x1
 partial_fixpoint
def zBT (a1:Int) (a2:Int) (r3:Int) (j13:Int) (y14:Int) (x0:Int) (x1:Int):Option Int:=
 ((
  if x1≥4294967296 then
   some true
  else
   some (decide ((IntKind.u64.wrap (x1*(bAnd .u64 (sShl .u64 a2 (IntKind.u64.wrap r3)) 4294967295)))>(IntKind.u64.wrap ((IntKind.u64.wrap (4294967296*x0))+(bAnd .u64 (sShl .u64 a1 (IntKind.u64.wrap r3)) 4294967295)))))):Option Bool)>>=fun j20=>
 if j20=true then
  some (IntKind.u64.wrap (x0+(sShr .u64 (sShl .u64 a2 (IntKind.u64.wrap r3)) 32)))>>=fun y21=>
  if y21≥4294967296 then
   some (IntKind.u64.wrap (x1-1))
  else
   zBT a1 a2 r3 j13 y14 y21 (IntKind.u64.wrap (x1-1))
 else
  some x1
 partial_fixpoint
def zDg (a0:Int) (a1:Int) (a2:Int):Option (Int×Int):=
 ((
  if a2=0 then
   none
  else
   some ()):Option Unit)>>=fun j1=>
 ((
  if a2≤a0 then
   none
  else
   some ()):Option Unit)>>=fun j2=>
 if a0=0 then
  if a2≠0 then
   if a2≠0 then
    some (IntKind.u64.wrap (Int.tdiv a1 a2),Int.tmod a1 a2)
   else none
  else none
 else
  (zCB a2)>>=fun r3=>
  if 0≤IntKind.u64.wrap r3 then
   if 0≤IntKind.u64.wrap r3 then
    if 0≤IntKind.u64.wrap (64-(IntKind.u64.wrap r3)) then
     some (bOr .u64 (sShl .u64 a0 (IntKind.u64.wrap r3)) (sShr .u64 a1 (IntKind.u64.wrap (64-(IntKind.u64.wrap r3)))))>>=fun y4=>
     if 0≤IntKind.u64.wrap r3 then
      if sShr .u64 (sShl .u64 a2 (IntKind.u64.wrap r3)) 32≠0 then
       some (IntKind.u64.wrap (Int.tdiv y4 (sShr .u64 (sShl .u64 a2 (IntKind.u64.wrap r3)) 32)))>>=fun y6=>
       some (IntKind.u64.wrap (y4-(IntKind.u64.wrap (y6*(sShr .u64 (sShl .u64 a2 (IntKind.u64.wrap r3)) 32)))))>>=fun y8=>
       (zBU a1 a2 r3 y4 y8 y6)>>=fun j13=>
       some (IntKind.u64.wrap ((IntKind.u64.wrap ((IntKind.u64.wrap (y4*4294967296))+(sShr .u64 (sShl .u64 a1 (IntKind.u64.wrap r3)) 32)))-(IntKind.u64.wrap (j13*(sShl .u64 a2 (IntKind.u64.wrap r3))))))>>=fun y14=>
       if sShr .u64 (sShl .u64 a2 (IntKind.u64.wrap r3)) 32≠0 then
        some (IntKind.u64.wrap (Int.tdiv y14 (sShr .u64 (sShl .u64 a2 (IntKind.u64.wrap r3)) 32)))>>=fun y16=>
        some (IntKind.u64.wrap (y14-(IntKind.u64.wrap (y16*(sShr .u64 (sShl .u64 a2 (IntKind.u64.wrap r3)) 32)))))>>=fun y18=>
        (zBT a1 a2 r3 j13 y14 y18 y16)>>=fun j23=>
        some (IntKind.u64.wrap ((IntKind.u64.wrap (j13*4294967296))+j23))>>=fun y24=>
        some (IntKind.u64.wrap ((IntKind.u64.wrap ((IntKind.u64.wrap (y14*4294967296))+(bAnd .u64 (sShl .u64 a1 (IntKind.u64.wrap r3)) 4294967295)))-(IntKind.u64.wrap (j23*(sShl .u64 a2 (IntKind.u64.wrap r3))))))>>=fun y26=>
        if 0≤IntKind.u64.wrap r3 then
         some (y24,sShr .u64 y26 (IntKind.u64.wrap r3))
        else none
       else none
      else none
     else none
    else none
   else none
  else none
def zF9 (a0:Int) (a1:Int) (a2:Int):Option (Int×Int×Int):=
 (zEv a2)>>=fun r1=>
 ((
  if r1.2≠0 then
   some true
  else
   some (decide (a1<0))):Option Bool)>>=fun j2=>
 ((
  if j2=true then
   some true
  else
   (zGJ a0)>>=fun r3=>
   some (decide (r3>(IntKind.u64.wrap a1)))):Option Bool)>>=fun j4=>
 if j4=true then
  some (0,0,1)
 else
  if a1=0 then
   some (0,0,0)
  else
   (zGJ a0)>>=fun r5=>
   (zDf r5 r1.1)>>=fun r6=>
   (zDg r6.1 r6.2 (IntKind.u64.wrap a1))>>=fun r7=>
   some (r7.1,r7.2,0)
def zCx (a0:List Int):Option (List Int):=
 if room 8 ([]++a0).length then
  some ([]++a0)
 else none
def zEZ (a0:Int) (a1:Int):Option Int:=
 some (bXor .u64 (IntKind.u64.wrap ((bXor .u64 a0 (IntKind.u64.wrap a1))*11400714819323198485)) (sShr .u64 (IntKind.u64.wrap ((bXor .u64 a0 (IntKind.u64.wrap a1))*11400714819323198485)) 29))
def zDk (a1:List Int) (x0:Int) (x1:Int):Option Int:=
 if x0<(a1.length:Int) then
  if 0≤x0∧x0<(a1.length:Int) then
   (zEZ x1 (at' a1 x0))>>=fun r1=>
   zDk a1 (IntKind.i64.wrap (x0+1)) r1
  else none
 else
  some x1
 partial_fixpoint
def zMP (a0:Int) (a1:List Int):Option Int:=
 (zDk a1 0 a0)>>=fun j2=>
 some j2
def zHE (a0:Int):Option Int:=
 some (bXor .u64 (IntKind.u64.wrap (a0*13787848793156543929)) (sShr .u64 (IntKind.u64.wrap (a0*13787848793156543929)) 32))
def zMo (a0:Int) (a1:List Int):Option Int:=
 (zMP a0 a1)>>=fun r1=>
 (zHE r1)>>=fun r2=>
 some r2
def zLL (a0:Int) (a1:Int) (a2:List Int):Option (Int×Int):=
 if a0=0 then
  some (0,1)
 else
  (zMo a1 a2)>>=fun r1=>
  if a0≠0 then
   some (Int.tmod r1 a0,0)
  else none
def zFX (a0:Int) (a1:Int) (a2:Int) (a3:List Int):Option (Bool×Int):=
 if a0>a1 then
  some (false,1)
 else
  (zLL a1 a2 a3)>>=fun r1=>
  ((
   if r1.2=0 then
    some (decide (r1.1<a0))
   else
    some false):Option Bool)>>=fun j2=>
  some (j2,r1.2)
def zCI (a0:List Int) (a1:Int) (a2:Int) (a3:List Int) (r3:Int×Int) (x0:Int) (x1:List Int) (x2:List Bool):Option (Sum (Int×Int×Int×Int×(List Int)×(List Bool)×Int) ((List Int)×(List Bool))):=
 if x0<(a0.length:Int) then
  if 0≤x0∧x0<(a0.length:Int) then
   (zF9 (at' a0 x0) r3.1 a1)>>=fun r9=>
   if r9.2.2≠0 then
    some (.inl (0,0,0,0,[],[],r9.2.2))
   else
    ((
     if r9.2.1>0 then
      (zCx a3)>>=fun r10=>
      if room 8 (r10++[x0]).length then
       (zFX r9.2.1 (IntKind.u64.wrap r3.1) a2 (r10++[x0]))>>=fun r11=>
       if r11.2≠0 then
        some (.inl (0,0,0,0,[],[],r11.2))
       else
        if r11.1=true then
         some (.inr (IntKind.u64.wrap (r9.1+1)))
        else
         some (.inr r9.1)
      else none
     else
      some (.inr r9.1)):Option (Sum (Int×Int×Int×Int×(List Int)×(List Bool)×Int) Int))>>=fun e=>match e with
    | .inl r=>some (.inl r)
    | .inr j12=>
     if 0≤x0∧x0<(x1.length:Int) then
      if 0≤x0∧x0<(x2.length:Int) then
       some (x1.set (Int.toNat x0) j12)>>=fun y13=>
       some (x2.set (Int.toNat x0) (decide ((at' a0 x0)<0)))>>=fun y15=>
       zCI a0 a1 a2 a3 r3 (IntKind.i64.wrap (x0+1)) y13 y15
      else none
     else none
  else none
 else
  some (.inr (x1,x2))
 partial_fixpoint
def zHp (a0:List Int) (a1:Int) (a2:Int) (a3:List Int):Option (Int×Int×Int×Int×(List Int)×(List Bool)×Int):=
 (zEv a1)>>=fun r1=>
 ((
  if r1.2≠0 then
   some true
  else
   some ((a0.length:Int)==0)):Option Bool)>>=fun j2=>
 if j2=true then
  some (0,0,0,0,[],[],1)
 else
  (zHU a0)>>=fun r3=>
  if r3.2≠0 then
   some (0,0,0,0,[],[],r3.2)
  else
   ((
    if 0≤(a0.length:Int)∧(a0.length:Int)≤(a0.length:Int)∧(a0.length:Int)≤140737488355328∧(a0.length:Int)*((8:Nat):Int)≤140737488355328 then
     if 0≤(a0.length:Int)∧(a0.length:Int)≤(a0.length:Int)∧(a0.length:Int)≤140737488355328∧(a0.length:Int)*((1:Nat):Int)≤140737488355328 then
      some ()
     else none
    else none):Option Unit)>>=fun j4=>
   some (List.replicate (Int.toNat (a0.length:Int)) 0)>>=fun y5=>
   some (List.replicate (Int.toNat (a0.length:Int)) false)>>=fun y7=>
   (zCI a0 a1 a2 a3 r3 0 y5 y7)>>=fun e=>match e with
   | .inl r=>some r
   | .inr j17=>
    some (2,(a0.length:Int),r3.1,a1,j17.1,j17.2,0)
def zIH (a0:zAk) (a1:List Int) (a2:Int) (a3:List Int):Option (Int×Int×Int×Int×(List Int)×(List Bool)×Int):=
 (zHp a1 a0.F_Wide a2 a3)>>=fun r1=>
 some (r1.1,r1.2.1,r1.2.2.1,r1.2.2.2.1,r1.2.2.2.2.1,r1.2.2.2.2.2.1,r1.2.2.2.2.2.2)
def zIO (a0:Int) (a1:List Int):Option (Int×Int):=
 if 0≤a0∧a0<(a1.length:Int) then
  (zKa (at' a1 a0))>>=fun r1=>
  some (r1.1,r1.2)
 else none
def zA8 (a0:Int) (a1:List Int) (x0:Int) (x1:Int):Option (Sum (Int×Int) Int):=
 if x0<a0 then
  (zIO x0 a1)>>=fun r1=>
  if r1.2=0 then
   (zJP x1 r1.1)>>=fun r2=>
   if r2.2≠0 then
    some (.inl (0,r2.2))
   else
    zA8 a0 a1 (IntKind.i64.wrap (x0+1)) r2.1
  else
   if r1.2≠0 then
    some (.inl (0,r1.2))
   else
    zA8 a0 a1 (IntKind.i64.wrap (x0+1)) x1
 else
  some (.inr x1)
 partial_fixpoint
def zE2 (a0:Int) (a1:List Int):Option (Int×Int):=
 (zA8 a0 a1 0 0)>>=fun e=>match e with
 | .inl r=>some r
 | .inr j3=>
  some (j3,0)
def zK4 (a0:List Int):Option (Int×Int):=
 (zGh a0)>>=fun r1=>
 if r1≠0 then
  some (0,r1)
 else
  (zE2 (a0.length:Int) a0)>>=fun r2=>
  some (r2.1,r2.2)
def zJI (a0:List Int):Option (Int×Int):=
 if (a0.length:Int)=0 then
  some (0,1)
 else
  (zK4 a0)>>=fun r1=>
  if (a0.length:Int)≠0 then
   some (IntKind.i64.wrap (Int.tdiv r1.1 (a0.length:Int)),r1.2)
  else none
def zJo (a0:Int):Option Bool:=
 some (decide (a0<0))
def zAz (a0:List Int) (x0:Int) (x1:List Bool):Option (List Bool):=
 if x0<(a0.length:Int) then
  if 0≤x0∧x0<(a0.length:Int) then
   (zJo (at' a0 x0))>>=fun r3=>
   if room 1 (x1++[r3]).length then
    zAz a0 (IntKind.i64.wrap (x0+1)) (x1++[r3])
   else none
  else none
 else
  some x1
 partial_fixpoint
def zCk (a0:List Int):Option (List Bool):=
 if 0≤(0:Int)∧(0:Int)≤(a0.length:Int)∧(a0.length:Int)≤140737488355328∧(a0.length:Int)*((1:Nat):Int)≤140737488355328 then
  some (List.replicate (Int.toNat 0) false)>>=fun y1=>
  (zAz a0 0 y1)>>=fun j4=>
  some j4
 else none
def zGM (a0:List Int):Option (Int×Int×Int×Int×(List Bool)×Int):=
 (zJI a0)>>=fun r1=>
 if r1.2≠0 then
  some (0,0,0,0,[],r1.2)
 else
  (zCk a0)>>=fun r2=>
  some (3,(a0.length:Int),r1.1,0,r2,0)
def zIf (a0:zAk) (a1:List Int) (a2:Int) (a3:List Int):Option (Int×Int×Int×Int×(List Bool)×Int):=
 (zGM a1)>>=fun r1=>
 some (r1.1,r1.2.1,r1.2.2.1,r1.2.2.2.1,r1.2.2.2.2.1,r1.2.2.2.2.2)
def zF3 (a0:zAk) (a1:List Int) (a2:Int) (a3:List Int):Option (Int×Int×(List Int)×(List Int)×Int×Int×(List Int)×(List Bool)×Int):=
 (zGh a1)>>=fun r1=>
 ((
  if r1=0 then
   (zF0 a0 (a1.length:Int))>>=fun r2=>
   some r2
  else
   some r1):Option Int)>>=fun j3=>
 if j3≠0 then
  some (0,0,[],[],0,0,[],[],j3)
 else
  (zDd)>>=fun r4=>
  if a0.F_Scheme=(0:Int) then
   (zKL a0 a1 a2 a3)>>=fun r5=>
   some (r5.1,r5.2.1,[],r5.2.2.1,r5.2.2.2.1,r5.2.2.2.2.1,[],[],r5.2.2.2.2.2)
  else
   if a0.F_Scheme=(1:Int) then
    (zJi a0 a1 a2 a3)>>=fun r6=>
    some (r6.1,r6.2.1,r6.2.2.1,r6.2.2.2.1,r6.2.2.2.2.1,r6.2.2.2.2.2.1,[],[],r6.2.2.2.2.2.2)
   else
    if a0.F_Scheme=(2:Int) then
     (zIH a0 a1 a2 a3)>>=fun r7=>
     some (r7.1,r7.2.1,[],[],r7.2.2.1,r7.2.2.2.1,r7.2.2.2.2.1,r7.2.2.2.2.2.1,r7.2.2.2.2.2.2)
    else
     if a0.F_Scheme=(3:Int) then
      (zIf a0 a1 a2 a3)>>=fun r8=>
      some (r8.1,r8.2.1,[],[],r8.2.2.1,r8.2.2.2.1,[],r8.2.2.2.2.1,r8.2.2.2.2.2)
     else
      none
def zED (a0:Int):Option Bool:=
 ((
  if a0>0 then
   some (decide (a0≤4096))
  else
   some false):Option Bool)>>=fun j1=>
 some j1
def zEy (a0:Int) (a1:List Int):Option Int:=
 (zED a0)>>=fun r1=>
 ((
  if r1=false then
   some true
  else
   (zEw a1)>>=fun r2=>
   some (!r2)):Option Bool)>>=fun j3=>
 if j3=true then
  some 1
 else
  if (a1.length:Int)>0 then
   if 0≤(0:Int)∧(0:Int)<(a1.length:Int) then
    if (at' a1 0)<0 then
     some 1
    else
     if 0≤IntKind.i64.wrap ((a1.length:Int)-1)∧IntKind.i64.wrap ((a1.length:Int)-1)<(a1.length:Int) then
      if (at' a1 (IntKind.i64.wrap ((a1.length:Int)-1)))≥a0 then
       some 1
      else
       some 0
     else none
   else none
  else
   some 0
def zHn (a0:Int):Option Int:=
 (zDO a0)>>=fun r1=>
 some r1
def zHx (a0:Int) (a1:Int) (a2:Int) (a3:List Int) (a4:List Int) (a5:Int) (a6:Int) (a7:List Int) (a8:List Bool):Option Bool:=
 (zHn a0)>>=fun r1=>
 some (decide (r1>a6))
def zAp (a0:List Int) (a1:Int) (a2:Int) (a3:List Int) (a4:List Int) (a5:Int) (a6:Int) (a7:List Int) (a8:List Bool) (x0:Int):Option (Sum Int Unit):=
 if x0<(a0.length:Int) then
  if 0≤x0∧x0<(a0.length:Int) then
   (zHx (at' a0 x0) a1 a2 a3 a4 a5 a6 a7 a8)>>=fun r1=>
   if r1=true then
    some (.inl x0)
   else
    zAp a0 a1 a2 a3 a4 a5 a6 a7 a8 (IntKind.i64.wrap (x0+1))
  else none
 else
  some (.inr ())
 partial_fixpoint
def zBE (a0:List Int) (a1:Int) (a2:Int) (a3:List Int) (a4:List Int) (a5:Int) (a6:Int) (a7:List Int) (a8:List Bool):Option Int:=
 (zAp a0 a1 a2 a3 a4 a5 a6 a7 a8 0)>>=fun e=>match e with
 | .inl r=>some r
 | .inr j2=>
  some (-1)
def zAY (a0:List Int) (a1:Int) (a2:Int) (a3:List Int) (a4:List Int) (a5:Int) (a6:Int) (a7:List Int) (a8:List Bool):Option Bool:=
 (zBE a0 a1 a2 a3 a4 a5 a6 a7 a8)>>=fun r1=>
 some (decide (r1≥0))
def zHY (a0:zAc):Option (Int×Int×(List Int)×(List Int)×Int×Int×(List Int)×(List Bool)×Bool):=
 ((
  if a0.F_Dim>0 then
   some (decide (a0.F_Dim≤4096))
  else
   some false):Option Bool)>>=fun j1=>
 if a0.F_Scheme=0 then
  ((
   if j1=true then
    some ((a0.F_V.length:Int)==a0.F_Dim)
   else
    some false):Option Bool)>>=fun j2=>
  some (0,0,a0.F_L,[],a0.F_Scale,a0.F_Wide,a0.F_Lev,a0.F_Neg,j2)
 else
  if a0.F_Scheme=1 then
   ((
    if j1=true then
     (zEy a0.F_Dim a0.F_L)>>=fun r3=>
     some (r3==0)
    else
     some false):Option Bool)>>=fun j4=>
   ((
    if j4=true then
     some ((a0.F_L.length:Int)==(a0.F_V.length:Int))
    else
     some false):Option Bool)>>=fun j5=>
   some (0,0,[],[],a0.F_Scale,a0.F_Wide,a0.F_Lev,a0.F_Neg,j5)
  else
   if a0.F_Scheme=2 then
    ((
     if j1=true then
      some (decide (a0.F_Wide>0))
     else
      some false):Option Bool)>>=fun j6=>
    ((
     if j6=true then
      some (decide (a0.F_Wide≤8))
     else
      some false):Option Bool)>>=fun j7=>
    ((
     if j7=true then
      some ((a0.F_Lev.length:Int)==a0.F_Dim)
     else
      some false):Option Bool)>>=fun j8=>
    ((
     if j8=true then
      (zAY a0.F_Lev a0.F_Scheme a0.F_Dim a0.F_L a0.F_V a0.F_Scale a0.F_Wide a0.F_Lev a0.F_Neg)>>=fun r9=>
      some (!r9)
     else
      some false):Option Bool)>>=fun j10=>
    ((
     if j10=true then
      some (decide (a0.F_Scale≥0))
     else
      some false):Option Bool)>>=fun j11=>
    ((
     if j11=true then
      some ((a0.F_Neg.length:Int)==a0.F_Dim)
     else
      some false):Option Bool)>>=fun j12=>
    some (0,0,a0.F_L,a0.F_V,0,0,[],[],j12)
   else
    if a0.F_Scheme=3 then
     ((
      if j1=true then
       some (decide (a0.F_Scale≥0))
      else
       some false):Option Bool)>>=fun j13=>
     ((
      if j13=true then
       some ((a0.F_Neg.length:Int)==a0.F_Dim)
      else
       some false):Option Bool)>>=fun j14=>
     some (0,0,a0.F_L,a0.F_V,0,a0.F_Wide,a0.F_Lev,[],j14)
    else
     some (0,0,a0.F_L,a0.F_V,a0.F_Scale,a0.F_Wide,a0.F_Lev,a0.F_Neg,false)
def zBa (a0:List Int) (a1:List Int) (x0:Int):Option (Sum Bool Unit):=
 if x0<(a0.length:Int) then
  if 0≤x0∧x0<(a0.length:Int) then
   if 0≤x0∧x0<(a1.length:Int) then
    if (at' a0 x0)≠(at' a1 x0) then
     some (.inl false)
    else
     zBa a0 a1 (IntKind.i64.wrap (x0+1))
   else none
  else none
 else
  some (.inr ())
 partial_fixpoint
def zBJ (a0:List Int) (a1:List Int):Option Bool:=
 if (a0.length:Int)≠(a1.length:Int) then
  some false
 else
  (zBa a0 a1 0)>>=fun e=>match e with
  | .inl r=>some r
  | .inr j1=>
   some true
def zAL (a0:List Int) (a1:List Int) (x0:Int):Option (Sum Bool Unit):=
 if x0<(a0.length:Int) then
  if 0≤x0∧x0<(a0.length:Int) then
   if 0≤x0∧x0<(a1.length:Int) then
    if (at' a0 x0)≠(at' a1 x0) then
     some (.inl false)
    else
     zAL a0 a1 (IntKind.i64.wrap (x0+1))
   else none
  else none
 else
  some (.inr ())
 partial_fixpoint
def zAO (a0:List Int) (a1:List Int):Option Bool:=
 if (a0.length:Int)≠(a1.length:Int) then
  some false
 else
  (zAL a0 a1 0)>>=fun e=>match e with
  | .inl r=>some r
  | .inr j1=>
   some true
def zAU (a0:List Int) (a1:List Int) (x0:Int):Option (Sum Bool Unit):=
 if x0<(a0.length:Int) then
  if 0≤x0∧x0<(a0.length:Int) then
   if 0≤x0∧x0<(a1.length:Int) then
    if (at' a0 x0)≠(at' a1 x0) then
     some (.inl false)
    else
     zAU a0 a1 (IntKind.i64.wrap (x0+1))
   else none
  else none
 else
  some (.inr ())
 partial_fixpoint
def zCn (a0:List Int) (a1:List Int):Option Bool:=
 if (a0.length:Int)≠(a1.length:Int) then
  some false
 else
  (zAU a0 a1 0)>>=fun e=>match e with
  | .inl r=>some r
  | .inr j1=>
   some true
def zBp (a0:List Bool) (a1:List Bool) (x0:Int):Option (Sum Bool Unit):=
 if x0<(a0.length:Int) then
  if 0≤x0∧x0<(a0.length:Int) then
   if 0≤x0∧x0<(a1.length:Int) then
    if (at' a0 x0)≠(at' a1 x0) then
     some (.inl false)
    else
     zBp a0 a1 (IntKind.i64.wrap (x0+1))
   else none
  else none
 else
  some (.inr ())
 partial_fixpoint
def zCe (a0:List Bool) (a1:List Bool):Option Bool:=
 if (a0.length:Int)≠(a1.length:Int) then
  some false
 else
  (zBp a0 a1 0)>>=fun e=>match e with
  | .inl r=>some r
  | .inr j1=>
   some true
def zFu (a0:zAc) (a1:zAc):Option Bool:=
 ((
  if ([a0.F_Scheme,a0.F_Dim,a0.F_Scale,a0.F_Wide]:List Int)=[a1.F_Scheme,a1.F_Dim,a1.F_Scale,a1.F_Wide] then
   (zBJ a0.F_L a1.F_L)>>=fun r1=>
   some r1
  else
   some false):Option Bool)>>=fun j2=>
 ((
  if j2=true then
   (zAO a0.F_V a1.F_V)>>=fun r3=>
   some r3
  else
   some false):Option Bool)>>=fun j4=>
 ((
  if j4=true then
   (zCn a0.F_Lev a1.F_Lev)>>=fun r5=>
   some r5
  else
   some false):Option Bool)>>=fun j6=>
 ((
  if j6=true then
   (zCe a0.F_Neg a1.F_Neg)>>=fun r7=>
   some r7
  else
   some false):Option Bool)>>=fun j8=>
 some j8
def zCz (a0:zAc):Option Bool:=
 (zHY a0)>>=fun r1=>
 ((
  if r1.2.2.2.2.2.2.2.2=true then
   (zFu (⟨r1.1,r1.2.1,r1.2.2.1,r1.2.2.2.1,r1.2.2.2.2.1,r1.2.2.2.2.2.1,r1.2.2.2.2.2.2.1,r1.2.2.2.2.2.2.2.1⟩:zAc) (⟨0,0,[],[],0,0,[],[]⟩:zAc))>>=fun r2=>
   some r2
  else
   some false):Option Bool)>>=fun j3=>
 some j3
def zIT (a0:zAc):Option ((List Int)×Int):=
 (zBX a0.F_V)>>=fun r1=>
 some (r1,0)
def zCq (a1:List Int) (a2:List Int) (x0:Int) (x1:List Int):Option (List Int):=
 if x0<(a1.length:Int) then
  if 0≤x0∧x0<(a1.length:Int) then
   if 0≤x0∧x0<(a2.length:Int) then
    if 0≤at' a1 x0∧at' a1 x0<(x1.length:Int) then
     some (x1.set (Int.toNat (at' a1 x0)) (at' a2 x0))>>=fun y4=>
     zCq a1 a2 (IntKind.i64.wrap (x0+1)) y4
    else none
   else none
  else none
 else
  some x1
 partial_fixpoint
def zGU (a0:Int) (a1:List Int) (a2:List Int):Option ((List Int)×Int):=
 (zEy a0 a1)>>=fun r1=>
 if r1≠0 then
  some ([],r1)
 else
  if (a1.length:Int)≠(a2.length:Int) then
   some ([],4)
  else
   if 0≤a0∧a0≤a0∧a0≤140737488355328∧a0*((8:Nat):Int)≤140737488355328 then
    some (List.replicate (Int.toNat a0) 0)>>=fun y2=>
    (zCq a1 a2 0 y2)>>=fun j6=>
    some (j6,0)
   else none
def zIN (a0:zAc):Option ((List Int)×Int):=
 (zGU a0.F_Dim a0.F_L a0.F_V)>>=fun r1=>
 some (r1.1,r1.2)
def zHs (a0:Int) (a1:Int) (a2:Int):Option (Int×Int):=
 (zEv a2)>>=fun r1=>
 ((
  if r1.2≠0 then
   some true
  else
   some (decide (a1<0))):Option Bool)>>=fun j2=>
 ((
  if j2=true then
   some true
  else
   some (decide (a0>r1.1))):Option Bool)>>=fun j3=>
 if j3=true then
  some (0,1)
 else
  (zDf (IntKind.u64.wrap a1) a0)>>=fun r4=>
  (zDg r4.1 r4.2 r1.1)>>=fun r5=>
  some (IntKind.i64.wrap r5.1,0)
def zBY (a0:zAc) (x0:Int) (x1:List Int):Option (Sum ((List Int)×Int) (List Int)):=
 if x0<(a0.F_Lev.length:Int) then
  if 0≤x0∧x0<(a0.F_Lev.length:Int) then
   (zHs (at' a0.F_Lev x0) a0.F_Scale a0.F_Wide)>>=fun r5=>
   if r5.2≠0 then
    some (.inl ([],r5.2))
   else
    if 0≤x0∧x0<(x1.length:Int) then
     some (x1.set (Int.toNat x0) r5.1)>>=fun y6=>
     if 0≤x0∧x0<(a0.F_Neg.length:Int) then
      if (at' a0.F_Neg x0)=true then
       if 0≤x0∧x0<(y6.length:Int) then
        some (y6.set (Int.toNat x0) (IntKind.i64.wrap (0-r5.1)))>>=fun y8=>
        zBY a0 (IntKind.i64.wrap (x0+1)) y8
       else none
      else
       zBY a0 (IntKind.i64.wrap (x0+1)) y6
     else none
    else none
  else none
 else
  some (.inr x1)
 partial_fixpoint
def zIL (a0:zAc):Option ((List Int)×Int):=
 (zCz a0)>>=fun r1=>
 ((
  if r1=false then
   some true
  else
   some (a0.F_Scheme !=2)):Option Bool)>>=fun j2=>
 if j2=true then
  some ([],1)
 else
  if 0≤a0.F_Dim∧a0.F_Dim≤a0.F_Dim∧a0.F_Dim≤140737488355328∧a0.F_Dim*((8:Nat):Int)≤140737488355328 then
   some (List.replicate (Int.toNat a0.F_Dim) 0)>>=fun y3=>
   (zBY a0 0 y3)>>=fun e=>match e with
   | .inl r=>some r
   | .inr j10=>
    some (j10,0)
  else none
def zE8 (a0:Bool) (a1:Int) (a2:Int) (a3:List Int) (a4:List Int) (a5:Int) (a6:Int) (a7:List Int) (a8:List Bool):Option Int:=
 if a0=true then
  some (IntKind.i64.wrap (0-a5))
 else
  some a5
def zAy (a0:List Bool) (a1:Int) (a2:Int) (a3:List Int) (a4:List Int) (a5:Int) (a6:Int) (a7:List Int) (a8:List Bool) (x0:Int) (x1:List Int):Option (List Int):=
 if x0<(a0.length:Int) then
  if 0≤x0∧x0<(a0.length:Int) then
   (zE8 (at' a0 x0) a1 a2 a3 a4 a5 a6 a7 a8)>>=fun r3=>
   if room 8 (x1++[r3]).length then
    zAy a0 a1 a2 a3 a4 a5 a6 a7 a8 (IntKind.i64.wrap (x0+1)) (x1++[r3])
   else none
  else none
 else
  some x1
 partial_fixpoint
def zCf (a0:List Bool) (a1:Int) (a2:Int) (a3:List Int) (a4:List Int) (a5:Int) (a6:Int) (a7:List Int) (a8:List Bool):Option (List Int):=
 if 0≤(0:Int)∧(0:Int)≤(a0.length:Int)∧(a0.length:Int)≤140737488355328∧(a0.length:Int)*((8:Nat):Int)≤140737488355328 then
  some (List.replicate (Int.toNat 0) 0)>>=fun y1=>
  (zAy a0 a1 a2 a3 a4 a5 a6 a7 a8 0 y1)>>=fun j4=>
  some j4
 else none
def zKJ (a0:zAc):Option ((List Int)×Int):=
 (zCz a0)>>=fun r1=>
 ((
  if r1=false then
   some true
  else
   some (a0.F_Scheme !=3)):Option Bool)>>=fun j2=>
 if j2=true then
  some ([],1)
 else
  (zCf a0.F_Neg a0.F_Scheme a0.F_Dim a0.F_L a0.F_V a0.F_Scale a0.F_Wide a0.F_Lev a0.F_Neg)>>=fun r3=>
  some (r3,0)
def zFi (a0:zAc):Option ((List Int)×Int):=
 (zCz a0)>>=fun r1=>
 if r1=false then
  some ([],1)
 else
  (zDd)>>=fun r2=>
  if a0.F_Scheme=(0:Int) then
   (zIT a0)>>=fun r3=>
   some (r3.1,r3.2)
  else
   if a0.F_Scheme=(1:Int) then
    (zIN a0)>>=fun r4=>
    some (r4.1,r4.2)
   else
    if a0.F_Scheme=(2:Int) then
     (zIL a0)>>=fun r5=>
     some (r5.1,r5.2)
    else
     if a0.F_Scheme=(3:Int) then
      (zKJ a0)>>=fun r6=>
      some (r6.1,r6.2)
     else
      none
def zEF (a0:Int) (a1:List Int) (a2:List Int):Option (Int×Int):=
 if 0≤a0∧a0<(a1.length:Int) then
  if 0≤a0∧a0<(a2.length:Int) then
   (zJS (at' a1 a0) (at' a2 a0))>>=fun r1=>
   some (r1.1,r1.2)
  else none
 else none
def zBC (a1:List Int) (a2:List Int) (y1:List Int) (x0:Int) (x1:List Int):Option (Sum ((List Int)×Int) (List Int)):=
 if x0<(y1.length:Int) then
  (zEF x0 a1 a2)>>=fun r3=>
  if 0≤x0∧x0<(x1.length:Int) then
   some (x1.set (Int.toNat x0) r3.1)>>=fun y4=>
   if r3.2≠0 then
    some (.inl ([],r3.2))
   else
    zBC a1 a2 y1 (IntKind.i64.wrap (x0+1)) y4
  else none
 else
  some (.inr x1)
 partial_fixpoint
def zFG (a0:Int) (a1:List Int) (a2:List Int):Option ((List Int)×Int):=
 if 0≤a0∧a0≤a0∧a0≤140737488355328∧a0*((8:Nat):Int)≤140737488355328 then
  some (List.replicate (Int.toNat a0) 0)>>=fun y1=>
  (zBC a1 a2 y1 0 y1)>>=fun e=>match e with
  | .inl r=>some r
  | .inr j6=>
   some (j6,0)
 else none
def zMD (a0:List Int) (a1:List Int):Option ((List Int)×Int):=
 (zIl a0 a1)>>=fun r1=>
 if r1≠0 then
  some ([],r1)
 else
  (zFG (a0.length:Int) a0 a1)>>=fun r2=>
  some (r2.1,r2.2)
def zGK (a0:List Int) (a1:zAc):Option ((List Int)×Int):=
 (zFi a1)>>=fun r1=>
 if r1.2≠0 then
  some ([],r1.2)
 else
  (zMD a0 r1.1)>>=fun r2=>
  some (r2.1,r2.2)
def zHk (a0:zAk) (a1:List Int) (a2:List Int) (a3:Int) (a4:List Int):Option (Int×Int×(List Int)×(List Int)×Int×Int×(List Int)×(List Bool)×(List Int)×Int):=
 (zKb a1 a2)>>=fun r1=>
 ((
  if r1.2=0 then
   (zF3 a0 r1.1 a3 a4)>>=fun r2=>
   some (r2.2.2.2.2.2.2.2.2,r2.1,r2.2.1,r2.2.2.1,r2.2.2.2.1,r2.2.2.2.2.1,r2.2.2.2.2.2.1,r2.2.2.2.2.2.2.1,r2.2.2.2.2.2.2.2.1)
  else
   some (r1.2,0,0,[],[],0,0,[],[])):Option (Int×Int×Int×(List Int)×(List Int)×Int×Int×(List Int)×(List Bool)))>>=fun j3=>
 if j3.1=0 then
  (zGK r1.1 (⟨j3.2.1,j3.2.2.1,j3.2.2.2.1,j3.2.2.2.2.1,j3.2.2.2.2.2.1,j3.2.2.2.2.2.2.1,j3.2.2.2.2.2.2.2.1,j3.2.2.2.2.2.2.2.2⟩:zAc))>>=fun r4=>
  if r4.2≠0 then
   some (0,0,[],[],0,0,[],[],[],r4.2)
  else
   some (j3.2.1,j3.2.2.1,j3.2.2.2.1,j3.2.2.2.2.1,j3.2.2.2.2.2.1,j3.2.2.2.2.2.2.1,j3.2.2.2.2.2.2.2.1,j3.2.2.2.2.2.2.2.2,r4.1,0)
 else
  if j3.1≠0 then
   some (0,0,[],[],0,0,[],[],[],j3.1)
  else
   some (j3.2.1,j3.2.2.1,j3.2.2.2.1,j3.2.2.2.2.1,j3.2.2.2.2.2.1,j3.2.2.2.2.2.2.1,j3.2.2.2.2.2.2.2.1,j3.2.2.2.2.2.2.2.2,[],0)
def zDa (a0:List Int) (a1:List Int) (x0:Int):Option (Sum Bool Unit):=
 if x0<(a0.length:Int) then
  if 0≤x0∧x0<(a0.length:Int) then
   if 0≤x0∧x0<(a1.length:Int) then
    if (at' a0 x0)≠(at' a1 x0) then
     some (.inl false)
    else
     zDa a0 a1 (IntKind.i64.wrap (x0+1))
   else none
  else none
 else
  some (.inr ())
 partial_fixpoint
def zDh (a0:List Int) (a1:List Int):Option Bool:=
 if (a0.length:Int)≠(a1.length:Int) then
  some false
 else
  (zDa a0 a1 0)>>=fun e=>match e with
  | .inl r=>some r
  | .inr j1=>
   some true
def zE9:Option Bool:=
 (zHk (⟨1,1,0⟩:zAk) [3,-5] [0,0] 1 [])>>=fun r1=>
 ((
  if r1.2.2.2.2.2.2.2.2.2=0 then
   some ((r1.2.2.1.length:Int)==1)
  else
   some false):Option Bool)>>=fun j2=>
 ((
  if j2=true then
   if 0≤(0:Int)∧(0:Int)<(r1.2.2.1.length:Int) then
    some ((at' r1.2.2.1 0)==1)
   else none
  else
   some false):Option Bool)>>=fun j3=>
 ((
  if j3=true then
   (zDh r1.2.2.2.1 [-5])>>=fun r4=>
   some r4
  else
   some false):Option Bool)>>=fun j5=>
 ((
  if j5=true then
   (zDh r1.2.2.2.2.2.2.2.2.1 [3,0])>>=fun r6=>
   some r6
  else
   some false):Option Bool)>>=fun j7=>
 some j7
def zB0 (a0:List Int) (a1:List (List Int)) (x0:Int):Option (Sum Bool Unit):=
 if x0<(a1.length:Int) then
  if 0≤x0∧x0<(a1.length:Int) then
   ((
    if ((at' a1 x0).length:Int)>200 then
     some (decide (((at' a1 x0).length:Int)≤4096))
    else
     some false):Option Bool)>>=fun j1=>
   ((
    if j1=true then
     some true
    else
     some (decide (((at' a1 x0).length:Int)>5000))):Option Bool)>>=fun j2=>
   if j2=true then
    some (.inl false)
   else
    zB0 a0 a1 (IntKind.i64.wrap (x0+1))
  else none
 else
  some (.inr ())
 partial_fixpoint
def zFM (a0:List Int) (a1:List (List Int)):Option Bool:=
 (zB0 a0 a1 0)>>=fun e=>match e with
 | .inl r=>some r
 | .inr j3=>
  ((
   if (a0.length:Int)≤50 then
    some (decide ((a1.length:Int)≤30))
   else
    some false):Option Bool)>>=fun j4=>
  some j4
def zAZ (a0:List Int):Option (List Int):=
 if room 1 ([]++a0).length then
  some ([]++a0)
 else none
def zDx (x0:List Int) (x1:Int):Option ((List Int)×Int):=
 if x1>127 then
  if room 1 (x0++[bOr .u8 (IntKind.u8.wrap x1) 128]).length then
   some (x0++[bOr .u8 (IntKind.u8.wrap x1) 128])>>=fun y1=>
   zDx y1 (sShr .u64 x1 7)
  else none
 else
  some (x0,x1)
 partial_fixpoint
def zJT (a0:List Int) (a1:Int):Option (List Int):=
 (zDx a0 a1)>>=fun j3=>
 if room 1 (j3.1++[IntKind.u8.wrap j3.2]).length then
  some (j3.1++[IntKind.u8.wrap j3.2])
 else none
def zD2 (a1:List Int) (x0:Int) (x1:List Int):Option (List Int):=
 if x0<(a1.length:Int) then
  if 0≤x0∧x0<(a1.length:Int) then
   (zJT x1 (at' a1 x0))>>=fun r2=>
   zD2 a1 (IntKind.i64.wrap (x0+1)) r2
  else none
 else
  some x1
 partial_fixpoint
def zEI (a0:List Int) (a1:List Int):Option (List Int):=
 (zAZ a0)>>=fun r1=>
 (zD2 a1 0 r1)>>=fun j3=>
 some j3
def zMC (a0:Int):Option Int:=
 some (bXor .u64 (IntKind.u64.wrap (sShl .i64 a0 1)) (IntKind.u64.wrap (sShr .i64 a0 63)))
def zCv (a1:List Int) (x0:Int) (x1:List Int):Option (List Int):=
 if x0<(a1.length:Int) then
  if 0≤x0∧x0<(a1.length:Int) then
   (zMC (at' a1 x0))>>=fun r2=>
   (zJT x1 r2)>>=fun r3=>
   zCv a1 (IntKind.i64.wrap (x0+1)) r3
  else none
 else
  some x1
 partial_fixpoint
def zHZ (a0:List Int) (a1:List Int):Option (List Int):=
 (zAZ a0)>>=fun r1=>
 (zCv a1 0 r1)>>=fun j4=>
 some j4
def zCo (a0:zAu) (a1:zAc):Option ((List Int)×Int):=
 (zHZ a0.F_b a1.F_V)>>=fun r1=>
 some (r1,a0.F_e)
def zDn (a1:List Int) (x0:Int) (x1:Int) (x2:List Int):Option (List Int):=
 if x0<(a1.length:Int) then
  if 0≤x0∧x0<(a1.length:Int) then
   if room 8 (x2++[IntKind.u64.wrap (IntKind.i64.wrap ((IntKind.i64.wrap ((at' a1 x0)-x1))-1))]).length then
    some (x2++[IntKind.u64.wrap (IntKind.i64.wrap ((IntKind.i64.wrap ((at' a1 x0)-x1))-1))])>>=fun y6=>
    zDn a1 (IntKind.i64.wrap (x0+1)) (at' a1 x0) y6
   else none
  else none
 else
  some x2
 partial_fixpoint
def zJK (a0:Int) (a1:List Int):Option ((List Int)×Int):=
 (zEy a0 a1)>>=fun r1=>
 if r1≠0 then
  some ([],r1)
 else
  if 0≤(0:Int)∧(0:Int)≤IntKind.i64.wrap ((a1.length:Int)+1)∧IntKind.i64.wrap ((a1.length:Int)+1)≤140737488355328∧(IntKind.i64.wrap ((a1.length:Int)+1))*((8:Nat):Int)≤140737488355328 then
   some (List.replicate (Int.toNat 0) 0)>>=fun y2=>
   if room 8 (y2++[IntKind.u64.wrap (a1.length:Int)]).length then
    some (y2++[IntKind.u64.wrap (a1.length:Int)])>>=fun y4=>
    (zDn a1 0 (-1) y4)>>=fun j8=>
    (zEI [] j8)>>=fun r9=>
    some (r9,0)
   else none
  else none
def zBA (a0:zAu) (a1:List Int) (a2:Int):Option ((List Int)×Int):=
 if room 1 (a0.F_b++a1).length then
  if a2≠0 then
   some (a0.F_b++a1,a2)
  else
   some (a0.F_b++a1,a0.F_e)
 else none
def zFs (a0:zAu) (a1:zAc):Option ((List Int)×Int):=
 (zJK a1.F_Dim a1.F_L)>>=fun r1=>
 (zBA a0 r1.1 r1.2)>>=fun r2=>
 (zCo (⟨r2.1,r2.2⟩:zAu) a1)>>=fun r3=>
 some (r3.1,r3.2)
def zFV (a0:Int):Option Int:=
 some a0
def zDi (a0:Int) (a1:Int):Option (Int×Int):=
 ((
  if a0<0 then
   some true
  else
   some (decide (a0>32))):Option Bool)>>=fun j1=>
 ((
  if j1=true then
   some true
  else
   some (decide (a1<0))):Option Bool)>>=fun j2=>
 if j2=true then
  some (0,1)
 else
  if a1>4096 then
   some (0,3)
  else
   some (sShr .i64 (IntKind.i64.wrap ((IntKind.i64.wrap (a0*a1))+7)) 3,0)
def zHT (a0:Int) (a1:Int):Option Bool:=
 if 0≤a1 then
  some ((sShr .u64 a0 a1) !=0)
 else none
def zAq (a0:List Int) (a1:Int) (x0:Int):Option (Sum Int Unit):=
 if x0<(a0.length:Int) then
  if 0≤x0∧x0<(a0.length:Int) then
   (zHT (at' a0 x0) a1)>>=fun r1=>
   if r1=true then
    some (.inl x0)
   else
    zAq a0 a1 (IntKind.i64.wrap (x0+1))
  else none
 else
  some (.inr ())
 partial_fixpoint
def zBH (a0:List Int) (a1:Int):Option Int:=
 (zAq a0 a1 0)>>=fun e=>match e with
 | .inl r=>some r
 | .inr j2=>
  some (-1)
def zAC (a0:List Int) (a1:Int):Option Bool:=
 (zBH a0 a1)>>=fun r1=>
 some (decide (r1≥0))
def zBz (a0:Int) (a1:Int) (a2:Int):Option Int:=
 some (IntKind.i64.wrap ((IntKind.i64.wrap (a1*a2))+a0))
def zBd (a0:Int) (a1:List Int) (a2:Int) (x0:Int) (x0_:Int) (x1_:List Int):Option (List Int):=
 if x0_<a0 then
  (zBz x0 x0_ a2)>>=fun r5=>
  if 0≤sShr .i64 r5 3∧sShr .i64 r5 3<(x1_.length:Int) then
   if 0≤IntKind.i64.wrap ((IntKind.i64.wrap (a0-1))-x0_) then
    if 0≤IntKind.i64.wrap (7-(bAnd .i64 r5 7)) then
     if 0≤sShr .i64 r5 3∧sShr .i64 r5 3<(x1_.length:Int) then
      some (x1_.set (Int.toNat (sShr .i64 r5 3)) (bOr .u8 (at' x1_ (sShr .i64 r5 3)) (sShl .u8 (IntKind.u8.wrap (bAnd .u64 (sShr .u64 (at' a1 x0) (IntKind.i64.wrap ((IntKind.i64.wrap (a0-1))-x0_))) 1)) (IntKind.i64.wrap (7-(bAnd .i64 r5 7))))))>>=fun y6=>
      zBd a0 a1 a2 x0 (IntKind.i64.wrap (x0_+1)) y6
     else none
    else none
   else none
  else none
 else
  some x1_
 partial_fixpoint
def zBg (a0:Int) (a1:List Int) (a2:Int) (x0:Int) (x1:List Int):Option (List Int):=
 if x0<(a1.length:Int) then
  if 0≤x0∧x0<(a1.length:Int) then
   (zBd a0 a1 a2 x0 0 x1)>>=fun j8=>
   zBg a0 a1 a2 (IntKind.i64.wrap (x0+1)) j8
  else none
 else
  some x1
 partial_fixpoint
def zCQ (a0:Int) (a1:List Int) (a2:Int):Option ((List Int)×Int):=
 (zDi a0 (a1.length:Int))>>=fun r1=>
 if r1.2≠0 then
  some ([],r1.2)
 else
  (zAC a1 a0)>>=fun r2=>
  if r2=true then
   some ([],1)
  else
   if 0≤r1.1∧r1.1≤r1.1∧r1.1≤140737488355328∧r1.1*((1:Nat):Int)≤140737488355328 then
    some (List.replicate (Int.toNat r1.1) 0)>>=fun y3=>
    (zBg a0 a1 a2 0 y3)>>=fun j9=>
    some (j9,0)
   else none
def zKA (a0:Int) (a1:List Int):Option ((List Int)×Int):=
 (zFV (a1.length:Int))>>=fun r1=>
 (zCQ a0 a1 r1)>>=fun r2=>
 some (r2.1,r2.2)
def zGC (a0:Int):Option Int:=
 some a0
def zBG (a0:Int) (a1:Int) (a2:Int):Option Int:=
 some (IntKind.i64.wrap ((IntKind.i64.wrap (a0*a2))+a1))
def zBm (a0:Int) (a1:List Int) (a2:Int) (x0:Int) (x0_:Int) (x1_:List Int):Option (List Int):=
 if x0_<a0 then
  (zBG x0 x0_ a2)>>=fun r5=>
  if 0≤sShr .i64 r5 3∧sShr .i64 r5 3<(x1_.length:Int) then
   if 0≤IntKind.i64.wrap ((IntKind.i64.wrap (a0-1))-x0_) then
    if 0≤IntKind.i64.wrap (7-(bAnd .i64 r5 7)) then
     if 0≤sShr .i64 r5 3∧sShr .i64 r5 3<(x1_.length:Int) then
      some (x1_.set (Int.toNat (sShr .i64 r5 3)) (bOr .u8 (at' x1_ (sShr .i64 r5 3)) (sShl .u8 (IntKind.u8.wrap (bAnd .u64 (sShr .u64 (at' a1 x0) (IntKind.i64.wrap ((IntKind.i64.wrap (a0-1))-x0_))) 1)) (IntKind.i64.wrap (7-(bAnd .i64 r5 7))))))>>=fun y6=>
      zBm a0 a1 a2 x0 (IntKind.i64.wrap (x0_+1)) y6
     else none
    else none
   else none
  else none
 else
  some x1_
 partial_fixpoint
def zBq (a0:Int) (a1:List Int) (a2:Int) (x0:Int) (x1:List Int):Option (List Int):=
 if x0<(a1.length:Int) then
  if 0≤x0∧x0<(a1.length:Int) then
   (zBm a0 a1 a2 x0 0 x1)>>=fun j8=>
   zBq a0 a1 a2 (IntKind.i64.wrap (x0+1)) j8
  else none
 else
  some x1
 partial_fixpoint
def zDb (a0:Int) (a1:List Int) (a2:Int):Option ((List Int)×Int):=
 (zDi a0 (a1.length:Int))>>=fun r1=>
 if r1.2≠0 then
  some ([],r1.2)
 else
  (zAC a1 a0)>>=fun r2=>
  if r2=true then
   some ([],1)
  else
   if 0≤r1.1∧r1.1≤r1.1∧r1.1≤140737488355328∧r1.1*((1:Nat):Int)≤140737488355328 then
    some (List.replicate (Int.toNat r1.1) 0)>>=fun y3=>
    (zBq a0 a1 a2 0 y3)>>=fun j9=>
    some (j9,0)
   else none
def zLH (a0:Int) (a1:List Int):Option ((List Int)×Int):=
 (zGC a0)>>=fun r1=>
 (zDb a0 a1 r1)>>=fun r2=>
 some (r2.1,r2.2)
def zCa (a0:List Bool) (x0:Int) (x1:List Int):Option (List Int):=
 if x0<(a0.length:Int) then
  if 0≤x0∧x0<(a0.length:Int) then
   if (at' a0 x0)=true then
    if 0≤x0∧x0<(x1.length:Int) then
     zCa a0 (IntKind.i64.wrap (x0+1)) (x1.set (Int.toNat x0) 1)
    else none
   else
    zCa a0 (IntKind.i64.wrap (x0+1)) x1
  else none
 else
  some x1
 partial_fixpoint
def zF4 (a0:List Bool):Option ((List Int)×Int):=
 if 0≤(a0.length:Int)∧(a0.length:Int)≤(a0.length:Int)∧(a0.length:Int)≤140737488355328∧(a0.length:Int)*((8:Nat):Int)≤140737488355328 then
  some (List.replicate (Int.toNat (a0.length:Int)) 0)>>=fun y1=>
  (zCa a0 0 y1)>>=fun j3=>
  (zLH 1 j3)>>=fun r4=>
  some (r4.1,r4.2)
 else none
def zEp (a0:zAu) (a1:zAc):Option ((List Int)×Int):=
 ((
  (zEI a0.F_b [IntKind.u64.wrap a1.F_Scale])>>=fun r1=>
  if room 1 (r1++[IntKind.u8.wrap a1.F_Wide]).length then
   some (r1++[IntKind.u8.wrap a1.F_Wide])
  else none):Option (List Int))>>=fun j2=>
 (zKA a1.F_Wide a1.F_Lev)>>=fun r3=>
 (zBA (⟨j2,a0.F_e⟩:zAu) r3.1 r3.2)>>=fun r4=>
 (zF4 a1.F_Neg)>>=fun r5=>
 (zBA (⟨r4.1,r4.2⟩:zAu) r5.1 r5.2)>>=fun r6=>
 some (r6.1,r6.2)
def zEP (a0:zAu) (a1:zAc):Option ((List Int)×Int):=
 (zEI a0.F_b [IntKind.u64.wrap a1.F_Scale])>>=fun r1=>
 (zF4 a1.F_Neg)>>=fun r2=>
 (zBA (⟨r1,a0.F_e⟩:zAu) r2.1 r2.2)>>=fun r3=>
 some (r3.1,r3.2)
def zHN (a0:zAc):Option ((List Int)×Int):=
 (zCz a0)>>=fun r1=>
 if r1=false then
  some ([],1)
 else
  (zEI [IntKind.u8.wrap a0.F_Scheme] [IntKind.u64.wrap a0.F_Dim])>>=fun r2=>
  ((
   if a0.F_Scheme=(0:Int) then
    (zCo (⟨r2,0⟩:zAu) a0)>>=fun r3=>
    some (r3.1,r3.2)
   else
    if a0.F_Scheme=(1:Int) then
     (zFs (⟨r2,0⟩:zAu) a0)>>=fun r4=>
     some (r4.1,r4.2)
    else
     if a0.F_Scheme=(2:Int) then
      (zEp (⟨r2,0⟩:zAu) a0)>>=fun r5=>
      some (r5.1,r5.2)
     else
      if a0.F_Scheme=(3:Int) then
       (zEP (⟨r2,0⟩:zAu) a0)>>=fun r6=>
       some (r6.1,r6.2)
      else
       none):Option ((List Int)×Int))>>=fun j7=>
  if j7.2≠0 then
   some ([],j7.2)
  else
   some (j7.1,0)
def zIW (a0:zAk) (a1:List Int) (a2:zAc):Option Bool:=
 (zAO a1 a2.F_V)>>=fun r1=>
 some r1
def zMI (a0:Int) (a1:List Int) (a2:zAc):Option Bool:=
 (zGL a0 a1)>>=fun r1=>
 ((
  if r1.2.2.2.2.2.2≠0 then
   some true
  else
   (zBJ r1.2.2.1 a2.F_L)>>=fun r2=>
   some (!r2)):Option Bool)>>=fun j3=>
 ((
  if j3=true then
   some true
  else
   (zAO r1.2.2.2.1 a2.F_V)>>=fun r4=>
   some (!r4)):Option Bool)>>=fun j5=>
 if j5=true then
  some false
 else
  ((
   if a2.F_Scheme=r1.1 then
    some (a2.F_Dim==r1.2.1)
   else
    some false):Option Bool)>>=fun j6=>
  ((
   if j6=true then
    some (a2.F_Scale==0)
   else
    some false):Option Bool)>>=fun j7=>
  ((
   if j7=true then
    some (a2.F_Wide==0)
   else
    some false):Option Bool)>>=fun j8=>
  ((
   if j8=true then
    some ((IntKind.i64.wrap ((a2.F_Lev.length:Int)+(a2.F_Neg.length:Int)))==0)
   else
    some false):Option Bool)>>=fun j9=>
  some j9
def zJf (a0:zAk) (a1:List Int) (a2:zAc):Option Bool:=
 (zMI a0.F_K a1 a2)>>=fun r1=>
 some r1
def zFU (a0:Int) (a1:List Int) (a2:Int) (a3:Int) (a4:Int) (a5:List Int) (a6:List Int) (a7:Int) (a8:Int) (a9:List Int) (a10:List Bool):Option Bool:=
 if 0≤a0∧a0<(a1.length:Int) then
  (zF9 (at' a1 a0) a2 a8)>>=fun r1=>
  if 0≤a0∧a0<(a9.length:Int) then
   if r1.2.2≠0 then
    some true
   else
    if 0≤a0∧a0<(a10.length:Int) then
     if 0≤a0∧a0<(a1.length:Int) then
      if (at' a10 a0)≠(decide ((at' a1 a0)<0)) then
       some true
      else
       if (IntKind.u64.wrap ((at' a9 a0)-r1.1))>1 then
        some true
       else
        if (IntKind.u64.wrap ((at' a9 a0)-r1.1))=1 then
         some (r1.2.1==0)
        else
         some false
     else none
    else none
  else none
 else none
def zC5 (a0:List Int) (a1:zAc) (r1:Int×Int) (x0:Int):Option (Sum Bool Unit):=
 if x0<(a0.length:Int) then
  (zFU x0 a0 r1.1 a1.F_Scheme a1.F_Dim a1.F_L a1.F_V a1.F_Scale a1.F_Wide a1.F_Lev a1.F_Neg)>>=fun r7=>
  if r7=true then
   some (.inl false)
  else
   zC5 a0 a1 r1 (IntKind.i64.wrap (x0+1))
 else
  some (.inr ())
 partial_fixpoint
def zHP (a0:List Int) (a1:zAc):Option Bool:=
 (zHU a0)>>=fun r1=>
 ((
  if r1.2≠0 then
   some true
  else
   (zCz a1)>>=fun r2=>
   some (!r2)):Option Bool)>>=fun j3=>
 ((
  if j3=true then
   some true
  else
   some (a1.F_Scheme !=2)):Option Bool)>>=fun j4=>
 ((
  if j4=true then
   some true
  else
   some (a1.F_Dim !=(a0.length:Int))):Option Bool)>>=fun j5=>
 ((
  if j5=true then
   some true
  else
   some (a1.F_Scale !=r1.1)):Option Bool)>>=fun j6=>
 if j6=true then
  some false
 else
  (zC5 a0 a1 r1 0)>>=fun e=>match e with
  | .inl r=>some r
  | .inr j8=>
   some true
def zJg (a0:zAk) (a1:List Int) (a2:zAc):Option Bool:=
 ((
  if a2.F_Wide=a0.F_Wide then
   (zHP a1 a2)>>=fun r1=>
   some r1
  else
   some false):Option Bool)>>=fun j2=>
 some j2
def zMs (a0:List Int) (a1:zAc):Option Bool:=
 (zGM a0)>>=fun r1=>
 ((
  if r1.2.2.2.2.2=0 then
   (zCz a1)>>=fun r2=>
   some r2
  else
   some false):Option Bool)>>=fun j3=>
 ((
  if j3=true then
   some (a1.F_Scheme==3)
  else
   some false):Option Bool)>>=fun j4=>
 ((
  if j4=true then
   some (a1.F_Scale==r1.2.2.1)
  else
   some false):Option Bool)>>=fun j5=>
 ((
  if j5=true then
   (zCe a1.F_Neg r1.2.2.2.2.1)>>=fun r6=>
   some r6
  else
   some false):Option Bool)>>=fun j7=>
 some j7
def zIb (a0:zAk) (a1:List Int) (a2:zAc):Option Bool:=
 (zMs a1 a2)>>=fun r1=>
 some r1
def zHq (a0:zAk) (a1:List Int) (a2:zAc):Option Bool:=
 (zF0 a0 (a1.length:Int))>>=fun r1=>
 if r1=0 then
  (zCz a2)>>=fun r2=>
  if r2=true then
   if a2.F_Scheme=a0.F_Scheme then
    (zDd)>>=fun r3=>
    if a0.F_Scheme=(0:Int) then
     (zIW a0 a1 a2)>>=fun r4=>
     some r4
    else
     if a0.F_Scheme=(1:Int) then
      (zJf a0 a1 a2)>>=fun r5=>
      some r5
     else
      if a0.F_Scheme=(2:Int) then
       (zJg a0 a1 a2)>>=fun r6=>
       some r6
      else
       if a0.F_Scheme=(3:Int) then
        (zIb a0 a1 a2)>>=fun r7=>
        some r7
       else
        none
   else
    some false
  else
   some false
 else
  some false
def zCK (a0:List Int) (a1:List Int) (x0:Int):Option (Sum Bool Unit):=
 if x0<(a0.length:Int) then
  if 0≤x0∧x0<(a0.length:Int) then
   if 0≤x0∧x0<(a1.length:Int) then
    if (at' a0 x0)≠(at' a1 x0) then
     some (.inl false)
    else
     zCK a0 a1 (IntKind.i64.wrap (x0+1))
   else none
  else none
 else
  some (.inr ())
 partial_fixpoint
def zEH (a0:List Int) (a1:List Int):Option Bool:=
 if (a0.length:Int)≠(a1.length:Int) then
  some false
 else
  (zCK a0 a1 0)>>=fun e=>match e with
  | .inl r=>some r
  | .inr j1=>
   some true
def zBQ (a0:List Int) (a1:List Int) (x0:Int):Option (Sum Bool Unit):=
 if x0<(a0.length:Int) then
  if 0≤x0∧x0<(a0.length:Int) then
   if 0≤x0∧x0<(a1.length:Int) then
    if (at' a0 x0)≠(at' a1 x0) then
     some (.inl false)
    else
     zBQ a0 a1 (IntKind.i64.wrap (x0+1))
   else none
  else none
 else
  some (.inr ())
 partial_fixpoint
def zCZ (a0:List Int) (a1:List Int):Option Bool:=
 if (a0.length:Int)≠(a1.length:Int) then
  some false
 else
  (zBQ a0 a1 0)>>=fun e=>match e with
  | .inl r=>some r
  | .inr j1=>
   some true
def zB2 (a0:List Bool) (a1:List Bool) (x0:Int):Option (Sum Bool Unit):=
 if x0<(a0.length:Int) then
  if 0≤x0∧x0<(a0.length:Int) then
   if 0≤x0∧x0<(a1.length:Int) then
    if (at' a0 x0)≠(at' a1 x0) then
     some (.inl false)
    else
     zB2 a0 a1 (IntKind.i64.wrap (x0+1))
   else none
  else none
 else
  some (.inr ())
 partial_fixpoint
def zDt (a0:List Bool) (a1:List Bool):Option Bool:=
 if (a0.length:Int)≠(a1.length:Int) then
  some false
 else
  (zB2 a0 a1 0)>>=fun e=>match e with
  | .inl r=>some r
  | .inr j1=>
   some true
def zDB (a0:zAc) (a1:zAc):Option Bool:=
 ((
  if a0.F_Scheme=a1.F_Scheme then
   some (a0.F_Dim==a1.F_Dim)
  else
   some false):Option Bool)>>=fun j1=>
 ((
  if j1=true then
   (zEH a0.F_L a1.F_L)>>=fun r2=>
   some r2
  else
   some false):Option Bool)>>=fun j3=>
 ((
  if j3=true then
   (zDh a0.F_V a1.F_V)>>=fun r4=>
   some r4
  else
   some false):Option Bool)>>=fun j5=>
 ((
  if j5=true then
   some (a0.F_Scale==a1.F_Scale)
  else
   some false):Option Bool)>>=fun j6=>
 ((
  if j6=true then
   some (a0.F_Wide==a1.F_Wide)
  else
   some false):Option Bool)>>=fun j7=>
 ((
  if j7=true then
   (zCZ a0.F_Lev a1.F_Lev)>>=fun r8=>
   some r8
  else
   some false):Option Bool)>>=fun j9=>
 ((
  if j9=true then
   (zDt a0.F_Neg a1.F_Neg)>>=fun r10=>
   some r10
  else
   some false):Option Bool)>>=fun j11=>
 some j11
def zDL (a0:zAE):Option Int:=
 ((
  if a0.F_From≥0 then
   some (decide (a0.F_From<64))
  else
   some false):Option Bool)>>=fun j1=>
 ((
  if j1=true then
   some (decide (a0.F_Step≥0))
  else
   some false):Option Bool)>>=fun j2=>
 ((
  if j2=true then
   some (decide (a0.F_Step≤1073741824))
  else
   some false):Option Bool)>>=fun j3=>
 if j3=true then
  if a0.F_Kind=1 then
   (zCz a0.F_S)>>=fun r4=>
   if r4=true then
    some 0
   else
    if a0.F_Kind=2 then
     (zFu a0.F_S (⟨0,0,[],[],0,0,[],[]⟩:zAc))>>=fun r5=>
     if r5=true then
      some 0
     else
      some 1
    else
     some 1
  else
   if a0.F_Kind=2 then
    (zFu a0.F_S (⟨0,0,[],[],0,0,[],[]⟩:zAc))>>=fun r6=>
    if r6=true then
     some 0
    else
     some 1
   else
    some 1
 else
  some 1
def zMK (a0:List Int):Option Int:=
 (zGT 0 a0)>>=fun r1=>
 some r1
def zCh (x0:Int) (x1:Int) (x2:List Int):Option (List Int):=
 if x0<4 then
  if room 1 (x2++[IntKind.u8.wrap x1]).length then
   some (x2++[IntKind.u8.wrap x1])>>=fun y3=>
   zCh (IntKind.i64.wrap (x0+1)) (sShr .u32 x1 8) y3
  else none
 else
  some x2
 partial_fixpoint
def zEB (a0:List Int):Option ((List Int)×Int):=
 if (a0.length:Int)>65532 then
  some ([],3)
 else
  (zAZ a0)>>=fun r1=>
  (zMK a0)>>=fun r2=>
  (zCh 0 r2 r1)>>=fun j5=>
  some (j5,0)
def zHg (a0:zAE):Option ((List Int)×Int):=
 (zDL a0)>>=fun r1=>
 if r1≠0 then
  some ([],r1)
 else
  (zEI [1,IntKind.u8.wrap a0.F_Kind] [IntKind.u64.wrap a0.F_From,IntKind.u64.wrap a0.F_Step])>>=fun r2=>
  if a0.F_Kind=1 then
   (zHN a0.F_S)>>=fun r3=>
   if r3.2≠0 then
    some ([],r3.2)
   else
    if room 1 (r2++r3.1).length then
     (zEB (r2++r3.1))>>=fun r4=>
     some (r4.1,r4.2)
    else none
  else
   (zEB r2)>>=fun r5=>
   some (r5.1,r5.2)
def zBn (a0:List Int) (a1:List Int) (x0:Int):Option (Sum Bool Unit):=
 if x0<(a0.length:Int) then
  if 0≤x0∧x0<(a0.length:Int) then
   if 0≤x0∧x0<(a1.length:Int) then
    if (at' a0 x0)≠(at' a1 x0) then
     some (.inl false)
    else
     zBn a0 a1 (IntKind.i64.wrap (x0+1))
   else none
  else none
 else
  some (.inr ())
 partial_fixpoint
def zC1 (a0:List Int) (a1:List Int):Option Bool:=
 if (a0.length:Int)≠(a1.length:Int) then
  some false
 else
  (zBn a0 a1 0)>>=fun e=>match e with
  | .inl r=>some r
  | .inr j1=>
   some true
def zIi (a0:List Int):Option ((List Int)×Int):=
 if (a0.length:Int)>65536 then
  some ([],3)
 else
  if (IntKind.i64.wrap ((a0.length:Int)-4))<0 then
   some ([],5)
  else
   if cutOk none (some (IntKind.i64.wrap ((a0.length:Int)-4))) a0.length then
    some (cut' a0 none (some (IntKind.i64.wrap ((a0.length:Int)-4))))>>=fun y1=>
    (zEB y1)>>=fun r3=>
    ((
     if r3.2≠0 then
      some true
     else
      (zC1 r3.1 a0)>>=fun r4=>
      some (!r4)):Option Bool)>>=fun j5=>
    if j5=true then
     some ([],7)
    else
     if cutOk none (some (IntKind.i64.wrap ((a0.length:Int)-4))) a0.length then
      some (cut' a0 none (some (IntKind.i64.wrap ((a0.length:Int)-4))))>>=fun y6=>
      (zAZ y6)>>=fun r8=>
      some (r8,0)
     else none
   else none
def zA9 (a0:zAe) (a1:Int):Option ((List Int)×(List Int)×Int×Bool):=
 if a0.F_bad=true then
  if 0≤a1∧a1≤a1∧a1≤140737488355328∧a1*((1:Nat):Int)≤140737488355328 then
   some (List.replicate (Int.toNat a1) 0,a0.F_text.F_b,a0.F_text.F_at,true)
  else none
 else
  if a1>(IntKind.i64.wrap ((a0.F_text.F_b.length:Int)-a0.F_text.F_at)) then
   if 0≤a1∧a1≤a1∧a1≤140737488355328∧a1*((1:Nat):Int)≤140737488355328 then
    some (List.replicate (Int.toNat a1) 0,a0.F_text.F_b,a0.F_text.F_at,true)
   else none
  else
   if cutOk (some (IntKind.i64.wrap ((IntKind.i64.wrap (a0.F_text.F_at+a1))-a1))) (some (IntKind.i64.wrap (a0.F_text.F_at+a1))) a0.F_text.F_b.length then
    some (cut' a0.F_text.F_b (some (IntKind.i64.wrap ((IntKind.i64.wrap (a0.F_text.F_at+a1))-a1))) (some (IntKind.i64.wrap (a0.F_text.F_at+a1))),a0.F_text.F_b,IntKind.i64.wrap (a0.F_text.F_at+a1),a0.F_bad)
   else none
def zAB (a0:zAe):Option (Int×(List Int)×Int×Bool):=
 (zA9 a0 1)>>=fun r1=>
 if 0≤(0:Int)∧(0:Int)<(r1.1.length:Int) then
  some (IntKind.i64.wrap (at' r1.1 0),r1.2.1,r1.2.2.1,r1.2.2.2)
 else none
def zAT (a0:zAe) (a1:Bool):Option ((List Int)×Int×Bool):=
 ((
  if a0.F_bad=true then
   some true
  else
   some (!a1)):Option Bool)>>=fun j1=>
 some (a0.F_text.F_b,a0.F_text.F_at,j1)
def zEh (a1:Int) (y1:List Int) (x0:Int) (x1:Int):Option (Sum (Int×Int×Int) Unit):=
 if x0<(y1.length:Int) then
  if 0≤x0∧x0<(y1.length:Int) then
   ((
    if x0=9 then
     some (decide ((at' y1 x0)>1))
    else
     some false):Option Bool)>>=fun j3=>
   ((
    if j3=true then
     some true
    else
     ((
      if (at' y1 x0)<128 then
       some ((at' y1 x0)==0)
      else
       some false):Option Bool)>>=fun j4=>
     ((
      if j4=true then
       some (decide (x0>0))
      else
       some false):Option Bool)>>=fun j5=>
     some j5):Option Bool)>>=fun j6=>
   if j6=true then
    some (.inl (0,0,6))
   else
    if 0≤IntKind.i64.wrap (7*x0) then
     some (bOr .u64 x1 (sShl .u64 (IntKind.u64.wrap (bAnd .u8 (at' y1 x0) 127)) (IntKind.i64.wrap (7*x0))))>>=fun y7=>
     if (at' y1 x0)<128 then
      some (.inl (y7,IntKind.i64.wrap ((IntKind.i64.wrap (a1+x0))+1),0))
     else
      zEh a1 y1 (IntKind.i64.wrap (x0+1)) y7
    else none
  else none
 else
  some (.inr ())
 partial_fixpoint
def zHz (a0:List Int) (a1:Int):Option (Int×Int×Int):=
 if a1<0 then
  some (0,0,1)
 else
  if cutOk (some (if (a0.length:Int)<a1 then (a0.length:Int) else a1)) none a0.length then
   some (cut' a0 (some (if (a0.length:Int)<a1 then (a0.length:Int) else a1)) none)>>=fun y1=>
   (zEh a1 y1 0 0)>>=fun e=>match e with
   | .inl r=>some r
   | .inr j9=>
    some (0,0,5)
  else none
def zAx (a0:zAe) (a1:Int):Option (Int×(List Int)×Int×Bool):=
 (zHz a0.F_text.F_b a0.F_text.F_at)>>=fun r1=>
 ((
  if a0.F_bad=true then
   some true
  else
   some (r1.2.2 !=0)):Option Bool)>>=fun j2=>
 ((
  if j2=true then
   some true
  else
   some (decide (r1.1>a1))):Option Bool)>>=fun j3=>
 if j3=true then
  some (0,a0.F_text.F_b,a0.F_text.F_at,true)
 else
  some (r1.1,a0.F_text.F_b,r1.2.1,a0.F_bad)
def zMl (a0:Int):Option Int:=
 some (bXor .i64 (IntKind.i64.wrap (sShr .u64 a0 1)) (IntKind.i64.wrap (0-(IntKind.i64.wrap (bAnd .u64 a0 1)))))
def zAW (a1:Int) (x0:List Int) (x1:List Int) (x2:Int) (x3:Bool):Option ((List Int)×(List Int)×Int×Bool):=
 ((
  if x3=false then
   some (decide ((x0.length:Int)<a1))
  else
   some false):Option Bool)>>=fun j3=>
 if j3=true then
  (zAx (⟨(⟨x1,x2⟩:zAh),x3⟩:zAe) 18446744073709551615)>>=fun r4=>
  (zMl r4.1)>>=fun r5=>
  if room 8 (x0++[r5]).length then
   zAW a1 (x0++[r5]) r4.2.1 r4.2.2.1 r4.2.2.2
  else none
 else
  some (x0,x1,x2,x3)
 partial_fixpoint
def zBR (a0:zAe) (a1:Int):Option ((List Int)×(List Int)×Int×Bool):=
 if 0≤(0:Int)∧(0:Int)≤a1∧a1≤140737488355328∧a1*((8:Nat):Int)≤140737488355328 then
  some (List.replicate (Int.toNat 0) 0)>>=fun y1=>
  (zAW a1 y1 a0.F_text.F_b a0.F_text.F_at a0.F_bad)>>=fun j6=>
  some (j6.1,j6.2.1,j6.2.2.1,j6.2.2.2)
 else none
def zCj (a0:Int) (a1:List Int) (r2:Int×Int×Int) (x0:Int) (x1:Int) (x2:List Int) (x3:Int) (x4:Int):Option (Int×Int×(List Int)):=
 ((
  if x3=0 then
   some (decide (x0<r2.1))
  else
   some false):Option Bool)>>=fun j5=>
 if j5=true then
  (zHz a1 x4)>>=fun r6=>
  if r6.2.2≠0 then
   some (r6.2.2,r6.2.1,x2)
  else
   if r6.1≥(IntKind.u64.wrap (IntKind.i64.wrap ((IntKind.i64.wrap (a0-1))-x1))) then
    some (6,r6.2.1,x2)
   else
    some (IntKind.i64.wrap (x1+(IntKind.i64.wrap (1+(IntKind.i64.wrap r6.1)))))>>=fun y7=>
    if room 8 (x2++[IntKind.i64.wrap (x1+(IntKind.i64.wrap (1+(IntKind.i64.wrap r6.1))))]).length then
     some (x2++[IntKind.i64.wrap (x1+(IntKind.i64.wrap (1+(IntKind.i64.wrap r6.1))))])>>=fun y9=>
     zCj a0 a1 r2 (IntKind.u64.wrap (x0+1)) y7 y9 r6.2.2 r6.2.1
    else none
 else
  some (x3,x4,x2)
 partial_fixpoint
def zJF (a0:Int) (a1:List Int) (a2:Int):Option ((List Int)×Int×Int):=
 (zED a0)>>=fun r1=>
 if r1=false then
  some ([],0,1)
 else
  (zHz a1 a2)>>=fun r2=>
  ((
   if r2.2.2=0 then
    some (decide (r2.1>(IntKind.u64.wrap a0)))
   else
    some false):Option Bool)>>=fun j3=>
  ((
   if j3=true then
    some 6
   else
    some r2.2.2):Option Int)>>=fun j4=>
  (zCj a0 a1 r2 0 (-1) [] j4 r2.2.1)>>=fun j11=>
  if j11.1≠0 then
   some ([],0,j11.1)
  else
   some (j11.2.2,j11.2.1,0)
def zCt (a0:zAe) (a1:Int):Option ((List Int)×(List Int)×Int×Bool):=
 if a0.F_bad=true then
  some ([],a0.F_text.F_b,a0.F_text.F_at,a0.F_bad)
 else
  (zJF a1 a0.F_text.F_b a0.F_text.F_at)>>=fun r1=>
  if r1.2.2≠0 then
   some ([],a0.F_text.F_b,a0.F_text.F_at,true)
  else
   some (r1.1,a0.F_text.F_b,r1.2.1,a0.F_bad)
def zA1 (a0:Int) (a2:List Int) (a3:Int) (y4:List Int) (x0:Int) (x0_:Int) (x1_:List Int):Option (List Int):=
 if x0_<a0 then
  (zBz x0 x0_ a3)>>=fun r6=>
  if 0≤x0∧x0<(x1_.length:Int) then
   if 0≤sShr .i64 r6 3∧sShr .i64 r6 3<(a2.length:Int) then
    if 0≤IntKind.i64.wrap (7-(bAnd .i64 r6 7)) then
     if 0≤x0∧x0<(x1_.length:Int) then
      some (x1_.set (Int.toNat x0) (bOr .u64 (sShl .u64 (at' x1_ x0) 1) (IntKind.u64.wrap (bAnd .u8 (sShr .u8 (at' a2 (sShr .i64 r6 3)) (IntKind.i64.wrap (7-(bAnd .i64 r6 7)))) 1))))>>=fun y7=>
      zA1 a0 a2 a3 y4 x0 (IntKind.i64.wrap (x0_+1)) y7
     else none
    else none
   else none
  else none
 else
  some x1_
 partial_fixpoint
def zA2 (a0:Int) (a2:List Int) (a3:Int) (y4:List Int) (x0:Int) (x1:List Int):Option (List Int):=
 if x0<(y4.length:Int) then
  (zA1 a0 a2 a3 y4 x0 0 x1)>>=fun j9=>
  zA2 a0 a2 a3 y4 (IntKind.i64.wrap (x0+1)) j9
 else
  some x1
 partial_fixpoint
def zA5 (a0:Int) (a2:List Int) (a3:Int) (y11:List Int) (x0:Int) (x0_:Int) (x1_:List Int):Option (List Int):=
 if x0_<a0 then
  (zBz x0 x0_ a3)>>=fun r13=>
  if 0≤x0∧x0<(x1_.length:Int) then
   if 0≤sShr .i64 r13 3∧sShr .i64 r13 3<(a2.length:Int) then
    if 0≤IntKind.i64.wrap (7-(bAnd .i64 r13 7)) then
     if 0≤x0∧x0<(x1_.length:Int) then
      some (x1_.set (Int.toNat x0) (bOr .u64 (sShl .u64 (at' x1_ x0) 1) (IntKind.u64.wrap (bAnd .u8 (sShr .u8 (at' a2 (sShr .i64 r13 3)) (IntKind.i64.wrap (7-(bAnd .i64 r13 7)))) 1))))>>=fun y14=>
      zA5 a0 a2 a3 y11 x0 (IntKind.i64.wrap (x0_+1)) y14
     else none
    else none
   else none
  else none
 else
  some x1_
 partial_fixpoint
def zA4 (a0:Int) (a2:List Int) (a3:Int) (y11:List Int) (x0:Int) (x1:List Int):Option (List Int):=
 if x0<(y11.length:Int) then
  (zA5 a0 a2 a3 y11 x0 0 x1)>>=fun j16=>
  zA4 a0 a2 a3 y11 (IntKind.i64.wrap (x0+1)) j16
 else
  some x1
 partial_fixpoint
def zCF (a0:Int) (a1:Int) (a2:List Int) (a3:Int):Option ((List Int)×Int):=
 (zDi a0 a1)>>=fun r1=>
 if r1.2≠0 then
  some ([],r1.2)
 else
  if (a2.length:Int)≠r1.1 then
   some ([],4)
  else
   some (IntKind.i64.wrap ((IntKind.i64.wrap (8*r1.1))-(IntKind.i64.wrap (a0*a1))))>>=fun y2=>
   if y2>0 then
    if 0≤IntKind.i64.wrap (r1.1-1)∧IntKind.i64.wrap (r1.1-1)<(a2.length:Int) then
     if 0≤y2 then
      if (bAnd .u8 (at' a2 (IntKind.i64.wrap (r1.1-1))) (IntKind.u8.wrap ((sShl .u8 1 y2)-1)))≠0 then
       some ([],6)
      else
       if 0≤a1∧a1≤a1∧a1≤140737488355328∧a1*((8:Nat):Int)≤140737488355328 then
        some (List.replicate (Int.toNat a1) 0)>>=fun y4=>
        (zA2 a0 a2 a3 y4 0 y4)>>=fun j10=>
        some (j10,0)
       else none
     else none
    else none
   else
    if 0≤a1∧a1≤a1∧a1≤140737488355328∧a1*((8:Nat):Int)≤140737488355328 then
     some (List.replicate (Int.toNat a1) 0)>>=fun y11=>
     (zA4 a0 a2 a3 y11 0 y11)>>=fun j17=>
     some (j17,0)
    else none
def zIc (a0:Int) (a1:Int) (a2:List Int):Option ((List Int)×Int):=
 (zFV a1)>>=fun r1=>
 (zCF a0 a1 a2 r1)>>=fun r2=>
 some (r2.1,r2.2)
def zBc (a0:Int) (a2:List Int) (a3:Int) (y4:List Int) (x0:Int) (x0_:Int) (x1_:List Int):Option (List Int):=
 if x0_<a0 then
  (zBG x0 x0_ a3)>>=fun r6=>
  if 0≤x0∧x0<(x1_.length:Int) then
   if 0≤sShr .i64 r6 3∧sShr .i64 r6 3<(a2.length:Int) then
    if 0≤IntKind.i64.wrap (7-(bAnd .i64 r6 7)) then
     if 0≤x0∧x0<(x1_.length:Int) then
      some (x1_.set (Int.toNat x0) (bOr .u64 (sShl .u64 (at' x1_ x0) 1) (IntKind.u64.wrap (bAnd .u8 (sShr .u8 (at' a2 (sShr .i64 r6 3)) (IntKind.i64.wrap (7-(bAnd .i64 r6 7)))) 1))))>>=fun y7=>
      zBc a0 a2 a3 y4 x0 (IntKind.i64.wrap (x0_+1)) y7
     else none
    else none
   else none
  else none
 else
  some x1_
 partial_fixpoint
def zBb (a0:Int) (a2:List Int) (a3:Int) (y4:List Int) (x0:Int) (x1:List Int):Option (List Int):=
 if x0<(y4.length:Int) then
  (zBc a0 a2 a3 y4 x0 0 x1)>>=fun j9=>
  zBb a0 a2 a3 y4 (IntKind.i64.wrap (x0+1)) j9
 else
  some x1
 partial_fixpoint
def zBf (a0:Int) (a2:List Int) (a3:Int) (y11:List Int) (x0:Int) (x0_:Int) (x1_:List Int):Option (List Int):=
 if x0_<a0 then
  (zBG x0 x0_ a3)>>=fun r13=>
  if 0≤x0∧x0<(x1_.length:Int) then
   if 0≤sShr .i64 r13 3∧sShr .i64 r13 3<(a2.length:Int) then
    if 0≤IntKind.i64.wrap (7-(bAnd .i64 r13 7)) then
     if 0≤x0∧x0<(x1_.length:Int) then
      some (x1_.set (Int.toNat x0) (bOr .u64 (sShl .u64 (at' x1_ x0) 1) (IntKind.u64.wrap (bAnd .u8 (sShr .u8 (at' a2 (sShr .i64 r13 3)) (IntKind.i64.wrap (7-(bAnd .i64 r13 7)))) 1))))>>=fun y14=>
      zBf a0 a2 a3 y11 x0 (IntKind.i64.wrap (x0_+1)) y14
     else none
    else none
   else none
  else none
 else
  some x1_
 partial_fixpoint
def zBe (a0:Int) (a2:List Int) (a3:Int) (y11:List Int) (x0:Int) (x1:List Int):Option (List Int):=
 if x0<(y11.length:Int) then
  (zBf a0 a2 a3 y11 x0 0 x1)>>=fun j16=>
  zBe a0 a2 a3 y11 (IntKind.i64.wrap (x0+1)) j16
 else
  some x1
 partial_fixpoint
def zCT (a0:Int) (a1:Int) (a2:List Int) (a3:Int):Option ((List Int)×Int):=
 (zDi a0 a1)>>=fun r1=>
 if r1.2≠0 then
  some ([],r1.2)
 else
  if (a2.length:Int)≠r1.1 then
   some ([],4)
  else
   some (IntKind.i64.wrap ((IntKind.i64.wrap (8*r1.1))-(IntKind.i64.wrap (a0*a1))))>>=fun y2=>
   if y2>0 then
    if 0≤IntKind.i64.wrap (r1.1-1)∧IntKind.i64.wrap (r1.1-1)<(a2.length:Int) then
     if 0≤y2 then
      if (bAnd .u8 (at' a2 (IntKind.i64.wrap (r1.1-1))) (IntKind.u8.wrap ((sShl .u8 1 y2)-1)))≠0 then
       some ([],6)
      else
       if 0≤a1∧a1≤a1∧a1≤140737488355328∧a1*((8:Nat):Int)≤140737488355328 then
        some (List.replicate (Int.toNat a1) 0)>>=fun y4=>
        (zBb a0 a2 a3 y4 0 y4)>>=fun j10=>
        some (j10,0)
       else none
     else none
    else none
   else
    if 0≤a1∧a1≤a1∧a1≤140737488355328∧a1*((8:Nat):Int)≤140737488355328 then
     some (List.replicate (Int.toNat a1) 0)>>=fun y11=>
     (zBe a0 a2 a3 y11 0 y11)>>=fun j17=>
     some (j17,0)
    else none
def zJq (a0:Int) (a1:Int) (a2:List Int):Option ((List Int)×Int):=
 (zGC a0)>>=fun r1=>
 (zCT a0 a1 a2 r1)>>=fun r2=>
 some (r2.1,r2.2)
def zDc (r1:(List Int)×Int) (x0:Int) (x1:List Bool):Option (List Bool):=
 if x0<(r1.1.length:Int) then
  if 0≤x0∧x0<(r1.1.length:Int) then
   if 0≤x0∧x0<(x1.length:Int) then
    some (x1.set (Int.toNat x0) ((at' r1.1 x0)==1))>>=fun y4=>
    zDc r1 (IntKind.i64.wrap (x0+1)) y4
   else none
  else none
 else
  some x1
 partial_fixpoint
def zHV (a0:Int) (a1:List Int):Option ((List Bool)×Int):=
 (zJq 1 a0 a1)>>=fun r1=>
 if r1.2≠0 then
  some ([],r1.2)
 else
  if 0≤(r1.1.length:Int)∧(r1.1.length:Int)≤(r1.1.length:Int)∧(r1.1.length:Int)≤140737488355328∧(r1.1.length:Int)*((1:Nat):Int)≤140737488355328 then
   some (List.replicate (Int.toNat (r1.1.length:Int)) false)>>=fun y2=>
   (zDc r1 0 y2)>>=fun j6=>
   some (j6,0)
  else none
def zBW (a0:zAe) (a1:Int):Option ((List Bool)×(List Int)×Int×Bool):=
 (zA9 a0 (IntKind.i64.wrap (Int.tdiv (IntKind.i64.wrap (a1+7)) 8)))>>=fun r1=>
 (zHV a1 r1.1)>>=fun r2=>
 (zAT (⟨(⟨r1.2.1,r1.2.2.1⟩:zAh),r1.2.2.2⟩:zAe) (r2.2==0))>>=fun r3=>
 some (r2.1,r3.1,r3.2.1,r3.2.2)
def zCP (a0:zAe):Option (Int×Int×(List Int)×(List Int)×Int×Int×(List Int)×(List Bool)×(List Int)×Int×Bool):=
 (zAB a0)>>=fun r1=>
 (zAx (⟨(⟨r1.2.1,r1.2.2.1⟩:zAh),r1.2.2.2⟩:zAe) 4096)>>=fun r2=>
 (zAT (⟨(⟨r2.2.1,r2.2.2.1⟩:zAh),r2.2.2.2⟩:zAe) (decide ((IntKind.i64.wrap r2.1)>0)))>>=fun r3=>
 if r3.2.2=true then
  some (r1.1,IntKind.i64.wrap r2.1,[],[],0,0,[],[],r3.1,r3.2.1,r3.2.2)
 else
  if r1.1=0 then
   (zBR (⟨(⟨r3.1,r3.2.1⟩:zAh),r3.2.2⟩:zAe) (IntKind.i64.wrap r2.1))>>=fun r4=>
   some (r1.1,IntKind.i64.wrap r2.1,[],r4.1,0,0,[],[],r4.2.1,r4.2.2.1,r4.2.2.2)
  else
   if r1.1=1 then
    (zCt (⟨(⟨r3.1,r3.2.1⟩:zAh),r3.2.2⟩:zAe) (IntKind.i64.wrap r2.1))>>=fun r5=>
    (zBR (⟨(⟨r5.2.1,r5.2.2.1⟩:zAh),r5.2.2.2⟩:zAe) (r5.1.length:Int))>>=fun r6=>
    some (r1.1,IntKind.i64.wrap r2.1,r5.1,r6.1,0,0,[],[],r6.2.1,r6.2.2.1,r6.2.2.2)
   else
    if r1.1=2 then
     (zAx (⟨(⟨r3.1,r3.2.1⟩:zAh),r3.2.2⟩:zAe) 9223372036854775807)>>=fun r7=>
     (zAB (⟨(⟨r7.2.1,r7.2.2.1⟩:zAh),r7.2.2.2⟩:zAe))>>=fun r8=>
     ((
      if r8.1>0 then
       some (decide (r8.1≤8))
      else
       some false):Option Bool)>>=fun j9=>
     (zAT (⟨(⟨r8.2.1,r8.2.2.1⟩:zAh),r8.2.2.2⟩:zAe) j9)>>=fun r10=>
     if r10.2.2=true then
      some (r1.1,IntKind.i64.wrap r2.1,[],[],IntKind.i64.wrap r7.1,r8.1,[],[],r10.1,r10.2.1,r10.2.2)
     else
      (zDi r8.1 (IntKind.i64.wrap r2.1))>>=fun r11=>
      (zAT (⟨(⟨r10.1,r10.2.1⟩:zAh),r10.2.2⟩:zAe) (r11.2==0))>>=fun r12=>
      (zA9 (⟨(⟨r12.1,r12.2.1⟩:zAh),r12.2.2⟩:zAe) r11.1)>>=fun r13=>
      (zIc r8.1 (IntKind.i64.wrap r2.1) r13.1)>>=fun r14=>
      (zAT (⟨(⟨r13.2.1,r13.2.2.1⟩:zAh),r13.2.2.2⟩:zAe) (r14.2==0))>>=fun r15=>
      (zBW (⟨(⟨r15.1,r15.2.1⟩:zAh),r15.2.2⟩:zAe) (IntKind.i64.wrap r2.1))>>=fun r16=>
      some (r1.1,IntKind.i64.wrap r2.1,[],[],IntKind.i64.wrap r7.1,r8.1,r14.1,r16.1,r16.2.1,r16.2.2.1,r16.2.2.2)
    else
     if r1.1=3 then
      (zAx (⟨(⟨r3.1,r3.2.1⟩:zAh),r3.2.2⟩:zAe) 9223372036854775807)>>=fun r17=>
      (zBW (⟨(⟨r17.2.1,r17.2.2.1⟩:zAh),r17.2.2.2⟩:zAe) (IntKind.i64.wrap r2.1))>>=fun r18=>
      some (r1.1,IntKind.i64.wrap r2.1,[],[],IntKind.i64.wrap r17.1,0,[],r18.1,r18.2.1,r18.2.2.1,r18.2.2.2)
     else
      some (r1.1,IntKind.i64.wrap r2.1,[],[],0,0,[],[],r3.1,r3.2.1,true)
def zIe (a0:List Int):Option (Int×Int×Int×Int×Int×(List Int)×(List Int)×Int×Int×(List Int)×(List Bool)×Int):=
 (zIi a0)>>=fun r1=>
 if r1.2≠0 then
  some (0,0,0,0,0,[],[],0,0,[],[],r1.2)
 else
  (zAB (⟨(⟨r1.1,0⟩:zAh),false⟩:zAe))>>=fun r2=>
  (zAT (⟨(⟨r2.2.1,r2.2.2.1⟩:zAh),r2.2.2.2⟩:zAe) (r2.1==1))>>=fun r3=>
  (zAB (⟨(⟨r3.1,r3.2.1⟩:zAh),r3.2.2⟩:zAe))>>=fun r4=>
  (zAx (⟨(⟨r4.2.1,r4.2.2.1⟩:zAh),r4.2.2.2⟩:zAe) 63)>>=fun r5=>
  (zAx (⟨(⟨r5.2.1,r5.2.2.1⟩:zAh),r5.2.2.2⟩:zAe) 1073741824)>>=fun r6=>
  ((
   if r4.1=1 then
    some (!r6.2.2.2)
   else
    some false):Option Bool)>>=fun j7=>
  ((
   if j7=true then
    (zCP (⟨(⟨r6.2.1,r6.2.2.1⟩:zAh),r6.2.2.2⟩:zAe))>>=fun r8=>
    some (r8.1,r8.2.1,r8.2.2.1,r8.2.2.2.1,r8.2.2.2.2.1,r8.2.2.2.2.2.1,r8.2.2.2.2.2.2.1,r8.2.2.2.2.2.2.2.1,r8.2.2.2.2.2.2.2.2.1,r8.2.2.2.2.2.2.2.2.2.1,r8.2.2.2.2.2.2.2.2.2.2)
   else
    some (0,0,[],[],0,0,[],[],r6.2.1,r6.2.2.1,r6.2.2.2)):Option (Int×Int×(List Int)×(List Int)×Int×Int×(List Int)×(List Bool)×(List Int)×Int×Bool))>>=fun j9=>
  if j9.2.2.2.2.2.2.2.2.2.2=true then
   some (0,0,0,0,0,[],[],0,0,[],[],6)
  else
   if j9.2.2.2.2.2.2.2.2.2.1<(j9.2.2.2.2.2.2.2.2.1.length:Int) then
    some (0,0,0,0,0,[],[],0,0,[],[],6)
   else
    (zDL (⟨r4.1,IntKind.i64.wrap r5.1,IntKind.i64.wrap r6.1,(⟨j9.1,j9.2.1,j9.2.2.1,j9.2.2.2.1,j9.2.2.2.2.1,j9.2.2.2.2.2.1,j9.2.2.2.2.2.2.1,j9.2.2.2.2.2.2.2.1⟩:zAc)⟩:zAE))>>=fun r10=>
    if r10≠0 then
     some (0,0,0,0,0,[],[],0,0,[],[],6)
    else
     some (r4.1,IntKind.i64.wrap r5.1,IntKind.i64.wrap r6.1,j9.1,j9.2.1,j9.2.2.1,j9.2.2.2.1,j9.2.2.2.2.1,j9.2.2.2.2.2.1,j9.2.2.2.2.2.2.1,j9.2.2.2.2.2.2.2.1,0)
def zLe (a0:List Int) (a1:List Int):Option Bool:=
 (zAO a0 a1)>>=fun r1=>
 some r1
def zEt (a0:zAk) (a1:List Int) (a2:Int) (a3:List Int):Option Bool:=
 (zE9)>>=fun r1=>
 if r1=false then
  some false
 else
  (zFM a3 [a1])>>=fun r2=>
  if r2=false then
   some r1
  else
   (zF3 a0 a1 a2 a3)>>=fun r3=>
   if r3.2.2.2.2.2.2.2.2≠0 then
    ((
     if r1=true then
      some (r3.2.1==0)
     else
      some false):Option Bool)>>=fun j4=>
    some j4
   else
    (zFi (⟨r3.1,r3.2.1,r3.2.2.1,r3.2.2.2.1,r3.2.2.2.2.1,r3.2.2.2.2.2.1,r3.2.2.2.2.2.2.1,r3.2.2.2.2.2.2.2.1⟩:zAc))>>=fun r5=>
    (zGK a1 (⟨r3.1,r3.2.1,r3.2.2.1,r3.2.2.2.1,r3.2.2.2.2.1,r3.2.2.2.2.2.1,r3.2.2.2.2.2.2.1,r3.2.2.2.2.2.2.2.1⟩:zAc))>>=fun r6=>
    (zKb r5.1 r6.1)>>=fun r7=>
    (zHg (⟨1,0,0,(⟨r3.1,r3.2.1,r3.2.2.1,r3.2.2.2.1,r3.2.2.2.2.1,r3.2.2.2.2.2.1,r3.2.2.2.2.2.2.1,r3.2.2.2.2.2.2.2.1⟩:zAc)⟩:zAE))>>=fun r8=>
    (zIe r8.1)>>=fun r9=>
    (zHq a0 a1 (⟨r3.1,r3.2.1,r3.2.2.1,r3.2.2.2.1,r3.2.2.2.2.1,r3.2.2.2.2.2.1,r3.2.2.2.2.2.2.1,r3.2.2.2.2.2.2.2.1⟩:zAc))>>=fun r10=>
    ((
     if r10=false then
      some true
     else
      some (r5.2 !=0)):Option Bool)>>=fun j11=>
    ((
     if j11=true then
      some true
     else
      some (r8.2 !=0)):Option Bool)>>=fun j12=>
    ((
     if j12=true then
      some true
     else
      some (r9.2.2.2.2.2.2.2.2.2.2.2 !=0)):Option Bool)>>=fun j13=>
    ((
     if j13=true then
      some true
     else
      (zDB (⟨r9.2.2.2.1,r9.2.2.2.2.1,r9.2.2.2.2.2.1,r9.2.2.2.2.2.2.1,r9.2.2.2.2.2.2.2.1,r9.2.2.2.2.2.2.2.2.1,r9.2.2.2.2.2.2.2.2.2.1,r9.2.2.2.2.2.2.2.2.2.2.1⟩:zAc) (⟨r3.1,r3.2.1,r3.2.2.1,r3.2.2.2.1,r3.2.2.2.2.1,r3.2.2.2.2.2.1,r3.2.2.2.2.2.2.1,r3.2.2.2.2.2.2.2.1⟩:zAc))>>=fun r14=>
      some (!r14)):Option Bool)>>=fun j15=>
    if j15=true then
     some false
    else
     if r6.2≠0 then
      ((
       if r1=true then
        some (r6.2==2)
       else
        some false):Option Bool)>>=fun j16=>
      some j16
     else
      ((
       if r1=true then
        some (r7.2==0)
       else
        some false):Option Bool)>>=fun j17=>
      ((
       if j17=true then
        (zLe r7.1 a1)>>=fun r18=>
        some r18
       else
        some false):Option Bool)>>=fun j19=>
      some j19
end Go.Proofs.YtdgdgfckcnjpfaaGreat.Abs
