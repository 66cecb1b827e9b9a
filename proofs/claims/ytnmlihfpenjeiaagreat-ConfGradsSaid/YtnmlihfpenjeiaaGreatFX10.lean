/- Plain facts: lines and shares (soft, and the document's). Conditions: none. -/
import Derived.Test.YtnmlihfpenjeiaaGreatFX9
import Derived.Test.YtnmlihfpenjeiaaGreatFX6
namespace Go.Proofs.YtnmlihfpenjeiaaGreat.Abs
open Go Go.RowKit Go.IntWalk
set_option linter.unusedVariables false
set_option linter.unusedSimpArgs false
set_option linter.unnecessarySimpa false
set_option maxRecDepth 100000
def zAF (n k:Nat) (w:List Int):List (List Int):=(List.range k).map fun i=>(w.drop (i*n)).take n
theorem zDF (n k:Nat) (w:List Int):(zAF n k w).length=k:=by simp [zAF]
theorem zId {n k:Nat} {w r:List Int} (h:k*n≤w.length) (hr:r∈zAF n k w):r.length=n∧∀y∈r,y∈w:=by
 unfold zAF at hr
 obtain ⟨i,hi,rfl⟩:=List.mem_map.1 hr
 have hi:=List.mem_range.1 hi
 have:(i+1)*n≤k*n:=Nat.mul_le_mul_right n (by omega)
 rw [Nat.add_mul,Nat.one_mul] at this
 refine ⟨by rw [List.length_take,List.length_drop];omega,fun y hy=>List.mem_of_mem_drop (List.mem_of_mem_take hy)⟩
theorem zTC {n k:Nat} {w r:List Int} (hw:I64s w) (h:k*n≤w.length) (hr:r∈zAF n k w):I64s r:=fun y hy=>hw y ((zId h hr).2 y hy)
theorem zLa {n k:Nat} {w:List Int} (h:k*n≤w.length) (hk:1≤k):(at' (zAF n k w) 0).length=n:=by
 have h1:0<(zAF n k w).length:=by rw [zDF];omega
 have:at' (zAF n k w) 0∈zAF n k w:=by
  show (zAF n k w).getD 0 default∈_
  rw [List.getD_eq_getElem?_getD,List.getElem?_eq_getElem h1];simp
 exact (zId h this).1
theorem zUB {n k:Nat} {w:List Int} (hn:1≤n) (h:w.length=k*n):zEQ n w=zAF n k w:=by
 have e:zDm n w.length=k:=by
  unfold zDm
  rw [h]
  exact Nat.div_eq_of_lt_le (by omega) (by rw [Nat.succ_mul];omega)
 unfold zEQ zAF
 rw [e];rfl
theorem zWw (F:List (List Int)→List Int→Option (List (List Int))) (hF:∀x c,x.length≤200→c.length≤1000→F x c=some (x++[c])):∀(cs acc:List (List Int)),(∀c∈cs,c.length≤1000)→acc.length+cs.length≤200→List.foldlM F acc cs=some (acc++cs)
 | [],acc,h,hl=>by simp
 | c::cs,acc,h,hl=>by
  rw [List.foldlM_cons,hF acc c (by omega) (h c (by simp)),zAb,zWw F hF cs (acc++[c]) (fun x hx=>h x (by simp [hx])) (by simp at hl⊢;omega)]
  simp
theorem zGN {o n:Nat} (ho:o≤8) (hn:n≤17):o*n≤136:=Nat.mul_le_mul ho hn
theorem zYT {o n:Nat} (ho:2≤o):Int.tdiv ((o*n:Nat):Int) (o:Int)=(n:Int):=by
 rw [show Int.tdiv ((o*n:Nat):Int) (o:Int)=((o*n/o:Nat):Int) from rfl,Nat.mul_div_cancel_left _ (by omega)]
theorem zWy {o n:Nat} {w:List Int} (ho:2≤o∧o≤8) (hn:2≤n∧n≤17) (hw:w.length=o*n):zHI (o:Int) w=some (zAF n o w,0):=by
 have hb:=zGN ho.2 hn.2
 have hd:IntKind.i64.wrap (Int.tdiv (w.length:Int) (o:Int))=(n:Int):=by rw [hw,zYT ho.1,i64_in _ (by omega)]
 rw [zHI,zFQ,if_pos (by omega),zAb,zAb,if_neg (by simp;omega),if_pos (by omega),hd,zAb,i64_in ((n:Int)-1) (by omega),zGM,if_pos (by omega),zAb,if_neg (by simp),zAb,show (n:Int)*(o:Int)=((o*n:Nat):Int) by rw [Nat.mul_comm];simp,i64_in _ (by omega),zAb,if_neg (by rw [hw];simp),zCg,if_neg (by omega),zAb]
 simp only
 rw [if_pos ⟨by omega,by omega,by omega⟩,show (n:Int).toNat=n by omega,zUB (by omega) hw,
  zWw _ (fun x c hx hc=>by
   rw [zBu,if_pos (zB4 (by simp;omega)),zAb,List.nil_append,if_pos (zEy (by omega) (by simp;omega))]) (zAF n o w) [] (fun c hc=>by have:=(zId (by omega) hc).1;omega) (by rw [zDF];simp;omega),zAb,List.nil_append]
theorem zYr (w:List Int) (i j:Nat) (h:i≤j) (h2:j≤w.length):cutOk (some (i:Int)) (some (j:Int)) w.length∧cut' w (some (i:Int)) (some (j:Int))=(w.drop i).take (j-i):=by
 refine ⟨show 0≤(i:Int)∧(i:Int)≤(j:Int)∧(j:Int)≤(w.length:Int) by omega, ?_⟩
 show (w.take (j:Int).toNat).drop (i:Int).toNat=_
 rw [Int.toNat_natCast,Int.toNat_natCast,List.drop_take]
theorem zSD {o n:Nat} {w:List Int} (ho:2≤o∧o≤8) (hn:2≤n∧n≤17) (hw:w.length=o*n):∀(j k:Nat),k+j=o→zCd (o:Int) w (k:Int) (zAF n k w)=some (zAF n o w)
 | 0,k,h=>by rw [zCd,if_neg (by omega),show k=o by omega]
 | j+1,k,h=>by
  have hb:=zGN ho.2 hn.2
  have hd:IntKind.i64.wrap (Int.tdiv (w.length:Int) (o:Int))=(n:Int):=by rw [hw,zYT ho.1,i64_in _ (by omega)]
  have hk:(k+1)*n≤o*n:=Nat.mul_le_mul_right n (by omega)
  have hk0:(k+1)*n=k*n+n:=by rw [Nat.add_mul,Nat.one_mul]
  have e1:IntKind.i64.wrap ((k:Int)*(n:Int))=((k*n:Nat):Int):=by rw [←Int.natCast_mul,i64_in _ (by omega)]
  have e2:IntKind.i64.wrap (((k+1:Nat):Int)*(n:Int))=(((k+1)*n:Nat):Int):=by rw [←Int.natCast_mul,i64_in _ (by omega)]
  obtain ⟨hc,hx⟩:=zYr w (k*n) ((k+1)*n) (by omega) (by omega)
  rw [show (k+1)*n-k*n=n by omega] at hx
  have hr:zAF n (k+1) w=zAF n k w++[(w.drop (k*n)).take n]:=by unfold zAF;rw [List.range_succ];simp
  rw [zCd,if_pos (by omega),hd,e1,zAb,zAO (by omega),e2,zAb,if_pos hc,zAb,hx,if_pos (zB4 (by simp;omega)),if_pos (zEy (by omega) (by rw [List.length_append,zDF];simp;omega)),←hr]
  exact zSD ho hn hw j (k+1) (by omega)
theorem zSH {o n:Nat} {w:List Int} (ho:2≤o∧o≤8) (hn:2≤n∧n≤17) (hw:w.length=o*n):zEn (o:Int) w=some (zAF n o w,0):=by
 have hb:=zGN ho.2 hn.2
 have hd:IntKind.i64.wrap (Int.tdiv (w.length:Int) (o:Int))=(n:Int):=by rw [hw,zYT ho.1,i64_in _ (by omega)]
 have hm:Int.tmod (w.length:Int) (o:Int)=0:=by rw [hw,show Int.tmod ((o*n:Nat):Int) (o:Int)=((o*n % o:Nat):Int) from rfl,Nat.mul_mod_right];rfl
 have h:=zSD ho hn hw o 0 (by omega)
 rw [show ((0:Nat):Int)=0 from rfl,show zAF n 0 w=[] from rfl] at h
 rw [zEn,orB,if_neg (by simp only [Bool.or_eq_true,decide_eq_true_eq];omega),if_pos (by omega),if_pos (by omega),hm,hd,if_neg (by simp),zAb,orB,if_neg (by simp only [Bool.or_eq_true,decide_eq_true_eq];omega),h,zAb]
def zKX (a o:Int) (l:List zAa):Prop:=zEv a l∧∀s∈l,0≤s.F_Y∧s.F_Y<o
theorem zZ9 {a:Int} {l:List zAa} (h:zEv a l):∀(t:List zAa) (k:Nat),l.drop k=t→zAm l a (k:Int)=some (.inr ())
 | [],k,h1=>by rw [zAm,if_neg (zAT h1)]
 | x::t,k,h1=>by
  have g:=zAw h1
  rw [zAm,if_pos g.1,if_pos ⟨by omega,g.1⟩,g.2.1,zF5,zAb,if_neg (by simpa using h.1 x (zB8 h1)),zAO (by have:=h.2;omega)]
  exact zZ9 h t (k+1) g.2.2
theorem zAam {a o:Int} {l:List zAa} (h:zKX a o l):∀(t:List zAa) (k:Nat),l.drop k=t→zAl l o (k:Int)=some (.inr ())
 | [],k,h1=>by rw [zAl,if_neg (zAT h1)]
 | x::t,k,h1=>by
  have g:=zAw h1
  have hy:=h.2 x (zB8 h1)
  rw [zAl,if_pos g.1,if_pos ⟨by omega,g.1⟩,g.2.1,zFV,orB,zAb,if_neg (by simp only [Bool.or_eq_true,decide_eq_true_eq];omega),zAO (by have:=h.1.2;omega)]
  exact zAam h t (k+1) g.2.2
theorem zVt {a o:Int} {w:List Int} {l:List zAa} (ha:1≤a∧a≤16) (ho:2≤o∧o≤8) (h:zKX a o l):zFE a o w l=some (if (w.length:Int)=(a+1)*o then 0 else 4):=by
 have h1:=zZ9 h.1 l 0 rfl
 have h2:=zAam h l 0 rfl
 have h3:=h.1.2
 rw [show ((0:Nat):Int)=0 from rfl] at h1 h2
 rw [zFE,zKt,if_pos ⟨ha,ho⟩,zAb,if_neg (by simp)]
 simp only
 by_cases g:(w.length:Int)=(a+1)*o
 ·rw [if_pos g,if_neg (fun x=>x g),zAA,zAL,h1,zAb,zAb,zAb,zAb,if_neg (by simp),orB,
   if_neg (by simp only [Bool.or_eq_true,decide_eq_true_eq];omega),zAB,zAK,h2,zAb,zAb,zAb,zAb,if_neg (by simp)]
 ·rw [if_neg g,if_pos g,zAb,if_pos rfl]
theorem zXX {a o:Int} {l:List zAa} (h:zEv a l):∀(t:List zAa) (k:Nat),l.drop k=t→zBo a o l (k:Int)=some (.inr ())
 | [],k,h1=>by rw [zBo,if_neg (zAT h1)]
 | x::t,k,h1=>by
  have g:=zAw h1
  rw [zBo,if_pos g.1,if_pos ⟨by omega,g.1⟩,g.2.1,if_neg (by simpa using h.1 x (zB8 h1)),zAO (by have:=h.2;omega)]
  exact zXX h t (k+1) g.2.2
theorem zX8 {a o:Int} {l:List zAa} (h:zKX a o l):∀(t:List zAa) (k:Nat),l.drop k=t→zBm o l (k:Int)=some (.inr ())
 | [],k,h1=>by rw [zBm,if_neg (zAT h1)]
 | x::t,k,h1=>by
  have g:=zAw h1
  have hy:=h.2 x (zB8 h1)
  rw [zBm,if_pos g.1,if_pos ⟨by omega,g.1⟩,g.2.1,orB,if_neg (by simp only [Bool.or_eq_true,decide_eq_true_eq];omega),zAO (by have:=h.1.2;omega)]
  exact zX8 h t (k+1) g.2.2
theorem zYC {a o:Int} {w:List Int} {l:List zAa} (ha:1≤a∧a≤16) (ho:2≤o∧o≤8) (h:zKX a o l):zDo a o w l=some (if (w.length:Int)=(a+1)*o then 0 else 4):=by
 have h1:=zXX (o:=o) h.1 l 0 rfl
 have h2:=zX8 h l 0 rfl
 have h3:=h.1.2
 rw [show ((0:Nat):Int)=0 from rfl] at h1 h2
 rw [zDo,zPz,if_pos ⟨ha,ho⟩,zAb,if_neg (by simp)]
 simp only
 by_cases g:(w.length:Int)=(a+1)*o
 ·rw [if_pos g,if_neg (fun x=>x g),h1,zAb]
  simp only
  rw [orB,if_neg (by simp only [Bool.or_eq_true,decide_eq_true_eq];omega),h2,zAb]
 ·rw [if_neg g,if_pos g]
end Go.Proofs.YtnmlihfpenjeiaaGreat.Abs
