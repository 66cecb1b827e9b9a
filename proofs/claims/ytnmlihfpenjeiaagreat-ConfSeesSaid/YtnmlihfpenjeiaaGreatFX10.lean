/- Plain facts: lines and shares (soft, and the document's). Conditions: none. -/
import Derived.Test.YtnmlihfpenjeiaaGreatFX9
import Derived.Test.YtnmlihfpenjeiaaGreatFX6
namespace Go.Proofs.YtnmlihfpenjeiaaGreat.Abs
open Go Go.RowKit Go.IntWalk
set_option linter.unusedVariables false
set_option linter.unusedSimpArgs false
set_option linter.unnecessarySimpa false
set_option maxRecDepth 100000
def zAE (n k:Nat) (w:List Int):List (List Int):=(List.range k).map fun i=>(w.drop (i*n)).take n
theorem zDA (n k:Nat) (w:List Int):(zAE n k w).length=k:=by simp [zAE]
theorem zHu {n k:Nat} {w r:List Int} (h:k*n≤w.length) (hr:r∈zAE n k w):r.length=n∧∀y∈r,y∈w:=by
 unfold zAE at hr
 obtain ⟨i,hi,rfl⟩:=List.mem_map.1 hr
 have hi:=List.mem_range.1 hi
 have:(i+1)*n≤k*n:=Nat.mul_le_mul_right n (by omega)
 rw [Nat.add_mul,Nat.one_mul] at this
 refine ⟨by rw [List.length_take,List.length_drop];omega,fun y hy=>List.mem_of_mem_drop (List.mem_of_mem_take hy)⟩
theorem zPw {n k:Nat} {w r:List Int} (hw:I64s w) (h:k*n≤w.length) (hr:r∈zAE n k w):I64s r:=fun y hy=>hw y ((zHu h hr).2 y hy)
theorem zKE {n k:Nat} {w:List Int} (h:k*n≤w.length) (hk:1≤k):(at' (zAE n k w) 0).length=n:=by
 have h1:0<(zAE n k w).length:=by rw [zDA];omega
 have:at' (zAE n k w) 0∈zAE n k w:=by
  show (zAE n k w).getD 0 default∈_
  rw [List.getD_eq_getElem?_getD,List.getElem?_eq_getElem h1];simp
 exact (zHu h this).1
theorem zQ7 {n k:Nat} {w:List Int} (hn:1≤n) (h:w.length=k*n):zEx n w=zAE n k w:=by
 have e:zC5 n w.length=k:=by
  unfold zC5
  rw [h]
  exact Nat.div_eq_of_lt_le (by omega) (by rw [Nat.succ_mul];omega)
 unfold zEx zAE
 rw [e];rfl
theorem zTd (F:List (List Int)→List Int→Option (List (List Int))) (hF:∀x c,x.length≤200→c.length≤1000→F x c=some (x++[c])):∀(cs acc:List (List Int)),(∀c∈cs,c.length≤1000)→acc.length+cs.length≤200→List.foldlM F acc cs=some (acc++cs)
 | [],acc,h,hl=>by simp
 | c::cs,acc,h,hl=>by
  rw [List.foldlM_cons,hF acc c (by omega) (h c (by simp)),zAb,zTd F hF cs (acc++[c]) (fun x hx=>h x (by simp [hx])) (by simp at hl⊢;omega)]
  simp
theorem zGf {o n:Nat} (ho:o≤8) (hn:n≤17):o*n≤136:=Nat.mul_le_mul ho hn
theorem zVv {o n:Nat} (ho:2≤o):Int.tdiv ((o*n:Nat):Int) (o:Int)=(n:Int):=by
 rw [show Int.tdiv ((o*n:Nat):Int) (o:Int)=((o*n/o:Nat):Int) from rfl,Nat.mul_div_cancel_left _ (by omega)]
theorem zSB {o n:Nat} {w:List Int} (ho:2≤o∧o≤8) (hn:2≤n∧n≤17) (hw:w.length=o*n):zGW (o:Int) w=some (zAE n o w,0):=by
 have hb:=zGf ho.2 hn.2
 have hd:IntKind.i64.wrap (Int.tdiv (w.length:Int) (o:Int))=(n:Int):=by rw [hw,zVv ho.1,i64_in _ (by omega)]
 rw [zGW,zFe,if_pos (by omega),zAb,zAb,if_neg (by simp;omega),if_pos (by omega),hd,zAb,i64_in ((n:Int)-1) (by omega),zGt,if_pos (by omega),zAb,if_neg (by simp),zAb,show (n:Int)*(o:Int)=((o*n:Nat):Int) by rw [Nat.mul_comm];simp,i64_in _ (by omega),zAb,if_neg (by rw [hw];simp),zB0,if_neg (by omega),zAb]
 simp only
 rw [if_pos ⟨by omega,by omega,by omega⟩,show (n:Int).toNat=n by omega,zQ7 (by omega) hw,
  zTd _ (fun x c hx hc=>by
   rw [zBk,if_pos (zB2 (by simp;omega)),zAb,List.nil_append,if_pos (zEk (by omega) (by simp;omega))]) (zAE n o w) [] (fun c hc=>by have:=(zHu (by omega) hc).1;omega) (by rw [zDA];simp;omega),zAb,List.nil_append]
theorem zUG (w:List Int) (i j:Nat) (h:i≤j) (h2:j≤w.length):cutOk (some (i:Int)) (some (j:Int)) w.length∧cut' w (some (i:Int)) (some (j:Int))=(w.drop i).take (j-i):=by
 refine ⟨show 0≤(i:Int)∧(i:Int)≤(j:Int)∧(j:Int)≤(w.length:Int) by omega, ?_⟩
 show (w.take (j:Int).toNat).drop (i:Int).toNat=_
 rw [Int.toNat_natCast,Int.toNat_natCast,List.drop_take]
theorem zPb {o n:Nat} {w:List Int} (ho:2≤o∧o≤8) (hn:2≤n∧n≤17) (hw:w.length=o*n):∀(j k:Nat),k+j=o→zDu (o:Int) w (k:Int) (zAE n k w)=some (zAE n o w)
 | 0,k,h=>by rw [zDu,if_neg (by omega),show k=o by omega]
 | j+1,k,h=>by
  have hb:=zGf ho.2 hn.2
  have hd:IntKind.i64.wrap (Int.tdiv (w.length:Int) (o:Int))=(n:Int):=by rw [hw,zVv ho.1,i64_in _ (by omega)]
  have hk:(k+1)*n≤o*n:=Nat.mul_le_mul_right n (by omega)
  have hk0:(k+1)*n=k*n+n:=by rw [Nat.add_mul,Nat.one_mul]
  have e1:IntKind.i64.wrap ((k:Int)*(n:Int))=((k*n:Nat):Int):=by rw [←Int.natCast_mul,i64_in _ (by omega)]
  have e2:IntKind.i64.wrap (((k+1:Nat):Int)*(n:Int))=(((k+1)*n:Nat):Int):=by rw [←Int.natCast_mul,i64_in _ (by omega)]
  obtain ⟨hc,hx⟩:=zUG w (k*n) ((k+1)*n) (by omega) (by omega)
  rw [show (k+1)*n-k*n=n by omega] at hx
  have hr:zAE n (k+1) w=zAE n k w++[(w.drop (k*n)).take n]:=by unfold zAE;rw [List.range_succ];simp
  rw [zDu,if_pos (by omega),hd,e1,zAb,zAJ (by omega),e2,zAb,if_pos hc,zAb,hx,if_pos (zB2 (by simp;omega)),if_pos (zEk (by omega) (by rw [List.length_append,zDA];simp;omega)),←hr]
  exact zPb ho hn hw j (k+1) (by omega)
theorem zOX {o n:Nat} {w:List Int} (ho:2≤o∧o≤8) (hn:2≤n∧n≤17) (hw:w.length=o*n):zEU (o:Int) w=some (zAE n o w,0):=by
 have hb:=zGf ho.2 hn.2
 have hd:IntKind.i64.wrap (Int.tdiv (w.length:Int) (o:Int))=(n:Int):=by rw [hw,zVv ho.1,i64_in _ (by omega)]
 have hm:Int.tmod (w.length:Int) (o:Int)=0:=by rw [hw,show Int.tmod ((o*n:Nat):Int) (o:Int)=((o*n % o:Nat):Int) from rfl,Nat.mul_mod_right];rfl
 have h:=zPb ho hn hw o 0 (by omega)
 rw [show ((0:Nat):Int)=0 from rfl,show zAE n 0 w=[] from rfl] at h
 rw [zEU,orB,if_neg (by simp only [Bool.or_eq_true,decide_eq_true_eq];omega),if_pos (by omega),if_pos (by omega),hm,hd,if_neg (by simp),zAb,orB,if_neg (by simp only [Bool.or_eq_true,decide_eq_true_eq];omega),h,zAb]
def zJ0 (a o:Int) (l:List zAa):Prop:=zEj a l∧∀s∈l,0≤s.F_Y∧s.F_Y<o
theorem zV7 {a:Int} {l:List zAa} (h:zEj a l):∀(t:List zAa) (k:Nat),l.drop k=t→zAh l a (k:Int)=some (.inr ())
 | [],k,h1=>by rw [zAh,if_neg (zAP h1)]
 | x::t,k,h1=>by
  have g:=zAw h1
  rw [zAh,if_pos g.1,if_pos ⟨by omega,g.1⟩,g.2.1,zFp,zAb,if_neg (by simpa using h.1 x (zBQ h1)),zAJ (by have:=h.2;omega)]
  exact zV7 h t (k+1) g.2.2
theorem zWc {a o:Int} {l:List zAa} (h:zJ0 a o l):∀(t:List zAa) (k:Nat),l.drop k=t→zAi l o (k:Int)=some (.inr ())
 | [],k,h1=>by rw [zAi,if_neg (zAP h1)]
 | x::t,k,h1=>by
  have g:=zAw h1
  have hy:=h.2 x (zBQ h1)
  rw [zAi,if_pos g.1,if_pos ⟨by omega,g.1⟩,g.2.1,zFr,orB,zAb,if_neg (by simp only [Bool.or_eq_true,decide_eq_true_eq];omega),zAJ (by have:=h.1.2;omega)]
  exact zWc h t (k+1) g.2.2
theorem zR3 {a o:Int} {w:List Int} {l:List zAa} (ha:1≤a∧a≤16) (ho:2≤o∧o≤8) (h:zJ0 a o l):zFd a o w l=some (if (w.length:Int)=(a+1)*o then 0 else 4):=by
 have h1:=zV7 h.1 l 0 rfl
 have h2:=zWc h l 0 rfl
 have h3:=h.1.2
 rw [show ((0:Nat):Int)=0 from rfl] at h1 h2
 rw [zFd,zJk,if_pos ⟨ha,ho⟩,zAb,if_neg (by simp)]
 simp only
 by_cases g:(w.length:Int)=(a+1)*o
 ·rw [if_pos g,if_neg (fun x=>x g),zAy,zAL,h1,zAb,zAb,zAb,zAb,if_neg (by simp),orB,
   if_neg (by simp only [Bool.or_eq_true,decide_eq_true_eq];omega),zAA,zAK,h2,zAb,zAb,zAb,zAb,if_neg (by simp)]
 ·rw [if_neg g,if_pos g,zAb,if_pos rfl]
theorem zUC {a o:Int} {l:List zAa} (h:zEj a l):∀(t:List zAa) (k:Nat),l.drop k=t→zBK a o l (k:Int)=some (.inr ())
 | [],k,h1=>by rw [zBK,if_neg (zAP h1)]
 | x::t,k,h1=>by
  have g:=zAw h1
  rw [zBK,if_pos g.1,if_pos ⟨by omega,g.1⟩,g.2.1,if_neg (by simpa using h.1 x (zBQ h1)),zAJ (by have:=h.2;omega)]
  exact zUC h t (k+1) g.2.2
theorem zUx {a o:Int} {l:List zAa} (h:zJ0 a o l):∀(t:List zAa) (k:Nat),l.drop k=t→zBE o l (k:Int)=some (.inr ())
 | [],k,h1=>by rw [zBE,if_neg (zAP h1)]
 | x::t,k,h1=>by
  have g:=zAw h1
  have hy:=h.2 x (zBQ h1)
  rw [zBE,if_pos g.1,if_pos ⟨by omega,g.1⟩,g.2.1,orB,if_neg (by simp only [Bool.or_eq_true,decide_eq_true_eq];omega),zAJ (by have:=h.1.2;omega)]
  exact zUx h t (k+1) g.2.2
theorem zUY {a o:Int} {w:List Int} {l:List zAa} (ha:1≤a∧a≤16) (ho:2≤o∧o≤8) (h:zJ0 a o l):zD1 a o w l=some (if (w.length:Int)=(a+1)*o then 0 else 4):=by
 have h1:=zUC (o:=o) h.1 l 0 rfl
 have h2:=zUx h l 0 rfl
 have h3:=h.1.2
 rw [show ((0:Nat):Int)=0 from rfl] at h1 h2
 rw [zD1,zMA,if_pos ⟨ha,ho⟩,zAb,if_neg (by simp)]
 simp only
 by_cases g:(w.length:Int)=(a+1)*o
 ·rw [if_pos g,if_neg (fun x=>x g),h1,zAb]
  simp only
  rw [orB,if_neg (by simp only [Bool.or_eq_true,decide_eq_true_eq];omega),h2,zAb]
 ·rw [if_neg g,if_pos g]
end Go.Proofs.YtnmlihfpenjeiaaGreat.Abs
