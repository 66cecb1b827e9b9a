/- Plain facts: two layers (mlp, and the document's): what they are, what is hidden, what is told. Conditions: none. -/
import Derived.Test.YtnmlihfpenjeiaaGreatFX12
namespace Go.Proofs.YtnmlihfpenjeiaaGreat.Abs
open Go Go.RowKit Go.IntWalk
set_option linter.unusedVariables false
set_option linter.unusedSimpArgs false
set_option linter.unnecessarySimpa false
set_option maxRecDepth 100000
theorem zXe {a:Int} {l:List zAa} (h:zEj a l):∀(t:List zAa) (k:Nat),l.drop k=t→zAj l a (k:Int)=some (.inr ())
 | [],k,h1=>by rw [zAj,if_neg (zAP h1)]
 | x::t,k,h1=>by
  have g:=zAw h1
  rw [zAj,if_pos g.1,if_pos ⟨by omega,g.1⟩,g.2.1,zF3,zAb,if_neg (by simpa using h.1 x (zBQ h1)),zAJ (by have:=h.2;omega)]
  exact zXe h t (k+1) g.2.2
theorem zUK {a o:Int} {w:List Int} {l:List zAa} (ha:1≤a∧a≤16) (ho:1≤o∧o≤8) (h:zEj a l):zFQ a o w l=some (if (w.length:Int)=o*(a+1)+o+1 then 0 else 4):=by
 have h1:=zXe h l 0 rfl
 have h3:=h.2
 rw [show ((0:Nat):Int)=0 from rfl] at h1
 rw [zFQ,zIO,if_pos ⟨ha,ho⟩,zAb,if_neg (by simp)]
 simp only
 by_cases g:(w.length:Int)=o*(a+1)+o+1
 ·rw [if_pos g,if_neg (fun x=>x g),zAB,zAM,h1,zAb,zAb,zAb,zAb,if_neg (by simp),orB,
   if_neg (by simp only [Bool.or_eq_true,decide_eq_true_eq];omega)]
 ·rw [if_neg g,if_pos g,zAb,if_pos rfl]
theorem zUM {a:Int} {l:List zAa} (h:zEj a l):∀(t:List zAa) (k:Nat),l.drop k=t→zBF a l (k:Int)=some (.inr ())
 | [],k,h1=>by rw [zBF,if_neg (zAP h1)]
 | x::t,k,h1=>by
  have g:=zAw h1
  rw [zBF,if_pos g.1,if_pos ⟨by omega,g.1⟩,g.2.1,if_neg (by simpa using h.1 x (zBQ h1)),zAJ (by have:=h.2;omega)]
  exact zUM h t (k+1) g.2.2
theorem zUW {a o:Int} {w:List Int} {l:List zAa} (ha:1≤a∧a≤16) (ho:1≤o∧o≤8) (h:zEj a l):zDW a o w l=some (if (w.length:Int)=o*(a+1)+o+1 then 0 else 4):=by
 have h1:=zUM h l 0 rfl
 have h3:=h.2
 rw [show ((0:Nat):Int)=0 from rfl] at h1
 rw [zDW,zIy,if_pos ⟨ha,ho⟩,zAb,if_neg (by simp)]
 simp only
 by_cases g:(w.length:Int)=o*(a+1)+o+1
 ·rw [if_pos g,if_neg (fun x=>x g),h1,zAb]
  simp only
  rw [orB,if_neg (by simp only [Bool.or_eq_true,decide_eq_true_eq];omega)]
 ·rw [if_neg g,if_pos g]
theorem zVC {n k:Nat} {w:List Int}:zAE n k (w.take (k*n))=zAE n k w:=by
 unfold zAE
 refine List.map_congr_left fun i hi=> ?_
 have hi:=List.mem_range.1 hi
 have:(i+1)*n≤k*n:=Nat.mul_le_mul_right n (by omega)
 rw [Nat.add_mul,Nat.one_mul] at this
 rw [List.drop_take,List.take_take,show min n (k*n-i*n)=n by omega]
theorem zN3 (w:List Int) (i:Nat) (h:i≤w.length):(cutOk (some (i:Int)) none w.length∧cut' w (some (i:Int)) none=w.drop i)∧cutOk none (some (i:Int)) w.length∧cut' w none (some (i:Int))=w.take i:=by
 refine ⟨⟨show 0≤(i:Int)∧(i:Int)≤(w.length:Int)∧(w.length:Int)≤(w.length:Int) by omega, ?_⟩,show 0≤(0:Int)∧(0:Int)≤(i:Int)∧(i:Int)≤(w.length:Int) by omega, ?_⟩
 ·show (w.take (w.length:Int).toNat).drop (i:Int).toNat=_
  rw [Int.toNat_natCast,Int.toNat_natCast,List.take_length]
 ·show (w.take (i:Int).toNat).drop (0:Int).toNat=_
  rw [Int.toNat_natCast];simp
theorem zXc {h n:Nat} {w:List Int} (hh:1≤h∧h≤8) (hn:2≤n∧n≤17) (hw:w.length=h*n+h+1):zIp (h:Int) w=some (w.drop (h*n),zAE n h w,(n:Int)-1,0):=by
 have hb:=zGf hh.2 hn.2
 have hnh:(h:Int)*(n:Int)=((h*n:Nat):Int):=by simp
 have hd:Int.tdiv ((w.length:Int)-1) (h:Int)=(n:Int)+1:=by
  rw [show (w.length:Int)-1=((h*(n+1):Nat):Int) by rw [Nat.mul_add];omega]
  rw [show Int.tdiv ((h*(n+1):Nat):Int) (h:Int)=((h*(n+1)/h:Nat):Int) from rfl,Nat.mul_div_cancel_left _ (by omega)];omega
 obtain ⟨⟨c1,c2⟩,c3,c4⟩:=zN3 w (h*n) (by omega)
 rw [zIp,zG6,if_pos (by omega),zAb,zAb,if_neg (by simp;omega),if_pos (by omega),i64_in ((w.length:Int)-1) (by omega),hd,i64_in ((n:Int)+1) (by omega),i64_in _ (by omega),zAb,
  show (n:Int)+1-1=(n:Int) by omega,i64_in ((n:Int)-1) (by omega),zIO,if_pos ⟨by omega,by omega⟩,zAb,if_neg (by simp),zAb]
 simp only
 rw [Int.sub_add_cancel,hnh,if_neg (by simp;omega),i64_in ((h*n:Nat):Int) (by omega),if_pos c1,zAb,if_pos c3,zAb,c2,c4,zB0,if_neg (by omega),zAb]
 simp only
 rw [if_pos ⟨by omega,by omega,by simp;omega⟩,show (n:Int).toNat=n by omega,zQ7 (by omega) (k:=h) (by rw [List.length_take];omega),zVC,
  zTd _ (fun x c hx hc=>by rw [if_pos (zEk (by omega) (by simp;omega))]) (zAE n h w) [] (fun c hc=>by have:=(zHu (by omega) hc).1;omega) (by rw [zDA];simp;omega),zAb,List.nil_append]
theorem zUO {h n:Nat} {w:List Int} (hh:1≤h∧h≤8) (hn:2≤n∧n≤17) (hw:w.length=h*n+h+1):∀(j k:Nat),k+j=h→zC7 (h:Int) w ((n:Int)-1) (k:Int) (zAE n k w)=some (zAE n h w)
 | 0,k,hk=>by rw [zC7,if_neg (by omega),show k=h by omega]
 | j+1,k,hk=>by
  have hb:=zGf hh.2 hn.2
  have hk1:(k+1)*n≤h*n:=Nat.mul_le_mul_right n (by omega)
  have hk0:(k+1)*n=k*n+n:=by rw [Nat.add_mul,Nat.one_mul]
  have e1:IntKind.i64.wrap ((k:Int)*(n:Int))=((k*n:Nat):Int):=by rw [←Int.natCast_mul,i64_in _ (by omega)]
  have e2:IntKind.i64.wrap (((k+1:Nat):Int)*(n:Int))=(((k+1)*n:Nat):Int):=by rw [←Int.natCast_mul,i64_in _ (by omega)]
  obtain ⟨hc,hx⟩:=zUG w (k*n) ((k+1)*n) (by omega) (by omega)
  rw [show (k+1)*n-k*n=n by omega] at hx
  have hr:zAE n (k+1) w=zAE n k w++[(w.drop (k*n)).take n]:=by unfold zAE;rw [List.range_succ];simp
  rw [zC7,if_pos (by omega),Int.sub_add_cancel,i64_in (n:Int) (by omega),e1,zAJ (by omega),e2,zAb,if_pos hc,zAb,hx,if_pos (zB2 (by simp;omega)),if_pos (zEk (by omega) (by rw [List.length_append,zDA];simp;omega)),←hr]
  exact zUO hh hn hw j (k+1) (by omega)
theorem zUE {h n:Nat} {w:List Int} (hh:1≤h∧h≤8) (hn:2≤n∧n≤17) (hw:w.length=h*n+h+1):∀(j k:Nat),k+j=n-1→1≤k→zDd (h:Int) w (k:Int)=some (.inl (zAE n h w,w.drop (h*n),0))
 | 0,k,hk,h1=>by
  have hb:=zGf hh.2 hn.2
  have hnh:(h:Int)*(n:Int)=((h*n:Nat):Int):=by simp
  have ek:(k:Int)=(n:Int)-1:=by omega
  have l1:=zUO hh hn hw h 0 (by omega)
  rw [show ((0:Nat):Int)=0 from rfl,show zAE n 0 w=[] from rfl] at l1
  obtain ⟨⟨c1,c2⟩,c3,c4⟩:=zN3 w (h*n) (by omega)
  rw [ek,zDd,if_pos (by omega),zIy,if_pos ⟨by omega,by omega⟩,zAb]
  simp only
  rw [Int.sub_add_cancel,hnh,if_neg (by omega),l1,zAb,i64_in (n:Int) (by omega),hnh,i64_in _ (by omega),if_pos c1,zAb,c2,if_pos (zB2 (by simp;omega))]
 | j+1,k,hk,h1=>by
  have hb:=zGf hh.2 hn.2
  have hlt:h*(k+1)<h*n:=Nat.mul_lt_mul_of_pos_left (by omega) (by omega)
  have hnh:(h:Int)*((k:Int)+1)=((h*(k+1):Nat):Int):=by simp
  rw [zDd,if_pos (by omega),zIy,if_pos ⟨by omega,by omega⟩,zAb]
  simp only
  rw [hnh,if_pos (by omega),zAJ (by omega)]
  exact zUE hh hn hw j (k+1) (by omega) (by omega)
theorem zIs {h n:Nat} {w:List Int} (hh:1≤h∧h≤8) (hn:2≤n∧n≤17) (hw:w.length=h*n+h+1):zC6 (h:Int) w=some (zAE n h w,w.drop (h*n),0):=by
 have l0:=zUE hh hn hw (n-2) 1 (by omega) (by omega)
 rw [show ((1:Nat):Int)=1 from rfl] at l0
 rw [zC6,orB,if_neg (by simp only [Bool.or_eq_true,decide_eq_true_eq];omega),l0,zAb]
def relu (v:Int):Int:=if (0:Int)>v then 0 else v
theorem zZs {v:Int} (h:J64 v):J64 (relu v):=by unfold relu J64 at*;split<;>omega
theorem zS5 (r:List Int) (hr:r.length≤4096):∀(t:List Int) (k:Nat) (pre:List Int),r.drop k=t→pre.length=k→zEc r (k:Int) (pre++t)=some (pre++t.map relu)
 | [],k,pre,h,hp=>by rw [zEc,if_neg (zAP h)];simp
 | x::t,k,pre,h,hp=>by
  have g:=zAw h
  have hb:0≤(k:Int)∧(k:Int)<((pre++x::t).length:Int):=⟨by omega,by simp;omega⟩
  rw [zEc,if_pos g.1,if_pos hb,if_pos hb,zSJ hp,zAb,Int.toNat_natCast,zMz hp,zAJ (by omega)]
  have:=zS5 r hr t (k+1) (pre++[relu x]) g.2.2 (by simp [hp])
  rw [show pre++(if (0:Int)>x then 0 else x)::t=pre++[relu x]++t by simp [relu],this];simp
theorem zXo {z:List Int} (hz:z.length≤4096):zJG z=some (z.map relu,0):=by
 have h:=zS5 z hz z 0 [] rfl rfl
 rw [show ((0:Nat):Int)=0 from rfl,List.nil_append,List.nil_append] at h
 rw [zJG,zLZ hz,zAb,if_neg (by simp),zBk,if_pos (zB2 (by simp;omega)),zAb,List.nil_append,h,zAb]
theorem zPy (r:List Int) (hr:r.length≤4096):∀(t:List Int) (k:Nat) (pre:List Int),r.drop k=t→pre.length=k→zDt r (k:Int) pre=some (pre++t.map relu)
 | [],k,pre,h,hp=>by rw [zDt,if_neg (zAP h)];simp
 | x::t,k,pre,h,hp=>by
  have g:=zAw h
  rw [zDt,if_pos g.1,if_pos ⟨by omega,g.1⟩,g.2.1,if_pos (zB2 (by simp;omega)),zAb,zAJ (by omega),zPy r hr t (k+1) _ g.2.2 (by simp [hp])]
  simp [relu]
theorem zVs {z:List Int} (hz:z.length≤4096):zGG z=some (z.map relu,0):=by
 have h:=zPy z hz z 0 [] rfl rfl
 rw [show ((0:Nat):Int)=0 from rfl,List.nil_append] at h
 rw [zGG,if_neg (by omega),h,zAb]
def hidP (n h:Nat) (w x:List Int) (f:Int):List Int×Int:=if (mapE (fun r=>zBx r x f) (zAE n h w)).2≠0 then ([],(mapE (fun r=>zBx r x f) (zAE n h w)).2) else ((mapE (fun r=>zBx r x f) (zAE n h w)).1.map relu,0)
theorem zLC {n h:Nat} {w x:List Int} {f:Int} (e:(hidP n h w x f).2=0):(hidP n h w x f).1.length=h:=by
 unfold hidP at e⊢
 by_cases g:(mapE (fun r=>zBx r x f) (zAE n h w)).2≠0
 ·rw [if_pos g] at e;exact absurd e g
 ·rw [if_neg g];simp only;rw [List.length_map,zB6 _ _ (by omega),zDA]
theorem zSS {n h:Nat} {w x:List Int} {f:Int}:I64s (hidP n h w x f).1:=by
 unfold hidP;split
 ·intro y hy;cases hy
 ·intro y hy
  obtain ⟨z,hz,rfl⟩:=List.mem_map.1 hy
  exact zZs (zIM (fun r=>zLp _ _ _) z hz)
abbrev netP (n h:Nat) (w:List Int):zBf:=⟨⟨w.drop (h*n)⟩,zAE n h w,(n:Int)-1⟩
theorem zWT {h n:Nat} {w x:List Int} {f:Int} (hh:1≤h∧h≤8) (hn:2≤n∧n≤17) (hw:w.length=h*n+h+1) (hI:I64s w) (hx:I64s x) (hxl:n=x.length+1) (hf:0≤f∧f≤30):
  zDP (netP n h w) x f=some (hidP n h w x f)∧zEu (h:Int) w x f=some (hidP n h w x f):=by
 have ht:∀r∈zAE n h w,zCW r x f=some (zBx r x f)∧zB3 r x f=some (zBx r x f):=fun r hr=>by
  have:=(zHu (by omega) hr).1
  exact zJb (zPw hI (by omega) hr) hx hf (by omega) (by omega)
 have h0:(at' (zAE n h w) 0).length=n:=zKE (by omega) (by omega)
 have hl:(zAE n h w).length=h:=zDA _ _ _
 have hzl:(mapE (fun r=>zBx r x f) (zAE n h w)).1.length≤4096:=by
  by_cases g:(mapE (fun r=>zBx r x f) (zAE n h w)).2=0
  ·rw [zB6 _ _ g,hl];omega
  ·rw [zCv _ _ g];simp
 rw [hidP]
 refine ⟨?_, ?_⟩
 ·have e:=setE (fun k out=>zA3 (netP n h w) x f k out) (fun r=>zBx r x f) (zAE n h w)
   (fun k out hk=>by
    show zA3 _ _ _ _ _=_
    rw [zA3,if_neg (by simp only;omega)])
   (fun k out r t hr ho=>by
    have g:=zAw hr
    show zA3 _ _ _ _ _=_
    rw [zA3,if_pos g.1,if_pos ⟨by omega,g.1⟩]
    simp only
    rw [g.2.1,(ht r (zBQ hr)).1,zAb,if_pos ⟨by omega,by omega⟩,zAb,Int.toNat_natCast,zAJ (by omega)])
   (zAE n h w) 0 [] (List.replicate h 0) rfl rfl (by simp [hl])
  rw [show ((0:Nat):Int)=0 from rfl,List.nil_append] at e
  rw [zDP]
  simp only
  rw [if_neg (by omega),orB,if_neg (by simp only [Bool.or_eq_true,decide_eq_true_eq];omega),hl,if_pos (by omega),zAb,Int.toNat_natCast,e,zAb,endE]
  by_cases g:(mapE (fun r=>zBx r x f) (zAE n h w)).2≠0
  ·rw [if_pos g,if_pos g]
  ·rw [if_neg g,if_neg g]
   simp only
   rw [List.nil_append,zXo hzl,zAb]
 ·have e:=appE (fun k out=>zBA x f (zAE n h w,w.drop (h*n),0) k out) (fun r=>zBx r x f) (zAE n h w)
   (fun k out hk=>by
    show zBA _ _ _ _ _=_
    rw [zBA,if_neg (by simp only;omega)])
   (fun k out r t hr ho=>by
    have g:=zAw hr
    show zBA _ _ _ _ _=_
    rw [zBA,if_pos g.1,if_pos ⟨by omega,g.1⟩,g.2.1,(ht r (zBQ hr)).2,zAb,if_pos (zB2 (by simp;omega)),zAJ (by omega)])
   (zAE n h w) 0 [] rfl rfl
  rw [show ((0:Nat):Int)=0 from rfl] at e
  rw [zEu,zIs hh hn hw,zAb,if_neg (by simp)]
  simp only
  rw [if_pos ⟨by omega,by omega⟩,h0,i64_in _ (by omega),if_neg (by omega),orB,if_neg (by simp only [Bool.or_eq_true,decide_eq_true_eq];omega),e,zAb,endE]
  by_cases g:(mapE (fun r=>zBx r x f) (zAE n h w)).2≠0
  ·rw [if_pos g,if_pos g]
  ·rw [if_neg g,if_neg g]
   simp only
   rw [List.nil_append,zVs hzl,zAb]
end Go.Proofs.YtnmlihfpenjeiaaGreat.Abs
