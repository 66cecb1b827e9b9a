/- Plain facts: two layers (mlp, and the document's): what they are, what is hidden, what is told. Conditions: none. -/
import Derived.Test.YtnmlihfpenjeiaaGreatFX12
namespace Go.Proofs.YtnmlihfpenjeiaaGreat.Abs
open Go Go.RowKit Go.IntWalk
set_option linter.unusedVariables false
set_option linter.unusedSimpArgs false
set_option linter.unnecessarySimpa false
set_option maxRecDepth 100000
theorem zAaz {a:Int} {l:List zAa} (h:zEv a l):∀(t:List zAa) (k:Nat),l.drop k=t→zAn l a (k:Int)=some (.inr ())
 | [],k,h1=>by rw [zAn,if_neg (zAT h1)]
 | x::t,k,h1=>by
  have g:=zAw h1
  rw [zAn,if_pos g.1,if_pos ⟨by omega,g.1⟩,g.2.1,zGH,zAb,if_neg (by simpa using h.1 x (zB8 h1)),zAO (by have:=h.2;omega)]
  exact zAaz h t (k+1) g.2.2
theorem zYl {a o:Int} {w:List Int} {l:List zAa} (ha:1≤a∧a≤16) (ho:1≤o∧o≤8) (h:zEv a l):zGu a o w l=some (if (w.length:Int)=o*(a+1)+o+1 then 0 else 4):=by
 have h1:=zAaz h l 0 rfl
 have h3:=h.2
 rw [show ((0:Nat):Int)=0 from rfl] at h1
 rw [zGu,zJv,if_pos ⟨ha,ho⟩,zAb,if_neg (by simp)]
 simp only
 by_cases g:(w.length:Int)=o*(a+1)+o+1
 ·rw [if_pos g,if_neg (fun x=>x g),zAC,zAN,h1,zAb,zAb,zAb,zAb,if_neg (by simp),orB,
   if_neg (by simp only [Bool.or_eq_true,decide_eq_true_eq];omega)]
 ·rw [if_neg g,if_pos g,zAb,if_pos rfl]
theorem zX4 {a:Int} {l:List zAa} (h:zEv a l):∀(t:List zAa) (k:Nat),l.drop k=t→zBq a l (k:Int)=some (.inr ())
 | [],k,h1=>by rw [zBq,if_neg (zAT h1)]
 | x::t,k,h1=>by
  have g:=zAw h1
  rw [zBq,if_pos g.1,if_pos ⟨by omega,g.1⟩,g.2.1,if_neg (by simpa using h.1 x (zB8 h1)),zAO (by have:=h.2;omega)]
  exact zX4 h t (k+1) g.2.2
theorem zX6 {a o:Int} {w:List Int} {l:List zAa} (ha:1≤a∧a≤16) (ho:1≤o∧o≤8) (h:zEv a l):zDl a o w l=some (if (w.length:Int)=o*(a+1)+o+1 then 0 else 4):=by
 have h1:=zX4 h l 0 rfl
 have h3:=h.2
 rw [show ((0:Nat):Int)=0 from rfl] at h1
 rw [zDl,zJD,if_pos ⟨ha,ho⟩,zAb,if_neg (by simp)]
 simp only
 by_cases g:(w.length:Int)=o*(a+1)+o+1
 ·rw [if_pos g,if_neg (fun x=>x g),h1,zAb]
  simp only
  rw [orB,if_neg (by simp only [Bool.or_eq_true,decide_eq_true_eq];omega)]
 ·rw [if_neg g,if_pos g]
theorem zY0 {n k:Nat} {w:List Int}:zAF n k (w.take (k*n))=zAF n k w:=by
 unfold zAF
 refine List.map_congr_left fun i hi=> ?_
 have hi:=List.mem_range.1 hi
 have:(i+1)*n≤k*n:=Nat.mul_le_mul_right n (by omega)
 rw [Nat.add_mul,Nat.one_mul] at this
 rw [List.drop_take,List.take_take,show min n (k*n-i*n)=n by omega]
theorem zRU (w:List Int) (i:Nat) (h:i≤w.length):(cutOk (some (i:Int)) none w.length∧cut' w (some (i:Int)) none=w.drop i)∧cutOk none (some (i:Int)) w.length∧cut' w none (some (i:Int))=w.take i:=by
 refine ⟨⟨show 0≤(i:Int)∧(i:Int)≤(w.length:Int)∧(w.length:Int)≤(w.length:Int) by omega, ?_⟩,show 0≤(0:Int)∧(0:Int)≤(i:Int)∧(i:Int)≤(w.length:Int) by omega, ?_⟩
 ·show (w.take (w.length:Int).toNat).drop (i:Int).toNat=_
  rw [Int.toNat_natCast,Int.toNat_natCast,List.take_length]
 ·show (w.take (i:Int).toNat).drop (0:Int).toNat=_
  rw [Int.toNat_natCast];simp
theorem zZt {h n:Nat} {w:List Int} (hh:1≤h∧h≤8) (hn:2≤n∧n≤17) (hw:w.length=h*n+h+1):zI6 (h:Int) w=some (w.drop (h*n),zAF n h w,(n:Int)-1,0):=by
 have hb:=zGN hh.2 hn.2
 have hnh:(h:Int)*(n:Int)=((h*n:Nat):Int):=by simp
 have hd:Int.tdiv ((w.length:Int)-1) (h:Int)=(n:Int)+1:=by
  rw [show (w.length:Int)-1=((h*(n+1):Nat):Int) by rw [Nat.mul_add];omega]
  rw [show Int.tdiv ((h*(n+1):Nat):Int) (h:Int)=((h*(n+1)/h:Nat):Int) from rfl,Nat.mul_div_cancel_left _ (by omega)];omega
 obtain ⟨⟨c1,c2⟩,c3,c4⟩:=zRU w (h*n) (by omega)
 rw [zI6,zHK,if_pos (by omega),zAb,zAb,if_neg (by simp;omega),if_pos (by omega),i64_in ((w.length:Int)-1) (by omega),hd,i64_in ((n:Int)+1) (by omega),i64_in _ (by omega),zAb,
  show (n:Int)+1-1=(n:Int) by omega,i64_in ((n:Int)-1) (by omega),zJv,if_pos ⟨by omega,by omega⟩,zAb,if_neg (by simp),zAb]
 simp only
 rw [Int.sub_add_cancel,hnh,if_neg (by simp;omega),i64_in ((h*n:Nat):Int) (by omega),if_pos c1,zAb,if_pos c3,zAb,c2,c4,zCg,if_neg (by omega),zAb]
 simp only
 rw [if_pos ⟨by omega,by omega,by simp;omega⟩,show (n:Int).toNat=n by omega,zUB (by omega) (k:=h) (by rw [List.length_take];omega),zY0,
  zWw _ (fun x c hx hc=>by rw [if_pos (zEy (by omega) (by simp;omega))]) (zAF n h w) [] (fun c hc=>by have:=(zId (by omega) hc).1;omega) (by rw [zDF];simp;omega),zAb,List.nil_append]
theorem zYc {h n:Nat} {w:List Int} (hh:1≤h∧h≤8) (hn:2≤n∧n≤17) (hw:w.length=h*n+h+1):∀(j k:Nat),k+j=h→zBW (h:Int) w ((n:Int)-1) (k:Int) (zAF n k w)=some (zAF n h w)
 | 0,k,hk=>by rw [zBW,if_neg (by omega),show k=h by omega]
 | j+1,k,hk=>by
  have hb:=zGN hh.2 hn.2
  have hk1:(k+1)*n≤h*n:=Nat.mul_le_mul_right n (by omega)
  have hk0:(k+1)*n=k*n+n:=by rw [Nat.add_mul,Nat.one_mul]
  have e1:IntKind.i64.wrap ((k:Int)*(n:Int))=((k*n:Nat):Int):=by rw [←Int.natCast_mul,i64_in _ (by omega)]
  have e2:IntKind.i64.wrap (((k+1:Nat):Int)*(n:Int))=(((k+1)*n:Nat):Int):=by rw [←Int.natCast_mul,i64_in _ (by omega)]
  obtain ⟨hc,hx⟩:=zYr w (k*n) ((k+1)*n) (by omega) (by omega)
  rw [show (k+1)*n-k*n=n by omega] at hx
  have hr:zAF n (k+1) w=zAF n k w++[(w.drop (k*n)).take n]:=by unfold zAF;rw [List.range_succ];simp
  rw [zBW,if_pos (by omega),Int.sub_add_cancel,i64_in (n:Int) (by omega),e1,zAO (by omega),e2,zAb,if_pos hc,zAb,hx,if_pos (zB4 (by simp;omega)),if_pos (zEy (by omega) (by rw [List.length_append,zDF];simp;omega)),←hr]
  exact zYc hh hn hw j (k+1) (by omega)
theorem zYy {h n:Nat} {w:List Int} (hh:1≤h∧h≤8) (hn:2≤n∧n≤17) (hw:w.length=h*n+h+1):∀(j k:Nat),k+j=n-1→1≤k→zBZ (h:Int) w (k:Int)=some (.inl (zAF n h w,w.drop (h*n),0))
 | 0,k,hk,h1=>by
  have hb:=zGN hh.2 hn.2
  have hnh:(h:Int)*(n:Int)=((h*n:Nat):Int):=by simp
  have ek:(k:Int)=(n:Int)-1:=by omega
  have l1:=zYc hh hn hw h 0 (by omega)
  rw [show ((0:Nat):Int)=0 from rfl,show zAF n 0 w=[] from rfl] at l1
  obtain ⟨⟨c1,c2⟩,c3,c4⟩:=zRU w (h*n) (by omega)
  rw [ek,zBZ,if_pos (by omega),zJD,if_pos ⟨by omega,by omega⟩,zAb]
  simp only
  rw [Int.sub_add_cancel,hnh,if_neg (by omega),l1,zAb,i64_in (n:Int) (by omega),hnh,i64_in _ (by omega),if_pos c1,zAb,c2,if_pos (zB4 (by simp;omega))]
 | j+1,k,hk,h1=>by
  have hb:=zGN hh.2 hn.2
  have hlt:h*(k+1)<h*n:=Nat.mul_lt_mul_of_pos_left (by omega) (by omega)
  have hnh:(h:Int)*((k:Int)+1)=((h*(k+1):Nat):Int):=by simp
  rw [zBZ,if_pos (by omega),zJD,if_pos ⟨by omega,by omega⟩,zAb]
  simp only
  rw [hnh,if_pos (by omega),zAO (by omega)]
  exact zYy hh hn hw j (k+1) (by omega) (by omega)
theorem zJe {h n:Nat} {w:List Int} (hh:1≤h∧h≤8) (hn:2≤n∧n≤17) (hw:w.length=h*n+h+1):zCr (h:Int) w=some (zAF n h w,w.drop (h*n),0):=by
 have l0:=zYy hh hn hw (n-2) 1 (by omega) (by omega)
 rw [show ((1:Nat):Int)=1 from rfl] at l0
 rw [zCr,orB,if_neg (by simp only [Bool.or_eq_true,decide_eq_true_eq];omega),l0,zAb]
def relu (v:Int):Int:=if (0:Int)>v then 0 else v
theorem zAcX {v:Int} (h:J64 v):J64 (relu v):=by unfold relu J64 at*;split<;>omega
theorem zXg (r:List Int) (hr:r.length≤4096):∀(t:List Int) (k:Nat) (pre:List Int),r.drop k=t→pre.length=k→zEi r (k:Int) (pre++t)=some (pre++t.map relu)
 | [],k,pre,h,hp=>by rw [zEi,if_neg (zAT h)];simp
 | x::t,k,pre,h,hp=>by
  have g:=zAw h
  have hb:0≤(k:Int)∧(k:Int)<((pre++x::t).length:Int):=⟨by omega,by simp;omega⟩
  rw [zEi,if_pos g.1,if_pos hb,if_pos hb,zW4 hp,zAb,Int.toNat_natCast,zPT hp,zAO (by omega)]
  have:=zXg r hr t (k+1) (pre++[relu x]) g.2.2 (by simp [hp])
  rw [show pre++(if (0:Int)>x then 0 else x)::t=pre++[relu x]++t by simp [relu],this];simp
theorem zAbw {z:List Int} (hz:z.length≤4096):zKy z=some (z.map relu,0):=by
 have h:=zXg z hz z 0 [] rfl rfl
 rw [show ((0:Nat):Int)=0 from rfl,List.nil_append,List.nil_append] at h
 rw [zKy,zN1 hz,zAb,if_neg (by simp),zBu,if_pos (zB4 (by simp;omega)),zAb,List.nil_append,h,zAb]
theorem zS6 (r:List Int) (hr:r.length≤4096):∀(t:List Int) (k:Nat) (pre:List Int),r.drop k=t→pre.length=k→zB6 r (k:Int) pre=some (pre++t.map relu)
 | [],k,pre,h,hp=>by rw [zB6,if_neg (zAT h)];simp
 | x::t,k,pre,h,hp=>by
  have g:=zAw h
  rw [zB6,if_pos g.1,if_pos ⟨by omega,g.1⟩,g.2.1,if_pos (zB4 (by simp;omega)),zAb,zAO (by omega),zS6 r hr t (k+1) _ g.2.2 (by simp [hp])]
  simp [relu]
theorem zY4 {z:List Int} (hz:z.length≤4096):zFi z=some (z.map relu,0):=by
 have h:=zS6 z hz z 0 [] rfl rfl
 rw [show ((0:Nat):Int)=0 from rfl,List.nil_append] at h
 rw [zFi,if_neg (by omega),h,zAb]
def hidP (n h:Nat) (w x:List Int) (f:Int):List Int×Int:=if (mapE (fun r=>zBO r x f) (zAF n h w)).2≠0 then ([],(mapE (fun r=>zBO r x f) (zAF n h w)).2) else ((mapE (fun r=>zBO r x f) (zAF n h w)).1.map relu,0)
theorem zNr {n h:Nat} {w x:List Int} {f:Int} (e:(hidP n h w x f).2=0):(hidP n h w x f).1.length=h:=by
 unfold hidP at e⊢
 by_cases g:(mapE (fun r=>zBO r x f) (zAF n h w)).2≠0
 ·rw [if_pos g] at e;exact absurd e g
 ·rw [if_neg g];simp only;rw [List.length_map,zCk _ _ (by omega),zDF]
theorem zWq {n h:Nat} {w x:List Int} {f:Int}:I64s (hidP n h w x f).1:=by
 unfold hidP;split
 ·intro y hy;cases hy
 ·intro y hy
  obtain ⟨z,hz,rfl⟩:=List.mem_map.1 hy
  exact zAcX (zJE (fun r=>zMS _ _ _) z hz)
abbrev netP (n h:Nat) (w:List Int):zBj:=⟨⟨w.drop (h*n)⟩,zAF n h w,(n:Int)-1⟩
theorem zAah {h n:Nat} {w x:List Int} {f:Int} (hh:1≤h∧h≤8) (hn:2≤n∧n≤17) (hw:w.length=h*n+h+1) (hI:I64s w) (hx:I64s x) (hxl:n=x.length+1) (hf:0≤f∧f≤30):
  zDU (netP n h w) x f=some (hidP n h w x f)∧zDH (h:Int) w x f=some (hidP n h w x f):=by
 have ht:∀r∈zAF n h w,zDa r x f=some (zBO r x f)∧zBQ r x f=some (zBO r x f):=fun r hr=>by
  have:=(zId (by omega) hr).1
  exact zKv (zTC hI (by omega) hr) hx hf (by omega) (by omega)
 have h0:(at' (zAF n h w) 0).length=n:=zLa (by omega) (by omega)
 have hl:(zAF n h w).length=h:=zDF _ _ _
 have hzl:(mapE (fun r=>zBO r x f) (zAF n h w)).1.length≤4096:=by
  by_cases g:(mapE (fun r=>zBO r x f) (zAF n h w)).2=0
  ·rw [zCk _ _ g,hl];omega
  ·rw [zCU _ _ g];simp
 rw [hidP]
 refine ⟨?_, ?_⟩
 ·have e:=setE (fun k out=>zA4 (netP n h w) x f k out) (fun r=>zBO r x f) (zAF n h w)
   (fun k out hk=>by
    show zA4 _ _ _ _ _=_
    rw [zA4,if_neg (by simp only;omega)])
   (fun k out r t hr ho=>by
    have g:=zAw hr
    show zA4 _ _ _ _ _=_
    rw [zA4,if_pos g.1,if_pos ⟨by omega,g.1⟩]
    simp only
    rw [g.2.1,(ht r (zB8 hr)).1,zAb,if_pos ⟨by omega,by omega⟩,zAb,Int.toNat_natCast,zAO (by omega)])
   (zAF n h w) 0 [] (List.replicate h 0) rfl rfl (by simp [hl])
  rw [show ((0:Nat):Int)=0 from rfl,List.nil_append] at e
  rw [zDU]
  simp only
  rw [if_neg (by omega),orB,if_neg (by simp only [Bool.or_eq_true,decide_eq_true_eq];omega),hl,if_pos (by omega),zAb,Int.toNat_natCast,e,zAb,endE]
  by_cases g:(mapE (fun r=>zBO r x f) (zAF n h w)).2≠0
  ·rw [if_pos g,if_pos g]
  ·rw [if_neg g,if_neg g]
   simp only
   rw [List.nil_append,zAbw hzl,zAb]
 ·have e:=appE (fun k out=>zBg x f (zAF n h w,w.drop (h*n),0) k out) (fun r=>zBO r x f) (zAF n h w)
   (fun k out hk=>by
    show zBg _ _ _ _ _=_
    rw [zBg,if_neg (by simp only;omega)])
   (fun k out r t hr ho=>by
    have g:=zAw hr
    show zBg _ _ _ _ _=_
    rw [zBg,if_pos g.1,if_pos ⟨by omega,g.1⟩,g.2.1,(ht r (zB8 hr)).2,zAb,if_pos (zB4 (by simp;omega)),zAO (by omega)])
   (zAF n h w) 0 [] rfl rfl
  rw [show ((0:Nat):Int)=0 from rfl] at e
  rw [zDH,zJe hh hn hw,zAb,if_neg (by simp)]
  simp only
  rw [if_pos ⟨by omega,by omega⟩,h0,i64_in _ (by omega),if_neg (by omega),orB,if_neg (by simp only [Bool.or_eq_true,decide_eq_true_eq];omega),e,zAb,endE]
  by_cases g:(mapE (fun r=>zBO r x f) (zAF n h w)).2≠0
  ·rw [if_pos g,if_pos g]
  ·rw [if_neg g,if_neg g]
   simp only
   rw [List.nil_append,zY4 hzl,zAb]
end Go.Proofs.YtnmlihfpenjeiaaGreat.Abs
