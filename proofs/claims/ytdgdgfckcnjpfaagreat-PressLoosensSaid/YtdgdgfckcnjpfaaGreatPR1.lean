/- Plain facts: the document's codes. Conditions: none. -/
import Derived.Test.YtdgdgfckcnjpfaaGreatPG6
namespace Go.Proofs.YtdgdgfckcnjpfaaGreat.Abs
open Go Go.RowKit Go.IntWalk Crc
set_option linter.unusedVariables false
set_option linter.unusedSimpArgs false
set_option linter.unusedSectionVars false
set_option linter.unnecessarySimpa false
set_option maxRecDepth 100000
theorem zSu (l:List Int) (hl:l.length≤4611686018427387904):∀(t:List Int) (x:Int) (k:Nat),l.drop k=x::t→zBk l ((k+1:Nat):Int)=some (if zAD (x::t) then .inr () else .inl false)
 | [],x,k,h=>by
  have h1:=zAh h
  rw [zBk,if_neg (zAp h1.2.2)]
  simp [zAD]
 | y::t,x,k,h=>by
  have h1:=zAh h
  have h2:=zAh h1.2.2
  have e1:IntKind.i64.wrap (((k+1:Nat):Int)-1)=(k:Int):=by rw [i64_in _ (by omega)];omega
  rw [zBk,if_pos h2.1,e1,if_pos (by omega),if_pos (by omega),h1.2.1,h2.2.1,zAx (by omega),zSu l hl t y (k+1) h1.2.2]
  by_cases hxy:x<y
  ·rw [if_neg (by omega)];simp [zAD,hxy]
  ·rw [if_pos (by omega)];simp [zAD,hxy]
theorem zYW (l:List Int) (hl:l.length≤4611686018427387904):zDM l=some (zAD l):=by
 cases l with
 | nil=>rw [zDM,zBk];simp [zAD]
 | cons x t=>
  have:=zSu (x::t) hl t x 0 rfl
  rw [zDM,show (1:Int)=((0+1:Nat):Int) from rfl,this]
  cases zAD (x::t)<;>rfl
theorem zSq (dim:Int) (l:List Int) (hl:l.length≤4611686018427387904):∀(t:List Int) (k:Nat),l.drop k=t→zBJ dim l (k:Int)=some (if (t.all fun n=>decide (0≤n)&&decide (n<dim)) then .inr () else .inl 1)
 | [],k,h=>by
  rw [zBJ,if_neg (zAp h)];rfl
 | x::t,k,h=>by
  have h1:=zAh h
  rw [zBJ,if_pos h1.1,if_pos (by omega),orB,h1.2.1,zAx (by omega),zSq dim l hl t (k+1) h1.2.2]
  by_cases hx:0≤x∧x<dim
  ·rw [if_neg (by simp;omega)];simp [hx]
  ·rw [if_pos (by simp;omega),if_neg (by simp;omega)]
theorem zSx (dim:Int) (l:List Int) (hl:l.length≤4611686018427387904):zDD dim l=some (zCh dim l):=by
 rw [zDD,orB,zYW l hl,zAb,orB]
 have hc:=zSq dim l hl l 0 rfl
 rw [show ((0:Nat):Int)=0 from rfl] at hc
 by_cases hm:meas dim=true
 ·have hm':=hm
  simp only [meas,Bool.and_eq_true,decide_eq_true_eq] at hm'
  cases hr:zAD l with
  | false=>simp [zCh,zGv,hr]
  | true=>
   rw [if_neg (by simp;omega),hc]
   by_cases ha:(l.all fun n=>decide (0≤n)&&decide (n<dim))=true
   ·rw [if_pos ha,zCh,if_pos (by simp only [zGv,hm,hr,ha,Bool.and_self])];rfl
   ·rw [if_neg ha,zCh,if_neg (by simp only [zGv,hm,hr,Bool.true_and];exact ha)];rfl
 ·have hm':=hm
  simp only [meas,Bool.and_eq_true,decide_eq_true_eq] at hm'
  rw [if_pos (by simp;omega),zCh,if_neg]
  simp only [zGv,Bool.and_eq_true]
  exact fun h=>hm h.1.1
theorem zZC:∀(m:Nat) (n:Int),n.toNat≤m→0≤n→n≤18446744073709551615→zBY n=some (lebP n):=by
 intro m
 induction m with
 | zero=>
  intro n h h0 h1
  rw [zBY,if_pos (by omega),zU1 (by omega)]
 | succ m ih=>
  intro n h h0 h1
  rw [zBY]
  by_cases hn:n<128
  ·rw [if_pos hn,zU1 (by omega)]
  ·have e1:IntKind.u64.wrap (Int.tdiv n 128)=n/128:=by
    rw [Int.tdiv_eq_ediv_of_nonneg h0,u64_in _ (by omega)]
   have e2:IntKind.u8.wrap (IntKind.u8.wrap (Int.tmod n 128)+128)=bOr .u8 (IntKind.u8.wrap n) 128:=by
    rw [rem_in _ _ h0,IntKind.wrap_u8 (n % 128),IntKind.wrap_u8 n]
    have h:∀i:Fin 256,IntKind.u8.wrap ((((i.val:Nat):Int) % 128)+128)=bOr .u8 ((i.val:Nat):Int) 128:=by decide+kernel
    have:=h ⟨(n % 256).toNat,by omega⟩
    simp only [Int.toNat_of_nonneg (show 0≤n % 256 by omega)] at this
    rw [←this]
    congr 2
    omega
   have hlen:=zFV (n/128) (by omega)
   rw [if_neg hn,e1,ih (n/128) (by omega) (by omega) (by omega),zAb,if_pos (zEx (by simp;omega)),e2]
   conv=>rhs;rw [lebP,if_pos (by omega),shr7]
   rfl
theorem zWm (ns:List Int) (hn:ns.length≤4611686018427387904) (hu:∀n∈ns,0≤n∧n≤18446744073709551615):∀(t:List Int) (k:Nat) (b:List Int),ns.drop k=t→b.length+(t.flatMap lebP).length≤140737488355328→zB0 ns (k:Int) b=some (b++t.flatMap lebP)
 | [],k,b,h,hb=>by
  rw [zB0,if_neg (zAp h)];simp
 | x::t,k,b,h,hb=>by
  have h1:=zAh h
  have hx:=hu x (List.mem_of_mem_drop (by rw [h];simp))
  simp only [List.flatMap_cons,List.length_append] at hb
  rw [zB0,if_pos h1.1,if_pos (by omega),h1.2.1,zZC _ x (Nat.le_refl _) hx.1 hx.2,zAb,if_pos (zEx (by simp;omega)),zAx (by omega),zWm ns hn hu t (k+1) _ h1.2.2 (by simp only [List.length_append];omega)]
  simp
theorem zKe (b ns:List Int) (hn:ns.length≤4611686018427387904) (hu:∀n∈ns,0≤n∧n≤18446744073709551615) (hb:b.length+(ns.flatMap lebP).length≤140737488355328):zCg b ns=some (b++ns.flatMap lebP):=by
 have h1:=zWm ns hn hu ns 0 b rfl hb
 rw [show ((0:Nat):Int)=0 from rfl] at h1
 rw [zCg,if_pos (zEx (by omega)),h1,zAb]
theorem zT5 (l:List Int) (hl:l.length≤1099511627776):∀(t:List Int) (k:Nat) (last:Int) (b:List Int),l.drop k=t→b.length+10*t.length≤140737488355328→zB2 l (k:Int) last b=some (b++(gaps last t).flatMap lebP)
 | [],k,last,b,h,hb=>by
  rw [zB2,if_neg (zAp h)];simp [gaps]
 | x::t,k,last,b,h,hb=>by
  have h1:=zAh h
  simp only [List.length_cons] at hb
  have h2:=zFV (IntKind.u64.wrap (IntKind.i64.wrap (IntKind.i64.wrap (x-last)-1))) (zL8 _).2
  rw [zB2,if_pos h1.1,if_pos (by omega),h1.2.1,zKe b _ (by simp) (by intro n hn;simp only [List.mem_singleton] at hn;subst hn;exact zL8 _) (by simp;omega),zAb,zAx (by omega),zT5 l hl t (k+1) x _ h1.2.2 (by simp;omega)]
  simp [gaps]
theorem zAaj (dim:Int) (l:List Int) (hl:l.length≤1099511627776):zGj dim l=some (putB dim l,zCh dim l):=by
 rw [zGj,zSx dim l (by omega),zAb]
 by_cases h:zCh dim l=0
 ·have h2:=zFV (IntKind.u64.wrap (l.length:Int)) (zL8 _).2
  have h1:=zT5 l hl l 0 (-1) (lebP (IntKind.u64.wrap (l.length:Int))) rfl (by omega)
  rw [show ((0:Nat):Int)=0 from rfl] at h1
  rw [if_neg (by simp [h]),zKe [] _ (by simp) (by intro n hn;simp only [List.mem_singleton] at hn;subst hn;exact zL8 _) (by simp;omega),zAb]
  simp only [List.flatMap_cons,List.flatMap_nil,List.append_nil,List.nil_append]
  rw [h1,zAb,putB,if_pos h,h]
  simp
 ·rw [if_pos h,putB,if_neg h]
theorem zAbz {x:Int} (h:I64 x):zGc x=some (zigP x):=by
 unfold I64 at h
 unfold zGc zigP
 by_cases h0:0≤x
 ·rw [if_neg (by omega),if_pos h0]
  congr 1
  simp only [IntKind.wrap_u64];omega
 ·rw [if_pos (by omega),if_neg h0]
  congr 1
  simp only [IntKind.wrap_u64,IntKind.wrap_i64];omega
theorem zQM (ns : List Int) (hn : ns.length ≤ 4611686018427387904) (hi : ∀ n ∈ ns, I64 n) : ∀ (t : List Int) (k : Nat) (b : List Int), ns.drop k = t → b.length + (sigB t).length ≤ 140737488355328 → zBb ns (k : Int) b = some (b ++ sigB t)
  | [], k, b, h, hb => by rw [zBb, if_neg (zAp h)]; simp [sigB]
  | x :: t, k, b, h, hb => by
    obtain ⟨h1, h2, h3⟩ := zAh h
    have hx : I64 x := hi x (by have : x ∈ ns.drop k := by rw [h]; simp
                                exact List.mem_of_mem_drop this)
    have hs : sigB (x :: t) = lebP (zigP x) ++ sigB t := by simp [sigB]
    have hz := zZO hx
    rw [hs, List.length_append] at hb
    rw [zBb, if_pos h1, if_pos ⟨by omega, h1⟩, h2, zAbz hx, zAb, zZC _ _ (Nat.le_refl _) hz.1 hz.2, zAb, if_pos (zEx (by rw [List.length_append]; omega)), zAx (by omega), zQM ns hn hi t (k + 1) _ h3 (by rw [List.length_append]; omega), hs, List.append_assoc]
theorem zRd (b ns:List Int) (hn:ns.length≤4611686018427387904) (hi:∀n∈ns,I64 n) (hb:b.length+(sigB ns).length≤140737488355328):zDj b ns=some (b++sigB ns):=by
 unfold zDj
 rw [if_pos (zEx (by omega)),show zBb ns 0 b=_ from zQM ns hn hi ns 0 b rfl hb,zAb]
end Go.Proofs.YtdgdgfckcnjpfaaGreat.Abs
