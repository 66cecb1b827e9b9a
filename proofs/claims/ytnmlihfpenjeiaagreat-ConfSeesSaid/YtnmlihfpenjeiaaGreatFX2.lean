/- Plain facts: products with bits behind the point, and as one number (fix.Mul). Conditions: none. -/
import Derived.Test.YtnmlihfpenjeiaaGreatFX1
namespace Go.Proofs.YtnmlihfpenjeiaaGreat.Abs
open Go Go.RowKit Go.IntWalk
set_option linter.unusedVariables false
set_option linter.unusedSimpArgs false
set_option linter.unnecessarySimpa false
set_option maxRecDepth 100000
theorem zUr {q h l P Z:Int} (hq:q=h*18446744073709551616+l) (hl:0≤l∧l<18446744073709551616) (hP:0<P) (hZ0:0<Z) (hZ:Z*P=18446744073709551616):(q/P)/18446744073709551616=h/P∧(q/P) % 18446744073709551616=Z*(h % P)+l/P:=by
 have e1:q/P=l/P+h*Z:=by
  rw [hq,←hZ,←Int.mul_assoc,Int.add_comm,Int.add_mul_ediv_right _ _ (by omega)]
 have e2:=Int.mul_ediv_add_emod h P
 have v0:=Int.emod_nonneg h (show P≠0 by omega)
 have v1:=Int.emod_lt_of_pos h hP
 have l1:l/P<Z:=Int.ediv_lt_of_lt_mul hP (by rw [hZ];omega)
 have l0:0≤l/P:=Int.ediv_nonneg hl.1 (by omega)
 have e3:h*Z=(h/P)*18446744073709551616+Z*(h % P):=by
  have:h*Z=(P*(h/P)+h % P)*Z:=by rw [e2]
  rw [this,Int.add_mul,←hZ,Int.mul_comm (h % P) Z,Int.mul_comm P (h/P),Int.mul_assoc,Int.mul_comm P Z]
 have b1:Z*(h % P)≤Z*(P-1):=Int.mul_le_mul_of_nonneg_left (by omega) (by omega)
 have b0:0≤Z*(h % P):=Int.mul_nonneg (by omega) v0
 rw [Int.mul_sub,hZ,Int.mul_one] at b1
 rw [e1,e3]
 generalize Z*(h % P)=r at*
 generalize h/P=u at*
 generalize l/P=s at*
 omega
theorem zJN {x:Int} {k:Nat} (hk:k≤64):sShr .i64 x (k:Int)=x/((2 ^ k:Nat):Int):=by
 rw [sShr,show min ((k:Int)).toNat IntKind.i64.bits=k by simp [IntKind.bits];omega,Int.fdiv_eq_ediv_of_nonneg _ (by exact Int.le_of_lt (Int.pow_pos (by omega)))]
 simp
theorem zYS {q:Int} {k:Nat} (hk:k≤30) (hq: -4611686018427387904≤q/18446744073709551616∧q/18446744073709551616≤4611686018427387904):
  zDs ⟨(q/18446744073709551616) % 18446744073709551616,q % 18446744073709551616⟩ (k:Int)=some ((q/((2 ^ k:Nat):Int)/18446744073709551616) % 18446744073709551616,(q/((2 ^ k:Nat):Int)) % 18446744073709551616):=by
 rw [zDs]
 simp only
 by_cases h0:k=0
 ·subst h0;rw [if_pos (by simp)];simp
 rw [if_neg (by omega),if_pos (by omega),i64_in (64-(k:Int)) (by omega),if_pos (by omega),if_pos (by omega)]
 obtain ⟨P,hP⟩:∃P:Nat,P=2 ^ k:=⟨_,rfl⟩
 obtain ⟨Z,hZ⟩:∃Z:Nat,Z=2 ^ (64-k):=⟨_,rfl⟩
 have hZP:Z*P=18446744073709551616:=by rw [hZ,hP,←Nat.pow_add,show 64-k+k=64 by omega]
 have hP0:0<P:=by rw [hP];exact Nat.two_pow_pos k
 have hZ0:0<Z:=by rw [hZ];exact Nat.two_pow_pos _
 obtain ⟨m,hm⟩:∃m:Nat,q % 18446744073709551616=(m:Int):=⟨(q % 18446744073709551616).toNat,by omega⟩
 obtain ⟨n,hn⟩:∃n:Nat,(q/18446744073709551616) % 18446744073709551616=(n:Int):=⟨((q/18446744073709551616) % 18446744073709551616).toNat,by omega⟩
 have hw:IntKind.i64.wrap ((q/18446744073709551616) % 18446744073709551616)=q/18446744073709551616:=by rw [IntKind.wrap_i64];omega
 have hs:=zUr (q:=q) (h:=q/18446744073709551616) (l:=(m:Int)) (P:=(P:Int)) (Z:=(Z:Int)) (by omega) (by omega) (by omega) (by omega) (by rw [←Int.natCast_mul,hZP];rfl)
 have hk64:(64-(k:Int))=((64-k:Nat):Int):=by omega
 rw [hw,zJN (by omega),←hP,hm,hn,hk64,shlU _ _ (by omega),shrU _ _ (by omega),←hP,←hZ,hs.1,hs.2]
 have hl:m/P<Z:=by
  refine Nat.div_lt_of_lt_mul ?_
  rw [Nat.mul_comm,hZP];omega
 have hmW:m/P<18446744073709551616:=Nat.lt_of_le_of_lt (Nat.div_le_self _ _) (by omega)
 have hx:n*Z % 18446744073709551616=Z*(n % P):=by rw [←hZP,Nat.mul_comm n Z,Nat.mul_mod_mul_left]
 have hmod:(q/18446744073709551616) % (P:Int)=((n % P:Nat):Int):=by
  have:((P:Int)) ∣ 18446744073709551616:=⟨(Z:Int),by rw [←Int.natCast_mul,Nat.mul_comm,hZP];rfl⟩
  rw [←Int.emod_emod_of_dvd _ this,hn];rfl
 rw [IntKind.wrap_u64,orU (Nat.mod_lt _ (by omega)) hmW,hx,hZ,←Nat.two_pow_add_eq_or_of_lt (by rw [←hZ];exact hl),←hZ,hmod]
 simp
theorem zWK {p:Int} (hp: -4611686018427387904≤p/18446744073709551616∧p/18446744073709551616≤4611686018427387904):
  zCX ⟨(p/18446744073709551616) % 18446744073709551616,p % 18446744073709551616⟩=some (if J64 p then (p,0) else (0,2)):=by
 have hs:sShr .i64 (IntKind.i64.wrap (p % 18446744073709551616)) 63=IntKind.i64.wrap (p % 18446744073709551616)/9223372036854775808:=by
  have:=zJN (x:=IntKind.i64.wrap (p % 18446744073709551616)) (k:=63) (by omega)
  rw [show ((63:Nat):Int)=63 from rfl] at this
  rw [this];rfl
 rw [zCX]
 simp only
 rw [hs]
 have key:(p/18446744073709551616) % 18446744073709551616=IntKind.u64.wrap (IntKind.i64.wrap (p % 18446744073709551616)/9223372036854775808)↔J64 p:=by
  unfold J64;rw [IntKind.wrap_u64,IntKind.wrap_i64];omega
 by_cases h:J64 p
 ·rw [if_neg (by simp [key.2 h]),if_pos h]
  congr 2
  unfold J64 at h;rw [IntKind.wrap_i64];omega
 ·rw [if_pos (by simp;exact fun e=>h (key.1 e)),if_neg h]
def mulP (a b f:Int):Int×Int:=if 0≤f∧f≤30 then (if J64 (a*b/((2 ^ f.toNat:Nat):Int)) then (a*b/((2 ^ f.toNat:Nat):Int),0) else (0,2)) else (0,1)
theorem zZt {a b:Int} (ha:J64 a) (hb:J64 b): -4611686018427387904≤a*b/18446744073709551616∧a*b/18446744073709551616≤4611686018427387904:=by
 have h:(a*b).natAbs≤9223372036854775808*9223372036854775808:=by
  rw [Int.natAbs_mul];unfold J64 at*;exact Nat.mul_le_mul (by omega) (by omega)
 generalize a*b=p at*
 omega
theorem zNw {a b f : Int} (ha : J64 a) (hb : J64 b) : zGb a b f = some (mulP a b f) := by
  rw [zGb, zF4, andB, zAb, mulP]
  by_cases h : 0 ≤ f ∧ f ≤ 30
  rotate_left
  · rw [if_pos (by simp; omega), if_neg h]
  obtain ⟨k, rfl⟩ : ∃ k : Nat, f = (k : Int) := ⟨f.toNat, by omega⟩
  have hq := zZt ha hb
  rw [if_neg (by simp; omega), if_pos h, zX3 ha hb, zAb, zYS (by omega) hq, zAb, Int.toNat_natCast]
  simp only
  have hp : -4611686018427387904 ≤ a * b / ((2 ^ k : Nat) : Int) / 18446744073709551616 ∧ a * b / ((2 ^ k : Nat) : Int) / 18446744073709551616 ≤ 4611686018427387904 := by
    have hk0 : 0 < ((2 ^ k : Nat) : Int) := by have := Nat.two_pow_pos k; omega
    have hZP : (2 ^ (64 - k)) * 2 ^ k = 18446744073709551616 := by rw [← Nat.pow_add, show 64 - k + k = 64 by omega]
    have hs := zUr (q := a * b) (h := a * b / 18446744073709551616) (l := a * b % 18446744073709551616) (P := ((2 ^ k : Nat) : Int)) (Z := ((2 ^ (64 - k) : Nat) : Int)) (by generalize a * b = p; omega) (by generalize a * b = p; omega) hk0 (by have := Nat.two_pow_pos (64 - k); omega) (by rw [← Int.natCast_mul, hZP]; rfl)
    rw [hs.1]
    generalize a * b / 18446744073709551616 = h' at *
    refine ⟨Int.le_trans ?_ (Int.ediv_le_ediv hk0 hq.1), Int.le_trans (Int.ediv_le_ediv hk0 hq.2) (Int.ediv_le_self _ (by omega))⟩
    exact Int.le_ediv_of_mul_le hk0 (by have : (1 : Int) ≤ ((2 ^ k : Nat) : Int) := by omega
                                        omega)
  rw [zWK hp, zAb]
end Go.Proofs.YtnmlihfpenjeiaaGreat.Abs
