/- Plain lemmas on lists, numbers and models. Conditions: none. -/
import Derived.Test.YtnmlihfpenjeiaaGreatAbs5
import Derived.Test.YtnmlihfpenjeiaaGreatAbs6
namespace Go.Proofs.YtnmlihfpenjeiaaGreat.Abs
open Go Go.RowKit Go.IntWalk
set_option linter.unusedVariables false
theorem zAb {α β:Type} (a:α) (f:α→Option β):(some a>>=f)=f a:=rfl
theorem orB {β:Type} {p:Prop} [Decidable p] {b:Bool} {f:Bool→Option β}:((if p then some true else some b:Option Bool)>>=f)=f (decide p||b):=by
 by_cases h:p<;>simp [h]
theorem andB {β:Type} {p:Prop} [Decidable p] {b:Bool} {f:Bool→Option β}:((if p then some b else some false:Option Bool)>>=f)=f (decide p&&b):=by
 by_cases h:p<;>simp [h]
theorem zAw {α:Type} [Inhabited α] {l t:List α} {k:Nat} {x:α} (h:l.drop k=x::t):(k:Int)<l.length∧at' l (k:Int)=x∧l.drop (k+1)=t:=by
 have hk:k<l.length:=by
  rcases Nat.lt_or_ge k l.length with h' | h'
  ·exact h'
  ·rw [List.drop_eq_nil_of_le h'] at h;cases h
 rw [List.drop_eq_getElem_cons hk] at h
 injection h with h1 h2
 refine ⟨by omega, ?_,h2⟩
 simp only [at',Int.toNat_natCast]
 simp [hk,h1]
theorem zAP {α:Type} {l:List α} {k:Nat} (h:l.drop k=[]):¬((k:Int)<l.length):=by
 have:=List.drop_eq_nil_iff.1 h
 omega
theorem zD4 {α:Type} [Inhabited α] {l:List α} {k:Nat}:at' l (k:Int)=l.getD k default:=rfl
theorem zEk {B n:Nat} (hB:1≤B) (h:n*B≤140737488355328):room B n:=by
 refine ⟨?_,h⟩
 have:n*1≤n*B:=Nat.mul_le_mul_left _ hB
 omega
theorem zB2 {n:Nat} (h:n≤17592186044416):room 8 n:=⟨by omega,by omega⟩
theorem zM9 (x:Int): -9223372036854775808≤IntKind.i64.wrap x∧IntKind.i64.wrap x≤9223372036854775807:=by rw [IntKind.wrap_i64];omega
theorem zSP (x:Int):0≤IntKind.u64.wrap x∧IntKind.u64.wrap x≤18446744073709551615:=by rw [IntKind.wrap_u64];omega
theorem zAJ {k:Nat} (h:k<9223372036854775807):IntKind.i64.wrap ((k:Int)+1)=((k+1:Nat):Int):=by rw [i64_in _ (by omega)];omega
def InK (k:IntKind) (n:Int):Prop:=(Lit.int k n).wf=true
theorem zNq {n:Int} (h:InK .i64 n): -9223372036854775808≤n∧n≤9223372036854775807:=by
 simpa [InK,Lit.wf,IntKind.min,IntKind.max,IntKind.signed,IntKind.bits] using h
theorem zDm {k:IntKind} {x:D} (h:(Ty.int k).ok x):∃n,x= .int k n∧InK k n:=by simp only [Ty.ok] at h;exact h
theorem zU2 {α:Type} {B:Nat} {t:Ty} {enc:α→D} {R:α→Prop} {x:D} (ht:∀y,t.ok y→∃a,y=enc a∧R a) (h:(Ty.lst B t).ok x):∃l:List α,x= .lst (l.map enc)∧l.length*B≤140737488351232∧∀a∈l,R a:=by
 simp only [Ty.ok] at h
 obtain ⟨es,rfl,h1,h2⟩:=h
 suffices ∃l:List α,es=l.map enc∧∀a∈l,R a by
  obtain ⟨l,rfl,h3⟩:=this
  exact ⟨l,rfl,by simpa using h1,h3⟩
 clear h1
 induction es with
 | nil=>exact ⟨[],rfl,by simp⟩
 | cons e es ih=>
  obtain ⟨a,rfl,ha⟩:=ht e (h2 e (by simp))
  obtain ⟨l,rfl,hl⟩:=ih fun y hy=>h2 y (by simp [hy])
  exact ⟨a::l,rfl,by simpa using ⟨ha,hl⟩⟩
theorem zUy {B:Nat} {k:IntKind} {x:D} (h:(Ty.lst B (.int k)).ok x):∃l:List Int,x= .lst (l.map (D.int k))∧l.length*B≤140737488351232∧∀n∈l,InK k n:=
 zU2 (fun y hy=>zDm hy) h
theorem zDB {t:Ty} {ts:List Ty} {xs:List D} (h:Ty.oks (t::ts) xs):∃x ys,xs=x::ys∧t.ok x∧Ty.oks ts ys:=by simpa only [Ty.oks] using h
theorem zVk {xs:List D} (h:Ty.oks [] xs):xs=[]:=by simpa only [Ty.oks] using h
end Go.Proofs.YtnmlihfpenjeiaaGreat.Abs
