/- Plain facts: the chapter's example; what is short enough. Conditions: none. -/
import Derived.Test.YtdgdgfckcnjpfaaGreatPV5
import Derived.Test.YtdgdgfckcnjpfaaGreatPHe
namespace Go.Proofs.YtdgdgfckcnjpfaaGreat.Abs
open Go Go.RowKit Go.IntWalk
set_option linter.unusedVariables false
set_option linter.unusedSimpArgs false
set_option linter.unnecessarySimpa false
set_option maxRecDepth 100000
theorem zVS:zVx (⟨1,1,0⟩:zAk) [3,-5] [0,0] 1 []=(⟨1,2,[1],[-5],0,0,[],[]⟩,[3,0],0):=by kernel_rfl
theorem zAab:zE9=some true:=by
 have h1:I64s [3,-5]:=by intro n hn;simp at hn;omega
 have h2:I64s [0,0]:=by intro n hn;simp at hn;omega
 rw [zE9,zAbR h1 h2 (by simp),zVS,zAb]
 have e1:=zM1 [-5] [-5] (by simp)
 have e2:=zM1 [3,0] [3,0] (by simp)
 have hat:at' [(1:Int)] 0=1:=rfl
 simp [zZB,e1,e2,hat,zAb]
theorem zWn (n:List Int) (l:List (List Int)) (hl:l.length≤10000000000000):∀(t:List (List Int)) (k:Nat),l.drop k=t→∃e,zB0 n l (k:Int)=some e∧(e= .inl false∨e= .inr ()∧∀v∈t,v.length≤200∨(4096<v.length∧v.length≤5000))
 | [],k,h1=>⟨_,by rw [zB0,if_neg (zAI h1)], .inr ⟨rfl,by simp⟩⟩
 | x::t,k,h1=>by
  have g1:=zAm h1
  rw [zB0,if_pos g1.1,if_pos (by omega),g1.2.1,andB,orB]
  by_cases hc:(decide ((decide ((x.length:Int)>200)&&decide ((x.length:Int)≤4096))=true)||decide ((x.length:Int)>5000))=true
  ·rw [if_pos hc];exact ⟨_,rfl, .inl rfl⟩
  ·rw [if_neg hc,zA6 (by omega)]
   obtain ⟨e,h2,h3⟩:=zWn n l hl t (k+1) g1.2.2
   refine ⟨e,h2, ?_⟩
   rcases h3 with h3 | ⟨h3,h4⟩
   ·exact .inl h3
   ·refine .inr ⟨h3,fun v hv=> ?_⟩
    rcases List.mem_cons.1 hv with rfl | hv
    ·simp at hc;omega
    ·exact h4 v hv
theorem zAbq (n:List Int) (l:List (List Int)) (hl:l.length≤10000000000000):∃b,zFM n l=some b∧(b=true→n.length≤50∧l.length≤30∧∀v∈l,v.length≤200∨(4096<v.length∧v.length≤5000)):=by
 obtain ⟨e,h2,h3⟩:=zWn n l hl l 0 rfl
 rw [show ((0:Nat):Int)=0 from rfl] at h2
 rw [zFM,h2,zAb]
 rcases h3 with rfl | ⟨rfl,h4⟩
 ·exact ⟨false,rfl,by simp⟩
 ·simp only [andB]
  refine ⟨_,rfl,fun h=>⟨?_, ?_,h4⟩⟩
  ·simp at h;omega
  ·simp at h;omega
theorem zAa7 (a b:List Int) (h:a.length≤4611686018427387904):zLe a b=some (decide (a=b)):=by
 rw [zLe,zNW a b h];rfl
end Go.Proofs.YtdgdgfckcnjpfaaGreat.Abs
