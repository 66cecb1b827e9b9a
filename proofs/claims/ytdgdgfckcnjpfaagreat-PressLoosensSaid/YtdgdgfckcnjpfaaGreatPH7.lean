/- Plain facts: an order has each place once. Conditions: none. -/
import Derived.Test.YtdgdgfckcnjpfaaGreatPHb
import Derived.Test.YtdgdgfckcnjpfaaGreatPHm
namespace Go.Proofs.YtdgdgfckcnjpfaaGreat.Abs
open Go Go.RowKit Go.IntWalk
set_option linter.unusedVariables false
set_option linter.unusedSimpArgs false
set_option linter.unusedSectionVars false
set_option linter.unnecessarySimpa false
set_option maxRecDepth 100000
set_option linter.unusedSimpArgs false
set_option linter.unusedSectionVars false
set_option maxRecDepth 100000
def zXh (a b:zAa):Bool:= !decide (a.F_size<b.F_size∨(a.F_size=b.F_size∧b.F_place<a.F_place))
theorem zMC (a b:zAa):zXh a b=true↔¬bh a b:=by
 unfold zXh bh
 rw [Bool.not_eq_true',decide_eq_false_iff_not]
def zBe (v:List Int):List zAa:=(zDu v).mergeSort zXh
theorem zGz (v:List Int):(zBe v).Perm (zDu v):=List.mergeSort_perm _ _
theorem zWh (v:List Int):(zBe v).Pairwise (fun a b=>bh b a):=by
 have h1:(zBe v).Pairwise (fun a b=>zXh a b=true):=List.pairwise_mergeSort (fun a b c h1 h2=>by
  rw [zMC] at*
  exact zQS h1 h2) (fun a b=>by
  rw [Bool.or_eq_true,zMC,zMC]
  by_cases h:bh a b
  ·exact .inr (zLt h)
  ·exact .inl h) _
 have h2:(zBe v).Nodup:=(zGz v).nodup_iff.2 (zUe v)
 refine (h1.and h2).imp fun {a b} hab=> ?_
 have h3:=(zMC a b).1 hab.1
 by_cases h:bh b a
 ·exact h
 ·exact absurd (zAb2 h3 h) hab.2
theorem zSX {v:List Int} {x:zAa} (h:x∈zBe v):∃i:Nat,i<v.length∧x=zHq v i:=by
 obtain ⟨i,hi,e⟩:=(zJB v 0 x).1 ((zGz v).mem_iff.1 h)
 exact ⟨i,hi,by rw [e,Nat.zero_add];rfl⟩
end Go.Proofs.YtdgdgfckcnjpfaaGreat.Abs
