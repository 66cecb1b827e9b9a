/- PressMeets: whatever comes in it answers true, and what came in reads as it did. Conditions: none. -/
import Derived.Test.YtdgdgfckcnjpfaaGreatZW2
import Derived.Test.YtdgdgfckcnjpfaaGreatPX4
import Derived.Test.YtdgdgfckcnjpfaaGreatRows
import Derived.Test.YtdgdgfckcnjpfaaGreatAbs6
import Derived.JoinedOf
import Derived.OpenShut
namespace Go.Proofs.YtdgdgfckcnjpfaaGreat.Abs
open Go Go.RowKit Go.ChangeShapes Go.WideShapes Go.ChangeAt
set_option linter.unusedVariables false
set_option maxRecDepth 100000
theorem zSV (xs:List D) (h:Ty.oks [.agg [.int .i64, .int .i64, .int .i64], .lst 8 (.int .i64), .int .u64, .lst 8 (.int .i64)] xs):EvF Tryz.prog 8 xs (.d (.bool true)):=by
 obtain ⟨x0,ys,rfl,h0,h⟩:=zOj h
 obtain ⟨x1,ys,rfl,h1,h⟩:=zOj h
 obtain ⟨x2,ys,rfl,h2,h⟩:=zOj h
 obtain ⟨x3,ys,rfl,h3,h⟩:=zOj h
 obtain rfl:=zAb2 h
 simp only [Ty.ok] at h0
 obtain ⟨c0,rfl,h0⟩:=h0
 obtain ⟨x0_0,ys,rfl,h0_0,h0⟩:=zOj h0
 obtain ⟨x0_1,ys,rfl,h0_1,h0⟩:=zOj h0
 obtain ⟨x0_2,ys,rfl,h0_2,h0⟩:=zOj h0
 obtain rfl:=zAb2 h0
 obtain ⟨a0_0,rfl,k0_0⟩:=zO3 h0_0
 obtain ⟨a0_1,rfl,k0_1⟩:=zO3 h0_1
 obtain ⟨a0_2,rfl,k0_2⟩:=zO3 h0_2
 obtain ⟨a1,rfl,b1,k1⟩:=zYd h1
 obtain ⟨a2,rfl,k2⟩:=zO3 h2
 obtain ⟨a3,rfl,b3,k3⟩:=zYd h3
 exact zLF ⟨a0_0,a0_1,a0_2⟩ a1 a2 a3 true (zR9 _ a1 a2 a3 (fun x hx=>zAcV (k1 x hx)))
theorem zSU:ownKnob Tryz.prog.godebug=none:=by kernel_rfl
theorem zMA:laidOutB Tryz.prog=true:=by kernel_rfl
theorem zSQ:zNi Tryz.prog Tryz.f8.params.toList=some [.agg [.int .i64, .int .i64, .int .i64], .lst 8 (.int .i64), .int .u64, .lst 8 (.int .i64)]:=by kernel_rfl
theorem zUG:Tryz.f8.params.toList.all (fun t=>Tryz.prog.readableRec t&&decide (t<Tryz.prog.types.size))=true:=by kernel_rfl
theorem zQi (os:Os) (started:os.Started) (H:Type) (enc:TypeId×Value→H):ReturnsInHanded {} Tryz.checked os 8 .any (Rows.pressMeetsSpec.pre6 enc Tryz.prog Tryz.f8 Rows.pressMeetsRow.domain false) (Rows.pressMeetsSpec.post enc Tryz.prog Tryz.f8 false true false false):=by
 refine zAbf (C:=Tryz.checked) (tb:=4) (ys:=[.agg [.int .i64, .int .i64, .int .i64], .lst 8 (.int .i64), .int .u64, .lst 8 (.int .i64)]) zSU started (by kernel_rfl) Tryz.func8
  (ChangeSpec.witness6 (enc:=enc) (C:=Tryz.checked) false ⟨#[],#[.agg #[.int .i64 0, .int .i64 0, .int .i64 0], .slice none 0 0, .int .u64 0, .slice none 0 0],[]⟩ 8 (by kernel_rfl) (by kernel_rfl) (by kernel_rfl) (by kernel_rfl)) rfl (by kernel_rfl) (by kernel_rfl) zMA zUG zSQ ?_ zSV
 intro ds hds
 rw [show Tryz.f8.params.toList.length=4 from by kernel_rfl] at hds
 match ds,hds with
 | [d0,d1,d2,d3],_=>rfl
theorem zKz:Tryz.prog.closure 8=[8,9,13,30,57,59,60,58,11,33,17,34,69,70,72,71,73,47,74,75,76,129,172,198,173,199,174,175,200,176,177,202,219,190,201,210,216,230,211,225,212,226,227,213,228,229,236,214,215,217,218,130,178,180,179,203,77,78,131,181,79,80,132,81,82,83,133,134,46,104,103,135,182,183,184,204,137,136,185,205,220,231,221,84,42,100,153,154,152,189,101,155,145,138,85,86,139,87,88,140,21,45,44,141,142,89,144,143,90,91,20,19,43,102,16,10,31,61,62,118,119,52,109,157,191,110,159,158,111,160,170,196,192,126,206,161,193,207,222,112,63,120,166,195,209,208,223,232,224,233,237,241,242,243,244,245,249,250,251,252,253,247,234,238,246,248,254,255,235,240,239,32,64,121,66,122,65,67,123,68,124,167,125,168,127,169,128,171,197,28,15,39,40,41,22]:=by kernel_rfl
theorem zUC:Rows.pressMeetsRow.inPlace=Tryz.prog.inPlace 8:=by unfold Program.inPlace;rw [zKz];kernel_rfl
theorem zOB:Rows.pressMeetsRow.unfollowed=Tryz.prog.unfollowed 8:=by unfold Program.unfollowed;rw [zKz];kernel_rfl
theorem zUT:Rows.pressMeetsRow.recurses=Tryz.prog.recurses 8:=by unfold Program.recurses;rw [←zOB];rfl
theorem zUJ:Rows.pressMeetsRow.named=Tryz.prog.varsNamed 8:=by unfold Program.varsNamed;rw [zKz];kernel_rfl
theorem zUz:mapsRowed Tryz.prog=true:=by kernel_rfl
theorem zUN:joinedFacts Tryz.prog 8 Tryz.f8 Rows.pressMeetsSpec Rows.pressMeetsRow=true:=by unfold joinedFacts;rw [zMA,zUz,←zUC,←zOB,←zUT,←zUJ];kernel_rfl
theorem pressMeets_over:Rows.pressMeetsRow.holds Tryz.pinned (OpenSpec.ofChange Rows.pressMeetsSpec):=
 OpenClaim.holds_of_wide 8 Tryz.f8 rfl rfl rfl rfl rfl rfl rfl ⟨rfl,rfl,rfl,rfl,rfl⟩ rfl rfl rfl rfl rfl (by kernel_rfl) Tryz.func8 zUN
  (of_decide_eq_true (by kernel_rfl)) (by unfold Func.isWrapper;first | (rw [if_pos (by decide+kernel)];kernel_rfl) | (rw [if_neg (by decide+kernel)];exact ⟨rfl,rfl⟩))
  (fun os started H enc _=>zQi os started H enc)
end Go.Proofs.YtdgdgfckcnjpfaaGreat.Abs
namespace Go.Proofs.YtdgdgfckcnjpfaaGreat
theorem pressMeets_holds:Rows.PressMeetsSaid:=Abs.pressMeets_over
#print axioms pressMeets_holds
end Go.Proofs.YtdgdgfckcnjpfaaGreat
