/- Walks as trees: what was held side by side holds. Conditions: none. -/
import Derived.Test.YtnmlihfpenjeiaaGreatAbsG7
namespace Go.Proofs.YtnmlihfpenjeiaaGreat.Abs
open Go Go.RowKit
set_option linter.unusedVariables false
set_option linter.unusedSimpArgs false
section
variable {F:Fe}
theorem go_ret {P:Program} {N:Nat} {Q:Kd→St→Prop}:∀{ks:List Fr} {st:St},Q .ret st→go P N Q ks .ret st
 | [],st,h=>⟨st,Sub.refl st,h⟩
 | .c _::ks,st,h=>go_ret (ks:=ks) h
 | .b _::ks,st,h=>go_ret (ks:=ks) h
 | .o _ _::ks,st,h=>go_ret (ks:=ks) h
 | .l _::ks,st,h=>go_ret (ks:=ks) h
 | .h _::ks,st,h=>go_ret (ks:=ks) h
theorem zOf {r:F.ρ} {st:St} (h:finB F.res (F.en r) (F.bx r) st=some ⟨[(0,F.en r)],F.bx r⟩) {k:Kd} (hk:(match k with | .exit _=>false | _=>true)=true):Fnl F.res (F.en r) (F.bx r) k st:=by
 unfold finB at h
 split at h
 ·rename_i p hp;exact ⟨by cases k<;>simp_all,p,hp,zE7 h⟩
 ·cases h
theorem zPk {kn:List Prop} (hkn:∀p∈kn,p) {st:St} {o:zAo} {h:Ht} {r:CT} (hg:(zRH kn st o h r).good):Holds o st∧r.good:=by
 obtain ⟨dst,g,n,op⟩:=o
 cases dst with
 | none=>exact hg.elim
 | some d=>
  simp only [zRH] at hg
  cases ho:offG g st with
  | true=>
   rw [ho] at hg
   simp only [cond_true] at hg
   refine ⟨?_,hg.2⟩
   cases g with
   | none=>cases ho
   | some tb=>
    obtain ⟨t,b⟩:=tb
    simp only [offG] at ho
    split at ho
    ·rename_i e;exact hN rfl (.inl e) rfl hg.1
    ·rename_i c e
     have:c= !b:=by simpa using ho
     subst this
     exact hN rfl (.inr e) rfl hg.1
    ·cases ho
  | false=>
   rw [ho] at hg
   cases hb:gokS g st with
   | false=>rw [hb] at hg;exact hg.elim
   | true=>
    rw [hb] at hg
    simp only [cond_true,cond_false] at hg
    have hgo:=zR8 hb
    cases h with
    | c=>
     simp only at hg
     split at hg
     ·rename_i c v hr
      exact ⟨hX rfl hgo hr (zMW hr hg.1) hg.2.1,hg.2.2⟩
     ·exact hg.elim
    | rd c v j=>
     simp only at hg
     obtain ⟨h1,h2,h3,h4⟩:=hg
     exact ⟨hX rfl hgo h1 (hkn _ (List.mem_of_getElem? h2)) h3,h4⟩
    | len enc l=>
     simp only at hg
     split at hg
     ·exact ⟨hLen hgo hg.1 hg.2.1,hg.2.2⟩
     ·exact hg.elim
    | idx e l iv j=>
     simp only at hg
     split at hg
     ·obtain ⟨rfl,hi,hk,hg⟩:=hg
      obtain ⟨⟨ki,iv'⟩,hi',hiv⟩:=Option.map_eq_some_iff.1 hi
      simp only at hiv;subst hiv
      have hc:=hkn _ (List.mem_of_getElem? hk)
      split at hg
      ·rename_i hv
       obtain ⟨rfl,h1,h2⟩:=hg
       exact ⟨zZ0 hgo hv hi' e.ok hc h1,h2⟩
      ·rename_i hv
       obtain ⟨rfl,rfl,h1,h2⟩:=hg
       exact ⟨zZP hgo hv hi' hc h1,h2⟩
      ·exact hg.elim
     ·exact hg.elim
    | cut e l a b j=>
     simp only at hg
     split at hg
     ·obtain ⟨rfl,hlo,hhi,hk,hg⟩:=hg
      have hc:=hkn _ (List.mem_of_getElem? hk)
      split at hg
      ·rename_i hv
       obtain ⟨rfl,h1,h2⟩:=hg
       exact ⟨zZE hgo hv hlo hhi e.ok hc h1,h2⟩
      ·rename_i hv
       obtain ⟨rfl,rfl,h1,h2⟩:=hg
       exact ⟨zZF hgo hv hlo hhi hc h1,h2⟩
      ·exact hg.elim
     ·exact hg.elim
theorem zKI {kn:List Prop} (hkn:∀p∈kn,p) {st:St}:∀{S:List zAo} {hs:List Ht} {r:CT},(zQh kn st S hs r).good→zBT S st∧r.good
 | [],hs,r,h=>⟨trivial,by cases hs<;>exact h⟩
 | o::S,[],r,h=>by
  obtain ⟨h1,h2⟩:=zPk hkn h
  obtain ⟨h3,h4⟩:=zKI hkn h2
  exact ⟨⟨h1,h3⟩,h4⟩
 | o::S,x::hs,r,h=>by
  obtain ⟨h1,h2⟩:=zPk hkn h
  obtain ⟨h3,h4⟩:=zKI hkn h2
  exact ⟨⟨h1,h3⟩,h4⟩
theorem zNm {c:Prop} {kn:List Prop} (hkn:∀p∈kn,p) (hc:c):∀p∈c::kn,p:=by
 intro p hp
 rcases List.mem_cons.1 hp with rfl | hp
 ·exact hc
 ·exact hkn _ hp
theorem zCL {X τ:Type} {f:X→Option τ} {R:τ→Kd→St→Prop}:∀(y:X) (ks:List Fr) (k:Kd) (st:St),((fun (_:X) (_:List Fr) (_:Kd) (_:St)=>CT.no) y ks k st).good→Ok (f y) fun v=>go F.P F.N (R v) ks k st:=
 fun _ _ _ _ h=>h.elim
theorem zU8 {γ:Type} {S':γ→St}:∀(v:γ) (k:Kd) (s:St),((fun (v:γ) kd s=>CT.eq kd .norm (fitC s (S' v) .tt)) v k s).good→go F.P F.N (zGw .norm S' v) [] k s:=by
 intro v k s ⟨h1,h2,_⟩
 exact ⟨s,Sub.refl s,h1,zE7 h2⟩
def zZw {γ:Type} (S':γ→St) (e:Sum F.ρ γ) (kd:Kd) (s:St):CT:=match e with
 | .inl r=> .eq kd .ret (finC r s .tt)
 | .inr v=> .eq kd .norm (fitC s (S' v) .tt)
theorem zX8 {γ:Type} {S':γ→St}:∀(v:Sum F.ρ γ) (k:Kd) (s:St),(zZw S' v k s).good→go F.P F.N (zHZ (fun r=>Fnl F.res (F.en r) (F.bx r)) .norm S' v) [] k s:=by
 intro v k s h
 cases v with
 | inl r=>
  obtain ⟨h1,h2,_⟩:=h
  subst h1
  exact ⟨s,Sub.refl s,rfl,zOf h2 rfl⟩
 | inr v=>
  obtain ⟨h1,h2,_⟩:=h
  exact ⟨s,Sub.refl s,h1,zE7 h2⟩
theorem zZD {P:Program} {N:Nat} {β:Type} {m:Option β} {R:β→Kd→St→Prop} {ks:List Fr} {st:St} {l:List Int} {k:Tg} {kk:IntKind} {iv:Int} {o:Nat} {q:Bool} {dst:Option Nat} {g:Option (Nat×Bool)} {n:Nat} {x:Opd} {r:List zAo} (hg:gok g st)
  (hx:(gst g st).val x=some (.ptr k o)) (ho:o=0+iv.toNat*1) (hM:k.isM=false) (hb:(gst g st).box k=some (l.map fun v=> .d (.int kk v))) (hc:0≤iv∧iv<(l.length:Int))
  (next:Ok m fun b=>go P N (R b) (.o q r::ks) .norm ((gst g st).putO dst (.d (.int kk (at' l iv))))):
  Ok m fun b=>go P N (R b) (.o q (⟨dst,g,n, .load false 1 x⟩::r)::ks) .norm st:=by
 subst ho
 refine next.mono fun z hz=>zA9 hg (zHB (v:= .d (.int kk (at' l iv))) (c:=0+iv.toNat*1<(l.map fun v=>PV.d (.int kk v)).length) ?_ ?_ hz)
 ·simp only [rop,hx,hb]
  have h2:iv.toNat<l.length:=by omega
  have:(l.map fun v=>PV.d (.int kk v)).getD (0+iv.toNat*1) .unk= .d (.int kk (at' l iv)):=by
   rw [Nat.mul_one,Nat.zero_add]
   simp [at',h2]
  rw [this,hM];rfl
 ·simp;omega
theorem zNu {τ γ:Type} {s:Sg F.P γ} (hm:s.Holds) (nl:∀v,(s.en v).noLst) {dst:Option Nat} {g:Option (Nat×Bool)} {m:Nat} {op:AOp} {q:Bool} {r:List zAo} {ks:List Fr} {st:St} {kk:γ→Option τ} {R:τ→Kd→St→Prop} (hg:gok g st)
  (h1:(zK4 F.P s.f op (gst g st)).bind (PV.toDBL (gst g st).box)=some s.ds) (h2:∀v,(s.en v).rok=true) (hk:∀v,Ok (kk v) fun b=>go F.P F.N (R b) (.o q r::ks) .norm ((gst g st).got m dst (s.en v))):
  Ok (s.mc>>=kk) fun b=>go F.P F.N (R b) (.o q (⟨dst,g,m,op⟩::r)::ks) .norm st:=by
 obtain ⟨as,h3,h4⟩:=Option.bind_eq_some_iff.1 h1
 unfold zK4 at h3
 split at h3
 ·rename_i f' args
  cases hb:f'==s.f with
  | false=>rw [hb] at h3;cases h3
  | true=>
   rw [hb] at h3
   have:f'=s.f:=by simpa using hb
   subst this
   exact (zZp hm hg (by simp only [cond_true] at h3;rw [h3];exact h4) (h2) nl hk)
 ·rename_i y args
  split at h3
  ·rename_i f' a b hv
   cases hb:f'==s.f with
   | false=>rw [hb] at h3;cases h3
   | true=>
    rw [hb] at h3
    have:f'=s.f:=by simpa using hb
    subst this
    simp only [cond_true,Option.map_eq_some_iff] at h3
    obtain ⟨ps,h5,rfl⟩:=h3
    exact (zUZ hm hg (.inl hv) h5 h4 (h2) nl hk)
  ·rename_i f' a b hv
   cases hb:f'==s.f with
   | false=>rw [hb] at h3;cases h3
   | true=>
    rw [hb] at h3
    have:f'=s.f:=by simpa using hb
    subst this
    simp only [cond_true,Option.map_eq_some_iff] at h3
    obtain ⟨ps,h5,rfl⟩:=h3
    exact (zUZ hm hg (.inr ⟨a,b,hv,rfl,rfl⟩) h5 h4 (h2) nl hk)
  ·cases h3
 ·rename_i y mm args
  split at h3
  ·rename_i t px hv
   split at h3
   ·rename_i f' p0 hi
    cases hb:f'==s.f with
    | false=>rw [hb] at h3;cases h3
    | true=>
     rw [hb] at h3
     have:f'=s.f:=by simpa using hb
     subst this
     simp only [cond_true,Option.map_eq_some_iff] at h3
     obtain ⟨ps,h5,rfl⟩:=h3
     exact (zYz hm hg hv hi h5 h4 (h2) nl hk)
   ·cases h3
  ·cases h3
 ·cases h3
theorem Tr.chk_sound:∀{X τ:Type} (t:Tr F X τ) (lf:τ→Kd→St→CT) (up:Option (F.ρ→τ)) (ag:X→List Fr→Kd→St→CT) (kn:List Prop) (x:Cf) (f:X→Option τ) (R:τ→Kd→St→Prop),
  (∀v k st,(lf v k st).good→go F.P F.N (R v) [] k st)→(∀u,up=some u→∀r s,Fnl F.res (F.en r) (F.bx r) .ret s→R (u r) .ret s)→
  (∀y ks k st,(ag y ks k st).good→Ok (f y) fun v=>go F.P F.N (R v) ks k st)→(∀p∈kn,p)→(t.chk lf up ag kn x).good→Ok (t.den f) fun v=>x.H F.P F.N (R v):=by
 intro X τ t
 induction t with
 | ret n v=>
  intro lf up ag kn x f R hlf hup hag hkn h r hr
  cases hr
  simp only [Tr.chk] at h
  split at h
  ·rename_i k st hx
   refine Cf.run_H (n:=n) ?_
   rw [hx];exact hlf _ _ _ h
  ·exact h.elim
 | again n y=>
  intro lf up ag kn x f R hlf hup hag hkn h
  simp only [Tr.chk] at h
  split at h
  ·rename_i ks k st hx
   exact (hag y ks k st h).mono fun r hr=>Cf.run_H (n:=n) (by rw [hx];exact hr)
  ·exact h.elim
 | halt=>intro lf up ag kn x f R hlf hup hag hkn h;exact Ok.none
 | let_ e k ih=>
  intro lf up ag kn x f R hlf hup hag hkn h r hr
  exact ih e lf up ag kn x f R hlf hup hag hkn h r hr
 | fitT n s k ih=>
  intro lf up ag kn x f R hlf hup hag hkn h
  simp only [Tr.chk] at h
  split at h
  ·rename_i ks kd st hx
   obtain ⟨h1,h2,h3⟩:=h
   exact (ih lf up ag kn _ f R hlf hup hag hkn h3).mono fun r hr=>Cf.run_H (n:=n) (by rw [hx];exact go_sub h1 hr (zE7 h2))
  ·exact h.elim
 | ite n t p a b iha ihb=>
  intro lf up ag kn x f R hlf hup hag hkn h r hr
  simp only [Tr.chk] at h
  simp only [Tr.den] at hr
  split at h
  ·rename_i ks kd st hx
   obtain ⟨h1,h2,h3⟩:=h
   refine Cf.run_H (n:=n) ?_
   rw [hx]
   by_cases hp:p
   ·rw [if_pos hp] at hr
    have:=iha lf up ag kn _ f R hlf hup hag hkn h2 r hr
    rw [St.setS_same (by rw [h1];simp [hp])] at this
    exact this
   ·rw [if_neg hp] at hr
    have:=ihb lf up ag kn _ f R hlf hup hag hkn h3 r hr
    rw [St.setS_same (by rw [h1];first | (simp [hp];done) | (simp at hp;simp [hp]))] at this
    exact this
  ·exact h.elim
 | iteN n t p a b iha ihb=>
  intro lf up ag kn x f R hlf hup hag hkn h r hr
  simp only [Tr.chk] at h
  simp only [Tr.den] at hr
  split at h
  ·rename_i ks kd st hx
   obtain ⟨h1,h2,h3⟩:=h
   refine Cf.run_H (n:=n) ?_
   rw [hx]
   by_cases hp:¬p
   ·rw [if_pos hp] at hr
    have:=iha lf up ag kn _ f R hlf hup hag hkn h2 r hr
    rw [St.setS_same (by rw [h1];simp [hp])] at this
    exact this
   ·rw [if_neg hp] at hr
    have:=ihb lf up ag kn _ f R hlf hup hag hkn h3 r hr
    rw [St.setS_same (by rw [h1];first | (simp [hp];done) | (simp at hp;simp [hp]))] at this
    exact this
  ·exact h.elim
 | @iteP X τ n t z p _ hz a b iha ihb=>
  intro lf up ag kn x f R hlf hup hag hkn h r hr
  simp only [Tr.chk] at h
  simp only [Tr.den] at hr
  split at h
  ·rename_i ks kd st hx
   obtain ⟨h1,h2,h3⟩:=h
   refine Cf.run_H (n:=n) ?_
   rw [hx]
   by_cases hp:p
   ·rw [if_pos hp] at hr
    have:=iha lf up ag kn _ f R hlf hup hag hkn h2 r hr
    rw [St.setS_same (by rw [h1,hz];simp [hp])] at this
    exact this
   ·rw [if_neg hp] at hr
    have:=ihb lf up ag kn _ f R hlf hup hag hkn h3 r hr
    rw [St.setS_same (by rw [h1,hz];first | (simp [hp];done) | (simp at hp;simp [hp]))] at this
    exact this
  ·exact h.elim
 | @cas X τ n t p _ x1 y1 z1 hx1 hy1 a b iha ihb=>
  intro lf up ag kn x f R hlf hup hag hkn h r hr
  simp only [Tr.chk] at h
  simp only [Tr.den] at hr
  split at h
  ·rename_i ks kd st hx
   obtain ⟨h1,h2,h3⟩:=h
   refine Cf.run_H (n:=n) ?_
   rw [hx]
   by_cases hp:p
   ·rw [if_pos hp] at hr
    have:=iha lf up ag kn _ f R hlf hup hag hkn h2 r hr
    rw [St.setP_same (by rw [h1,hx1 hp])] at this
    exact this
   ·rw [if_neg hp] at hr
    have:=ihb lf up ag kn _ f R hlf hup hag hkn h3 r hr
    rw [St.setP_same (by rw [h1,hy1 hp])] at this
    exact this
  ·exact h.elim
 | iteB n t p a b iha ihb=>
  intro lf up ag kn x f R hlf hup hag hkn h r hr
  simp only [Tr.chk] at h
  simp only [Tr.den] at hr
  split at h
  ·rename_i ks kd st hx
   obtain ⟨h1,h2,h3⟩:=h
   refine Cf.run_H (n:=n) ?_
   rw [hx]
   by_cases hp:p=true
   ·rw [if_pos hp] at hr
    have:=iha lf up ag kn _ f R hlf hup hag hkn h2 r hr
    rw [St.setS_same (by rw [h1];simp [hp])] at this
    exact this
   ·rw [if_neg hp] at hr
    have:=ihb lf up ag kn _ f R hlf hup hag hkn h3 r hr
    rw [St.setS_same (by rw [h1];first | (simp [hp];done) | (simp at hp;simp [hp]))] at this
    exact this
  ·exact h.elim
 | iteX n t p a b iha ihb=>
  intro lf up ag kn x f R hlf hup hag hkn h r hr
  simp only [Tr.chk] at h
  simp only [Tr.den] at hr
  split at h
  ·rename_i ks kd st hx
   obtain ⟨h1,h2,h3⟩:=h
   refine Cf.run_H (n:=n) ?_
   rw [hx]
   by_cases hp:p=false
   ·rw [if_pos hp] at hr
    have:=iha lf up ag kn _ f R hlf hup hag hkn h2 r hr
    rw [St.setS_same (by rw [h1];simp [hp])] at this
    exact this
   ·rw [if_neg hp] at hr
    have:=ihb lf up ag kn _ f R hlf hup hag hkn h3 r hr
    rw [St.setS_same (by rw [h1];first | (simp [hp];done) | (simp at hp;simp [hp]))] at this
    exact this
  ·exact h.elim
 | len n e l k ih=>
  intro lf up ag kn x f R hlf hup hag hkn h
  simp only [Tr.chk] at h
  obtain ⟨dst,g,m,op,q,r,ks,st,hx,hg,h⟩:=Cf.op_good h
  split at h
  ·obtain ⟨h1,h2⟩:=h
   exact (L_len hg h1 (ih lf up ag kn _ f R hlf hup hag hkn h2)).mono fun v hv=>Cf.run_H (n:=n) (by rw [hx];exact hv)
  ·exact h.elim
 | idx n e l iv k ih=>
  intro lf up ag kn x f R hlf hup hag hkn h
  simp only [Tr.chk] at h
  obtain ⟨dst,g,m,op,q,r,ks,st,hx,hg,h⟩:=Cf.op_good h
  split at h
  ·obtain ⟨rfl,hi,h⟩:=h
   obtain ⟨⟨ki,iv'⟩,hi',hiv⟩:=Option.map_eq_some_iff.1 hi
   simp only at hiv;subst hiv
   split at h
   ·rename_i hv
    obtain ⟨rfl,h⟩:=h
    exact (L_idxD hg hv hi' e.ok fun hc=>ih lf up ag _ _ f R hlf hup hag (zNm hkn hc) h).mono fun v hv=>Cf.run_H (n:=n) (by rw [hx];exact hv)
   ·rename_i hv
    obtain ⟨rfl,rfl,h⟩:=h
    exact (L_idxO hg hv hi' fun hc=>ih lf up ag _ _ f R hlf hup hag (zNm hkn hc) h).mono fun v hv=>Cf.run_H (n:=n) (by rw [hx];exact hv)
   ·exact h.elim
  ·exact h.elim
 | cut n e l a b k ih=>
  intro lf up ag kn x f R hlf hup hag hkn h
  simp only [Tr.chk] at h
  obtain ⟨dst,g,m,op,q,r,ks,st,hx,hg,h⟩:=Cf.op_good h
  split at h
  ·obtain ⟨rfl,hlo,hhi,h⟩:=h
   split at h
   ·rename_i hv
    obtain ⟨rfl,h⟩:=h
    exact (L_cutD hg hv hlo hhi e.ok fun hc=>ih lf up ag _ _ f R hlf hup hag (zNm hkn hc) h).mono fun v hv=>Cf.run_H (n:=n) (by rw [hx];exact hv)
   ·rename_i hv
    obtain ⟨rfl,rfl,h⟩:=h
    exact (L_cutO hg hv hlo hhi fun hc=>ih lf up ag _ _ f R hlf hup hag (zNm hkn hc) h).mono fun v hv=>Cf.run_H (n:=n) (by rw [hx];exact hv)
   ·exact h.elim
  ·exact h.elim
 | app n e B l l2 k ih=>
  intro lf up ag kn x f R hlf hup hag hkn h
  simp only [Tr.chk] at h
  obtain ⟨dst,g,m,op,q,r,ks,st,hx,hg,h⟩:=Cf.op_good h
  split at h
  ·obtain ⟨rfl,rfl,hy,h⟩:=h
   split at h
   ·rename_i hv
    obtain ⟨rfl,rfl,h⟩:=h
    exact (L_app hg hv hy e.ok fun _=>ih lf up ag _ _ f R hlf hup hag hkn h).mono fun v hv=>Cf.run_H (n:=n) (by rw [hx];exact hv)
   ·exact h.elim
  ·exact h.elim
 | appN n e B l2 k ih=>
  intro lf up ag kn x f R hlf hup hag hkn h
  simp only [Tr.chk] at h
  obtain ⟨dst,g,m,op,q,r,ks,st,hx,hg,h⟩:=Cf.op_good h
  split at h
  ·obtain ⟨rfl,rfl,hy,hv,h⟩:=h
   exact (L_appN hg hv hy e.ok fun _=>ih lf up ag _ _ f R hlf hup hag hkn h).mono fun v hv=>Cf.run_H (n:=n) (by rw [hx];exact hv)
  ·exact h.elim
 | mk n e B z a b k ih=>
  intro lf up ag kn x f R hlf hup hag hkn h
  simp only [Tr.chk] at h
  obtain ⟨dst,g,m,op,q,r,ks,st,hx,hg,h⟩:=Cf.op_good h
  split at h
  ·obtain ⟨rfl,rfl,hz,hl,hc,h5⟩:=h
   obtain ⟨⟨k1,a'⟩,hl',ha⟩:=Option.map_eq_some_iff.1 hl
   simp only at ha;subst ha
   obtain ⟨⟨k2,b'⟩,hc',hb⟩:=Option.map_eq_some_iff.1 hc
   simp only at hb;subst hb
   exact (L_mk hg hl' hc' hz fun _=>ih lf up ag _ _ f R hlf hup hag hkn h5).mono fun v hv=>Cf.run_H (n:=n) (by rw [hx];exact hv)
  ·exact h.elim
 | appZ n e B z a k ih=>
  intro lf up ag kn x f R hlf hup hag hkn h
  simp only [Tr.chk] at h
  obtain ⟨dst,g,m,op,q,r,ks,st,hx,hg,h⟩:=Cf.op_good h
  split at h
  ·obtain ⟨rfl,rfl,hz,hy,hl,h5⟩:=h
   obtain ⟨⟨k1,a'⟩,hl',ha⟩:=Option.map_eq_some_iff.1 hl
   simp only at ha;subst ha
   exact (L_appZ hg hy hl' hz fun _=>ih lf up ag _ _ f R hlf hup hag hkn h5).mono fun v hv=>Cf.run_H (n:=n) (by rw [hx];exact hv)
  ·exact h.elim
 | sto n vs e l iv w k ih=>
  intro lf up ag kn x f R hlf hup hag hkn h
  simp only [Tr.chk] at h
  obtain ⟨dst,g,m,op,q,r,ks,st,hx,hg,h⟩:=Cf.op_good h
  split at h
  ·obtain ⟨rfl,h⟩:=h
   split at h
   ·rename_i hy hz
    obtain ⟨rfl,rfl,hd,hc,h⟩:=h
    simp only [Bool.and_eq_true,decide_eq_true_eq] at hc
    obtain ⟨h1,h2⟩:=St.rw_same (es':=(l.set iv.toNat w).map e.f) (by rw [Nat.zero_add,set_map]) h
    rw [h1] at h2
    exact (L_sto hg hy hz hd ⟨hc.1,by simp,fun _=>rfl,hc.2⟩ (e.ok w) (ih lf up ag _ _ f R hlf hup hag hkn h2)).mono fun v hv=>Cf.run_H (n:=n) (by rw [hx];exact hv)
   ·exact h.elim
  ·exact h.elim
 | cpy n vs e l l2 k ih=>
  intro lf up ag kn x f R hlf hup hag hkn h
  simp only [Tr.chk] at h
  obtain ⟨dst,g,m,op,q,r,ks,st,hx,hg,h⟩:=Cf.op_good h
  split at h
  ·obtain ⟨rfl,h⟩:=h
   split at h
   ·rename_i hy hz
    obtain ⟨rfl,rfl,hl,ht,h⟩:=h
    simp only [decide_eq_true_eq] at ht
    obtain ⟨h1,h2⟩:=St.rw_same (es':=(cpyL l l2).map e.f) cpy_map h
    rw [h1] at h2
    exact (L_cpy hg hy hz hl ht e.ok (ih lf up ag _ _ f R hlf hup hag hkn h2)).mono fun v hv=>Cf.run_H (n:=n) (by rw [hx];exact hv)
   ·exact h.elim
  ·exact h.elim
 | rd n c v k ih=>
  intro lf up ag kn x f R hlf hup hag hkn h
  simp only [Tr.chk] at h
  obtain ⟨dst,g,m,op,q,r,ks,st,hx,hg,h⟩:=Cf.op_good h
  obtain ⟨h1,h2⟩:=h
  exact (L_rd hg h1 fun hc=>ih lf up ag _ _ f R hlf hup hag (fun p hp=>by rcases List.mem_cons.1 hp with rfl | hp<;>first | exact hc | exact hkn p hp) h2).mono fun v hv=>Cf.run_H (n:=n) (by rw [hx];exact hv)
 | ldA n kk l iv j k ih=>
  intro lf up ag kn x f R hlf hup hag hkn h
  simp only [Tr.chk] at h
  obtain ⟨dst,g,m,op,q,r,ks,st,hx,hg,h⟩:=Cf.op_good h
  split at h
  ·split at h
   ·rename_i hv
    obtain ⟨ho,hM,hb,hk,h⟩:=h
    exact (zZD hg hv ho hM hb (hkn _ (List.mem_of_getElem? hk)) (ih lf up ag _ _ f R hlf hup hag hkn h)).mono fun v hv=>Cf.run_H (n:=n) (by rw [hx];exact hv)
   ·exact h.elim
  ·exact h.elim
 | convS n l k ih=>
  intro lf up ag kn x f R hlf hup hag hkn h
  simp only [Tr.chk] at h
  obtain ⟨dst,g,m,op,q,r,ks,st,hx,hg,h⟩:=Cf.op_good h
  split at h
  ·split at h
   ·rename_i hv
    obtain ⟨rfl,h⟩:=h
    exact (zUz hg (.inl hv) (ih lf up ag _ _ f R hlf hup hag hkn h)).mono fun v hv=>Cf.run_H (n:=n) (by rw [hx];exact hv)
   ·rename_i hv
    obtain ⟨rfl,rfl,h⟩:=h
    exact (zUz hg (.inr ⟨_,_,hv⟩) (ih lf up ag _ _ f R hlf hup hag hkn h)).mono fun v hv=>Cf.run_H (n:=n) (by rw [hx];exact hv)
   ·exact h.elim
  ·exact h.elim
 | nilq n enc l m1 m2 hq a b iha ihb=>
  intro lf up ag kn x f R hlf hup hag hkn h
  simp only [Tr.chk] at h
  obtain ⟨dst,g,m,op,q,r,ks,st,hx,hg,h⟩:=Cf.op_good h
  split at h
  ·split at h
   ·rename_i e es hv
    obtain ⟨rfl,e1,e2,ha,hb⟩:=h
    have ga:=iha lf up _ kn _ (fun _=>none) R hlf hup zCL hkn ha
    have gb:=ihb lf up _ kn _ (fun _=>none) R hlf hup zCL hkn hb
    rw [e1] at ga;rw [e2] at gb
    exact (zZI hg hv hq ga gb).mono fun v hv=>Cf.run_H (n:=n) (by rw [hx];exact hv)
   ·exact h.elim
  ·exact h.elim
 | @call X τ γ n s hm nl k ih=>
  intro lf up ag kn x f R hlf hup hag hkn h
  simp only [Tr.chk] at h
  obtain ⟨dst,g,m,op,q,r,ks,st,hx,hg,h⟩:=Cf.op_good h
  obtain ⟨h1,h2⟩:=h
  exact (zNu hm nl hg h1 (fun v=>(h2 v).1) fun v=>ih v lf up ag _ _ f R hlf hup hag hkn (h2 v).2).mono fun v hv=>Cf.run_H (n:=n) (by rw [hx];exact hv)
 | @callS2 X τ α β n s hm nl k1 k2 ih1 ih2=>
  intro lf up ag kn x f R hlf hup hag hkn h
  simp only [Tr.chk] at h
  obtain ⟨dst,g,m,op,q,r,ks,st,hx,hg,h⟩:=Cf.op_good h
  obtain ⟨h1,h2,h3⟩:=h
  have hd:(Tr.callS2 n hm nl k1 k2).den f=(s.mc>>=fun e=>match e with | .inl v=>(k1 v).den f | .inr v=>(k2 v).den f):=by kernel_rfl
  rw [hd]
  exact (zNu (kk:=(fun e=>match e with | .inl v=>(k1 v).den f | .inr v=>(k2 v).den f)) (R:=R) hm nl hg h1 (fun e=>match e with | .inl v=>(h2 v).1 | .inr v=>(h3 v).1) fun e=>match e with | .inl v=>ih1 v lf up ag _ _ f R hlf hup hag hkn (h2 v).2 | .inr v=>ih2 v lf up ag _ _ f R hlf hup hag hkn (h3 v).2).mono fun v hv=>Cf.run_H (n:=n) (by rw [hx];exact hv)
 | @callS3 X τ α β γ n s hm nl k1 k2 k3 ih1 ih2 ih3=>
  intro lf up ag kn x f R hlf hup hag hkn h
  simp only [Tr.chk] at h
  obtain ⟨dst,g,m,op,q,r,ks,st,hx,hg,h⟩:=Cf.op_good h
  obtain ⟨h1,h2,h3,h4⟩:=h
  have hd:(Tr.callS3 n hm nl k1 k2 k3).den f=(s.mc>>=fun e=>match e with | .inl v=>(k1 v).den f | .inr (.inl v)=>(k2 v).den f | .inr (.inr v)=>(k3 v).den f):=by kernel_rfl
  rw [hd]
  exact (zNu (kk:=(fun e=>match e with | .inl v=>(k1 v).den f | .inr (.inl v)=>(k2 v).den f | .inr (.inr v)=>(k3 v).den f)) (R:=R) hm nl hg h1 (fun e=>match e with | .inl v=>(h2 v).1 | .inr (.inl v)=>(h3 v).1 | .inr (.inr v)=>(h4 v).1) fun e=>match e with | .inl v=>ih1 v lf up ag _ _ f R hlf hup hag hkn (h2 v).2 | .inr (.inl v)=>ih2 v lf up ag _ _ f R hlf hup hag hkn (h3 v).2 | .inr (.inr v)=>ih3 v lf up ag _ _ f R hlf hup hag hkn (h4 v).2).mono fun v hv=>Cf.run_H (n:=n) (by rw [hx];exact hv)
 | @callS4 X τ α β γ δ n s hm nl k1 k2 k3 k4 ih1 ih2 ih3 ih4=>
  intro lf up ag kn x f R hlf hup hag hkn h
  simp only [Tr.chk] at h
  obtain ⟨dst,g,m,op,q,r,ks,st,hx,hg,h⟩:=Cf.op_good h
  obtain ⟨h1,h2,h3,h4,h5⟩:=h
  have hd:(Tr.callS4 n hm nl k1 k2 k3 k4).den f=(s.mc>>=fun e=>match e with | .inl v=>(k1 v).den f | .inr (.inl v)=>(k2 v).den f | .inr (.inr (.inl v))=>(k3 v).den f | .inr (.inr (.inr v))=>(k4 v).den f):=by kernel_rfl
  rw [hd]
  exact (zNu (kk:=(fun e=>match e with | .inl v=>(k1 v).den f | .inr (.inl v)=>(k2 v).den f | .inr (.inr (.inl v))=>(k3 v).den f | .inr (.inr (.inr v))=>(k4 v).den f)) (R:=R) hm nl hg h1 (fun e=>match e with | .inl v=>(h2 v).1 | .inr (.inl v)=>(h3 v).1 | .inr (.inr (.inl v))=>(h4 v).1 | .inr (.inr (.inr v))=>(h5 v).1) fun e=>match e with | .inl v=>ih1 v lf up ag _ _ f R hlf hup hag hkn (h2 v).2 | .inr (.inl v)=>ih2 v lf up ag _ _ f R hlf hup hag hkn (h3 v).2 | .inr (.inr (.inl v))=>ih3 v lf up ag _ _ f R hlf hup hag hkn (h4 v).2 | .inr (.inr (.inr v))=>ih4 v lf up ag _ _ f R hlf hup hag hkn (h5 v).2).mono fun v hv=>Cf.run_H (n:=n) (by rw [hx];exact hv)
 | @callZ X τ γ n s hm k ih=>
  intro lf up ag kn x f R hlf hup hag hkn h
  simp only [Tr.chk] at h
  obtain ⟨dst,g,m,op,q,r,ks,st,hx,hg,h⟩:=Cf.op_good h
  split at h
  ·obtain ⟨rfl,h⟩:=h
   split at h
   ·rename_i ps hv
    obtain ⟨h1,h2⟩:=h
    exact (zY9 (PV.tagsL ps) hm hg (by rw [hv];exact h1) (by rw [hv];rfl) (fun v=>(h2 v).1) fun v=>ih v lf up ag _ _ f R hlf hup hag hkn (h2 v).2).mono fun v hv=>Cf.run_H (n:=n) (by rw [hx];exact hv)
   ·exact h.elim
  ·split at h
   ·rename_i gg a b as hv1 hv2
    obtain ⟨rfl,h1,h2⟩:=h
    exact (zX2 hm hg hv1 hv2 h1 (fun v=>(h2 v).1) fun v=>ih v lf up ag _ _ f R hlf hup hag hkn (h2 v).2).mono fun v hv=>Cf.run_H (n:=n) (by rw [hx];exact hv)
   ·exact h.elim
  ·exact h.elim
 | @callB X τ γ n ρ s hm nl nlB k ih=>
  intro lf up ag kn x f R hlf hup hag hkn h
  simp only [Tr.chk] at h
  obtain ⟨dst,g,m,op,q,r,ks,st,hx,hg,h⟩:=Cf.op_good h
  split at h
  ·exact h.elim
  ·rename_i A hA
   obtain ⟨h1,h2,h⟩:=h
   unfold zNs at hA
   split at hA
   ·rename_i f' args
    cases hb:f'==s.f with
    | false=>rw [hb] at hA;cases hA
    | true=>
     rw [hb] at hA
     have:f'=s.f:=by simpa using hb
     subst this
     cases hA
     exact (zYF ρ hm hg h1 h2 (fun v=>(h v).1) (fun v=>(h v).2.1) (fun v=>(h v).2.2.1) (fun v=>(h v).2.2.2.1) nl nlB fun v=>ih v lf up ag _ _ f R hlf hup hag hkn (h v).2.2.2.2).mono fun v hv=>Cf.run_H (n:=n) (by rw [hx];exact hv)
   ·split at hA
    ·rename_i f' a b hv
     cases hb:f'==s.f with
     | false=>rw [hb] at hA;cases hA
     | true=>
      rw [hb] at hA
      have:f'=s.f:=by simpa using hb
      subst this
      cases hA
      exact (zXq ρ hm hg hv h1 h2 (fun v=>(h v).1) (fun v=>(h v).2.1) (fun v=>(h v).2.2.1) (fun v=>(h v).2.2.2.1) nl nlB fun v=>ih v lf up ag _ _ f R hlf hup hag hkn (h v).2.2.2.2).mono fun v hv=>Cf.run_H (n:=n) (by rw [hx];exact hv)
    ·cases hA
   ·split at hA
    ·rename_i t px hv
     split at hA
     ·rename_i f' p0 hi
      cases hb:f'==s.f with
      | false=>rw [hb] at hA;cases hA
      | true=>
       rw [hb] at hA
       have:f'=s.f:=by simpa using hb
       subst this
       simp only [cond_true] at hA
       split at hA
       ·rename_i as0 h0
        cases hA
        exact (zXl ρ hm hg hv hi h0 h1 h2 (fun v=>(h v).1) (fun v=>(h v).2.1) (fun v=>(h v).2.2.1) (fun v=>(h v).2.2.2.1) nl nlB fun v=>ih v lf up ag _ _ f R hlf hup hag hkn (h v).2.2.2.2).mono fun v hv=>Cf.run_H (n:=n) (by rw [hx];exact hv)
       ·cases hA
     ·cases hA
    ·cases hA
   ·cases hA
 | @srt X τ γ α n vs s hm k ih=>
  intro lf up ag kn x f R hlf hup hag hkn h
  simp only [Tr.chk] at h
  obtain ⟨dst,g,m,op,q,r,ks,st,hx,hg,h⟩:=Cf.op_good h
  split at h
  ·obtain ⟨rfl,h⟩:=h
   split at h
   ·rename_i t z off es as hv
    obtain ⟨rfl,rfl,h1,h2,h3⟩:=h
    refine (zZT hm hg hv h1 h2 fun v hmc=> ?_).mono fun v hv=>Cf.run_H (n:=n) (by rw [hx];exact hv)
    obtain ⟨g1,g2⟩:=St.rw_same (es':=(s.l' v).map s.e.f) (zXV (hm v hmc).2.1) (h3 v)
    rw [g1] at g2
    rw [zYM]
    exact ih v lf up ag _ _ f R hlf hup hag hkn g2
   ·exact h.elim
  ·exact h.elim
 | @callG X τ γ n ρ Z s hm k ih=>
  intro lf up ag kn x f R hlf hup hag hkn h
  simp only [Tr.chk] at h
  obtain ⟨dst,g,m,op,q,r,ks,st,hx,hg,h⟩:=Cf.op_good h
  split at h
  ·exact h.elim
  ·rename_i A hA
   obtain ⟨h1,h2,h⟩:=h
   unfold zNs at hA
   split at hA
   ·rename_i f' args
    cases hb:f'==s.f with
    | false=>rw [hb] at hA;cases hA
    | true=>
     rw [hb] at hA
     have:f'=s.f:=by simpa using hb
     subst this
     cases hA
     exact (zY1 ρ Z hm hg h1 h2 (fun v=>(h v).1) (fun v=>(h v).2.1) (fun v=>(h v).2.2.1) (fun v=>(h v).2.2.2.1) fun v=>ih v lf up ag _ _ f R hlf hup hag hkn (h v).2.2.2.2).mono fun v hv=>Cf.run_H (n:=n) (by rw [hx];exact hv)
   ·split at hA
    ·rename_i f' a b hv
     cases hb:f'==s.f with
     | false=>rw [hb] at hA;cases hA
     | true=>
      rw [hb] at hA
      have:f'=s.f:=by simpa using hb
      subst this
      cases hA
      exact (zXT ρ Z hm hg hv h1 h2 (fun v=>(h v).1) (fun v=>(h v).2.1) (fun v=>(h v).2.2.1) (fun v=>(h v).2.2.2.1) fun v=>ih v lf up ag _ _ f R hlf hup hag hkn (h v).2.2.2.2).mono fun v hv=>Cf.run_H (n:=n) (by rw [hx];exact hv)
    ·cases hA
   ·split at hA
    ·rename_i t px hv
     split at hA
     ·rename_i f' p0 hi
      cases hb:f'==s.f with
      | false=>rw [hb] at hA;cases hA
      | true=>
       rw [hb] at hA
       have:f'=s.f:=by simpa using hb
       subst this
       simp only [cond_true] at hA
       split at hA
       ·rename_i as0 h0
        cases hA
        exact (zXW ρ Z hm hg hv hi h0 h1 h2 (fun v=>(h v).1) (fun v=>(h v).2.1) (fun v=>(h v).2.2.1) (fun v=>(h v).2.2.2.1) fun v=>ih v lf up ag _ _ f R hlf hup hag hkn (h v).2.2.2.2).mono fun v hv=>Cf.run_H (n:=n) (by rw [hx];exact hv)
       ·cases hA
     ·cases hA
    ·cases hA
   ·cases hA
 | look n k ih=>
  intro lf up ag kn x f R hlf hup hag hkn h
  simp only [Tr.chk] at h
  obtain ⟨dst,g,m,op,q,r,ks,st,hx,hg,h⟩:=Cf.op_good h
  split at h
  ·split at h
   ·rename_i hy hi
    obtain ⟨hM,rfl,h⟩:=h
    split at h
    ·rename_i cs hc
     exact (zZy hg hy hM hi hc (ih lf up ag kn _ f R hlf hup hag hkn h)).mono fun v hv=>Cf.run_H (n:=n) (by rw [hx];exact hv)
    ·exact h.elim
   ·exact h.elim
  ·exact h.elim
 | lk iv c a b iha ihb=>
  intro lf up ag kn x f R hlf hup hag hkn h
  simp only [Tr.chk] at h
  split at h
  ·obtain ⟨rfl,rfl,rfl,ha,hb⟩:=h
   have ga:=iha lf up ag kn _ f R hlf hup hag hkn ha
   have gb:=ihb lf up ag kn _ f R hlf hup hag hkn hb
   exact L_lk (fun _=>ga) (fun _=>gb)
  ·exact h.elim
 | lk0 k ih=>
  intro lf up ag kn x f R hlf hup hag hkn h
  simp only [Tr.chk] at h
  split at h
  ·have g:=ih lf up ag kn _ f R hlf hup hag hkn h
   intro r hr
   have:=g r hr
   simp only [Cf.H,zFY]
   exact this
  ·exact h.elim
 | join n j S i k ihi ihk=>
  intro lf up ag kn x f R hlf hup hag hkn h
  simp only [Tr.chk] at h
  split at h
  ·rename_i fr ks st hx
   split at h
   ·obtain ⟨hc,hi,hk⟩:=h
    have gi:=ihi _ _ _ kn _ (fun _=>none) (zGw .norm (S.st st)) zU8 (fun u e=>by cases e) zCL hkn hi
    exact (zWs [fr] ks (S.st st) gi (fun v=>ihk v lf up ag kn _ f R hlf hup hag hkn (hk v)) (zJK hc)).mono fun v hv=>Cf.run_H (n:=n) (by rw [hx];exact hv)
   ·rename_i j os
    obtain ⟨hc,hi,hk⟩:=h
    have gi:=ihi _ _ _ kn _ (fun _=>none) (zGw .norm (S.st st)) zU8 (fun u e=>by cases e) zCL hkn hi
    exact (zW3 (j+1) _ _ (zWs [.o false (os.take (j+1))] (.o false (os.drop (j+1))::ks) (S.st st) gi (fun v=>ihk v lf up ag kn _ f R hlf hup hag hkn (hk v)) (by
     intro k
     have:=zJK hc k
     cases k with
     | norm=>rfl
     | ret=>exact this
     | exit i=>exact this)) rfl rfl).mono fun v hv=>Cf.run_H (n:=n) (by rw [hx];exact hv)
   ·exact h.elim
  ·exact h.elim
 | joinR n j S u i k ihi ihk=>
  intro lf up ag kn x f R hlf hup hag hkn h
  simp only [Tr.chk] at h
  obtain ⟨hu,h⟩:=h
  have hr:∀{ks:List Fr} (r:F.ρ),Ok (some (u r)) fun b=>∀s,Fnl F.res (F.en r) (F.bx r) .ret s→go F.P F.N (R b) ks .ret s:=by
   intro ks r b hb s hs
   cases hb
   exact go_ret (hup u hu r s hs)
  have hul:∀{γ:Type} {S':γ→St} (v:F.ρ→Sum F.ρ γ),some (Sum.inl:F.ρ→Sum F.ρ γ)=some v→∀r s,Fnl F.res (F.en r) (F.bx r) .ret s→zHZ (fun r=>Fnl F.res (F.en r) (F.bx r)) .norm S' (v r) .ret s:=by
   intro γ S' v e r s hs
   cases e
   exact ⟨rfl,hs⟩
  split at h
  ·rename_i fr ks st hx
   split at h
   ·obtain ⟨hc,hi,hk⟩:=h
    have gi:=ihi _ _ _ kn _ (fun _=>none) (zHZ (fun r=>Fnl F.res (F.en r) (F.bx r)) .norm (S.st st)) (fun v k s hg=>zX8 (S':=S.st st) v k s hg) hul zCL hkn hi
    refine Ok.mono (Φ:=fun v=>go F.P F.N (R v) (fr::ks) .norm st) ?_ fun v hv=>Cf.run_H (n:=n) (by rw [hx];exact hv)
    simp only [Tr.den]
    exact zUJ [fr] ks (S.st st) gi hr (fun v=>ihk v lf up ag kn _ f R hlf hup hag hkn (hk v)) (zJK hc)
   ·rename_i j os
    obtain ⟨hc,hi,hk⟩:=h
    have gi:=ihi _ _ _ kn _ (fun _=>none) (zHZ (fun r=>Fnl F.res (F.en r) (F.bx r)) .norm (S.st st)) (fun v k s hg=>zX8 (S':=S.st st) v k s hg) hul zCL hkn hi
    refine Ok.mono (Φ:=fun v=>go F.P F.N (R v) (.o false os::ks) .norm st) ?_ fun v hv=>Cf.run_H (n:=n) (by rw [hx];exact hv)
    simp only [Tr.den]
    refine zW3 (j+1) _ _ ?_ rfl rfl
    refine zUJ [.o false (os.take (j+1))] (.o false (os.drop (j+1))::ks) (S.st st) gi hr (fun v=>ihk v lf up ag kn _ f R hlf hup hag hkn (hk v)) ?_
    intro k
    have:=zJK hc k
    cases k with
    | norm=>rfl
    | ret=>exact this
    | exit i=>exact this
   ·exact h.elim
  ·exact h.elim
 | loop n L k ih=>
  intro lf up ag kn x f R hlf hup hag hkn h
  simp only [Tr.chk] at h
  split at h
  ·rename_i c ks st hx
   obtain ⟨rfl,hc,hfit,hk⟩:=h
   exact (zYB (fs:=[.l L.c]) L.ok (fun v=>ih v lf up ag kn _ f R hlf hup hag hkn (hk v)) hfit rfl (zJK hc)).mono fun v hv=>Cf.run_H (n:=n) (by rw [hx];exact hv)
  ·exact h.elim
 | loopR n u L k ih=>
  intro lf up ag kn x f R hlf hup hag hkn h
  simp only [Tr.chk] at h
  obtain ⟨hu,h⟩:=h
  split at h
  ·rename_i c ks st hx
   obtain ⟨rfl,hc,hfit,hk⟩:=h
   refine Ok.mono (Φ:=fun v=>go F.P F.N (R v) (.l L.c::ks) .norm st) ?_ fun v hv=>Cf.run_H (n:=n) (by rw [hx];exact hv)
   simp only [Tr.den]
   refine zXF (fs:=[.l L.c]) L.ok ?_ (fun v=>ih v lf up ag kn _ f R hlf hup hag hkn (hk v)) hfit rfl (zJK hc)
   intro r b hb s hs
   cases hb
   exact go_ret (hup u hu r s hs)
  ·exact h.elim
 | rng n e l m hc S x0 i k ihi ihk=>
  intro lf up ag kn x f R hlf hup hag hkn h
  simp only [Tr.chk] at h
  split at h
  ·rename_i g p d its ks st hx
   split at h
   ·rename_i gs hgs
    obtain ⟨hv,hfit,hb,hk⟩:=h
    exact (zZX (S.st st) x0 _ hc hv e.ok (fun y=>(hb y).1) (fun y c=>ihi y c _ _ _ kn _ (fun _=>none) (zGw .norm (S.st st)) zU8 (fun u e=>by cases e) zCL hkn ((hb y).2 c))
     (fun v=>ihk v lf up ag kn _ f R hlf hup hag hkn (hk v)) hgs hfit).mono fun v hv=>Cf.run_H (n:=n) (by rw [hx];exact hv)
   ·exact h.elim
  ·exact h.elim
 | hold n hs k ih=>
  intro lf up ag kn x f R hlf hup hag hkn h
  simp only [Tr.chk] at h
  split at h
  ·rename_i S ks st hx
   obtain ⟨h1,h2⟩:=zKI hkn h
   exact (zZe h1 (ih lf up ag kn _ f R hlf hup hag hkn h2)).mono fun v hv=>Cf.run_H (n:=n) (by rw [hx];exact hv)
  ·exact h.elim
 | box n t ds k ih=>
  intro lf up ag kn x f R hlf hup hag hkn h
  simp only [Tr.chk] at h
  split at h
  ·rename_i ks kd st hx
   obtain ⟨h1,h2,h3,h4⟩:=h
   exact (zZO t ds _ (ih lf up ag kn _ f R hlf hup hag hkn h4) h3 h2 rfl h1).mono fun v hv=>Cf.run_H (n:=n) (by rw [hx];exact hv)
  ·exact h.elim
 | drawsM n m1 m2 hm a b iha ihb=>
  intro lf up ag kn x f R hlf hup hag hkn h
  simp only [Tr.chk] at h
  simp only [Tr.den]
  split at h
  ·rename_i l ks st hx
   split at h
   ·rename_i f1 f2 hf
    obtain ⟨e1,e2,ha,hb⟩:=h
    have ga:=iha lf up _ kn _ (fun _=>none) R hlf hup zCL hkn ha
    have gb:=ihb lf up _ kn _ (fun _=>none) R hlf hup zCL hkn hb
    rw [e2,hm] at gb
    rw [e1] at ga
    exact (zRR f1 f2 ga gb hf).mono fun v hv=>Cf.run_H (n:=n) (by rw [hx];exact hv)
   ·exact h.elim
  ·exact h.elim
 | drawsL n k ih=>
  intro lf up ag kn x f R hlf hup hag hkn h
  simp only [Tr.chk] at h
  split at h
  ·rename_i l ks st hx
   split at h
   ·rename_i fs hf
    have g:=ih lf up _ kn _ (fun _=>none) R hlf hup zCL hkn h
    intro r hr
    refine Cf.run_H (n:=n) ?_
    rw [hx]
    exact zKJ hf (g r hr)
   ·exact h.elim
  ·exact h.elim
 | alt m1 m2 hm a b iha ihb=>
  intro lf up ag kn x f R hlf hup hag hkn h
  simp only [Tr.chk] at h
  split at h
  ·rename_i f0 fs st
   obtain ⟨e1,e2,ha,hb⟩:=h
   have ga:=iha lf up _ kn _ (fun _=>none) R hlf hup zCL hkn ha
   have gb:=ihb lf up _ kn _ (fun _=>none) R hlf hup zCL hkn hb
   rw [e1,hm] at ga
   rw [e2] at gb
   intro r hr
   simp only [Tr.den] at hr
   intro g hg
   rcases List.mem_cons.1 hg with rfl | hg
   ·exact ga r hr
   ·exact gb r hr g hg
  ·exact h.elim
 | altE m1=>
  intro lf up ag kn x f R hlf hup hag hkn h
  simp only [Tr.chk] at h
  split at h
  ·intro r hr g hg
   simp at hg
  ·exact h.elim
 | draws n a b iha ihb=>
  intro lf up ag kn x f R hlf hup hag hkn h
  simp only [Tr.chk] at h
  split at h
  ·rename_i l ks st hx
   split at h
   ·rename_i f1 f2 hf
    obtain ⟨e1,ha,hb⟩:=h
    have ga:=iha lf up _ kn _ (fun _=>none) R hlf hup zCL hkn ha
    have gb:=ihb lf up _ kn _ (fun _=>none) R hlf hup zCL hkn hb
    rw [e1] at gb
    exact (zRR f1 f2 ga gb hf).mono fun v hv=>Cf.run_H (n:=n) (by rw [hx];exact hv)
   ·exact h.elim
  ·exact h.elim
 | draws3 n a b c iha ihb ihc=>
  intro lf up ag kn x f R hlf hup hag hkn h
  simp only [Tr.chk] at h
  split at h
  ·rename_i l ks st hx
   split at h
   ·rename_i f1 f2 f3 hf
    obtain ⟨e1,e2,ha,hb,hc⟩:=h
    have ga:=iha lf up _ kn _ (fun _=>none) R hlf hup zCL hkn ha
    have gb:=ihb lf up _ kn _ (fun _=>none) R hlf hup zCL hkn hb
    have gc:=ihc lf up _ kn _ (fun _=>none) R hlf hup zCL hkn hc
    rw [e1] at gb;rw [e2] at gc
    exact (zXz f1 f2 f3 ga gb gc hf).mono fun v hv=>Cf.run_H (n:=n) (by rw [hx];exact hv)
   ·exact h.elim
  ·exact h.elim
def fnC (f:Nat) (ps:List PV) (bx:List (Tg×List PV)) (t:Tr F Empty F.ρ):CT:=match fnA F.P f with
 | some x=> .eq x.1 F.N (.eq x.2.1 F.res (.eq (Nat.ble ps.length x.1) true (t.chk (fun v k s=> .eq (match k with | .exit _=>false | _=>true) true (finC v s .tt)) (some id) (fun _ _ _ _=> .no) [] (.go [.c x.2.2] .norm (zJ8 ps bx)))))
 | none=> .no
theorem zQY {f:Nat} {ps:List PV} {bx:List (Tg×List PV)} {t:Tr F Empty F.ρ} (h:fnC f ps bx t=(fnC f ps bx t).ok):∀v,(t.den fun _=>none)=some v→EvG F.P f ps bx (F.en v) (F.bx v):=by
 have h:=CT.sound h
 unfold fnC at h
 split at h
 ·rename_i x hx
  obtain ⟨N,res,ac⟩:=x
  obtain ⟨h1,h2,h3,h4⟩:=h
  simp only at h1 h2 h3 h4
  intro v hv
  refine zZb (N:=F.N) (res:=F.res) (ac:=ac) (by rw [hx,h1,h2]) (by rw [←h1];exact Nat.le_of_ble_eq_true h3) ?_
  refine Tr.chk_sound t _ _ _ [] _ (fun _=>none) (fun r=>Fnl F.res (F.en r) (F.bx r)) ?_ (fun u e r s hs=>by cases e;exact hs) zCL (by simp) h4 v hv
  intro v k st ⟨g1,g2,_⟩
  exact ⟨st,Sub.refl st,zOf g2 g1⟩
 ·exact h.elim
theorem Tr.fn {s:Sg F.P F.ρ} (t:Tr F Empty F.ρ) (hm:s.mc=t.den fun _=>none:=by kernel_rfl) (he:s.en=F.en:=by kernel_rfl) (hb:F.bx=fun _=>[]:=by kernel_rfl) (h:fnC s.f (s.ds.map .d) [] t=(fnC s.f (s.ds.map .d) [] t).ok:=by kernel_rfl):s.Holds:=by
 intro v hv
 have:=zQY h v (by rw [←hm];exact hv)
 rw [hb] at this
 rw [he]
 exact zVP this
theorem Tr.fnG {s:SgG F.P F.ρ} (t:Tr F Empty F.ρ) (hm:s.mc=t.den fun _=>none:=by kernel_rfl) (he:s.en=F.en:=by kernel_rfl) (hb:s.bx'=F.bx:=by kernel_rfl) (h:fnC s.f s.ps s.bx t=(fnC s.f s.ps s.bx t).ok:=by kernel_rfl):s.Holds:=by
 intro v hv
 have:=zQY h v (by rw [←hm];exact hv)
 rw [he,hb]
 exact this
def lpC {X τ:Type} (lf:τ→Kd→St→CT) (up:Option (F.ρ→τ)) (c:AC) (S:X→St) (st:St) (t:Tr F X τ):CT:=
 t.chk lf up (fun y ks k s=> .eq ks [.l c] (.eq k .norm (fitC s (S y) .tt))) [] (.go [.l c] .norm st)
theorem Tr.lpN {X γ:Type} {c:AC} {k1:Kd} {S:X→St} {S':γ→St} {st:St} {m:Option γ} (t:Tr F X γ) (f:X→Option γ) (IH:∀y r,f y=some r→go F.P F.N (zGw k1 S' r) [.l c] .norm (S y))
  (hm:m=t.den f:=by kernel_rfl) (h:lpC (fun v kd s=> .eq kd k1 (fitC s (S' v) .tt)) none c S st t=(lpC (fun v kd s=> .eq kd k1 (fitC s (S' v) .tt)) none c S st t).ok:=by kernel_rfl):
  ∀r,m=some r→go F.P F.N (zGw k1 S' r) [.l c] .norm st:=by
 subst hm
 refine Tr.chk_sound t _ _ _ [] _ f (zGw k1 S') ?_ (fun u e=>by cases e) ?_ (by simp) (CT.sound h)
 ·intro v k s ⟨h1,h2,_⟩
  exact ⟨s,Sub.refl s,h1,zE7 h2⟩
 ·intro y ks k s ⟨h1,h2,h3,_⟩ r hr
  subst h1;subst h2
  exact go_sub rfl (IH y r hr) (zE7 h3)
theorem Tr.lpR {X γ:Type} {c:AC} {k1:Kd} {S:X→St} {S':γ→St} {st:St} {m:Option (Sum F.ρ γ)} (t:Tr F X (Sum F.ρ γ)) (f:X→Option (Sum F.ρ γ)) (IH:∀y r,f y=some r→go F.P F.N (zHZ (fun r=>Fnl F.res (F.en r) (F.bx r)) k1 S' r) [.l c] .norm (S y))
  (hm:m=t.den f:=by kernel_rfl) (h:lpC (fun e kd s=>match e with
   | .inl r=> .eq kd .ret (finC r s .tt)
   | .inr v=> .eq kd k1 (fitC s (S' v) .tt)) (some .inl) c S st t=(lpC (fun e kd s=>match e with
   | .inl r=> .eq kd .ret (finC r s .tt)
   | .inr v=> .eq kd k1 (fitC s (S' v) .tt)) (some .inl) c S st t).ok:=by kernel_rfl):
  ∀r,m=some r→go F.P F.N (zHZ (fun r=>Fnl F.res (F.en r) (F.bx r)) k1 S' r) [.l c] .norm st:=by
 subst hm
 refine Tr.chk_sound t _ _ _ [] _ f (zHZ (fun r=>Fnl F.res (F.en r) (F.bx r)) k1 S') ?_ (fun u e r s hs=>by cases e;exact ⟨rfl,hs⟩) ?_ (by simp) (CT.sound h)
 ·intro v k s h
  cases v with
  | inl r=>
   obtain ⟨h1,h2,_⟩:=h
   subst h1
   exact ⟨s,Sub.refl s,rfl,zOf h2 rfl⟩
  | inr v=>
   obtain ⟨h1,h2,_⟩:=h
   exact ⟨s,Sub.refl s,h1,zE7 h2⟩
 ·intro y ks k s ⟨h1,h2,h3,_⟩ r hr
  subst h1;subst h2
  exact go_sub rfl (IH y r hr) (zE7 h3)
def AC.loops:AC→List AC
 | .seq a b=>a.loops++b.loops
 | .cond _ a b=>a.loops++b.loops
 | .block _ a=>a.loops
 | .loop a=>a::a.loops
 | _=>[]
def lpA (P:Program) (f i:Nat):AC:=match fnA P f with
 | some x=>x.2.2.loops.getD i .skip
 | none=> .skip
abbrev LN (F:Fe) {γ:Type} (k1:Kd) (S':γ→St) (n i:Nat) (st:St) (v:γ):Prop:=go F.P F.N (zGw k1 S' v) [.l (lpA F.P n i)] .norm st
abbrev LR (F:Fe) {γ:Type} (k1:Kd) (S':γ→St) (n i:Nat) (st:St) (v:Sum F.ρ γ):Prop:=go F.P F.N (zHZ (fun r=>Fnl F.res (F.en r) (F.bx r)) k1 S' v) [.l (lpA F.P n i)] .norm st
end
end Go.Proofs.YtnmlihfpenjeiaaGreat.Abs
