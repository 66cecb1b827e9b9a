/- Calls in an abstract state; steps; regions in the text's order. Conditions: none. -/
import Derived.Test.YtaghpancpfpnhaaAbsRb
namespace Go.Proofs.Ytaghpancpfpnhaa.Abs
open Go Go.RowKit
set_option linter.unusedVariables false
set_option linter.unusedSimpArgs false

section
variable {P : Program} {E : Env} {w : World} {st : St} {tmps : Array Value}

mutual
theorem toDB_sound {bx : Tg → Option (List PV)} {pr : Nat → Prop} (hp : ∀ b, E.prot b ∨ Own E b → pr b) (hB : BxR E w bx) : ∀ (p : PV) (v : Value) (x : D), p.toDB bx = some x → VR E w p v → DR pr w x v
  | .unk, v, x, h, hv => by simp [PV.toDB] at h
  | .d y, v, x, h, hv => by
    simp only [PV.toDB, Option.some.injEq] at h; subst h
    simp only [VR] at hv
    exact DR.mono (fun b h => hp b (.inl h)) (fun _ _ => rfl) _ _ hv
  | .nils, v, x, h, hv => by
    simp only [PV.toDB, Option.some.injEq] at h; subst h
    simp only [VR] at hv; subst hv
    simp only [DR]; exact .inl ⟨trivial, _, _, rfl⟩
  | .sl t sz off es, v, x, h, hv => by
    simp only [PV.toDB, Option.some.injEq] at h; subst h
    simp only [VR, DR] at hv ⊢
    rcases hv with ⟨h, a, h'⟩ | ⟨b, o, cap, c, el, fr, vs, h1, h2, h3, h4, hf, h5, h6, h7, h8⟩
    · exact .inl ⟨h, a, 0, h'⟩
    · exact .inr ⟨b, _, cap, sz, vs, h2, h3, hp b (.inr (.inl ⟨t, o, h1⟩)), h6, h7, DRs.mono (fun b h => hp b (.inl h)) (fun _ _ => rfl) _ _ h8⟩
  | .ptr k o, v, x, h, hv => by
    simp only [PV.toDB] at h
    split at h
    · rename_i cs h1
      simp only [Option.map_eq_some_iff] at h
      obtain ⟨xs, h2, rfl⟩ := h
      simp only [VR] at hv
      obtain ⟨b, h3, rfl⟩ := hv
      obtain ⟨b', c, el, fr, k1, k2, k3, k4, k5⟩ := hB _ _ h1
      rw [h3] at k1; cases k1
      simp only [DR]
      refine ⟨b, 0, c.toList, by simp, hp b (.inr (.inr ⟨k, h3⟩)), k4, ?_, toDL_sound (fun b h => hp b (.inl h)) _ _ _ h2 (fun t _ b o hr => hp b (.inr (.inl ⟨t, o, hr⟩))) k5⟩
      intro i y hy
      simp only [World.cell?, k2, Nat.zero_add]
      simpa using hy
    · cases h
  | .ep _ _ _ _ _, v, x, h, hv => by simp [PV.toDB] at h
  | .agg cs, v, x, h, hv => by
    simp only [PV.toDB, Option.map_eq_some_iff] at h
    obtain ⟨ys, h1, rfl⟩ := h
    simp only [VR, DR] at hv ⊢
    obtain ⟨arr, h2, h0, h3⟩ := hv
    exact ⟨arr, h2, h0, toDBL_sound hp hB cs _ ys h1 h3⟩
  | .clo fn a b, v, x, h, hv => by
    simp only [PV.toDB] at h
    split at h
    · rename_i a' b' h1 h2
      simp only [Option.some.injEq] at h; subst h
      simp only [VR, DR] at hv ⊢
      obtain ⟨fa, fb, h3, h4, h5⟩ := hv
      exact ⟨fa, fb, h3, toDBL_sound hp hB a _ a' h1 h4, toDBL_sound hp hB b _ b' h2 h5⟩
    · cases h
  | .ifc t y, v, x, h, hv => by
    simp only [PV.toDB, Option.map_eq_some_iff] at h
    obtain ⟨z, h1, rfl⟩ := h
    simp only [VR, DR] at hv ⊢
    obtain ⟨u, h2, h3⟩ := hv
    exact ⟨u, h2, toDB_sound hp hB y u z h1 h3⟩
  | .tup xs, v, x, h, hv => by simp [PV.toDB] at h
theorem toDBL_sound {bx : Tg → Option (List PV)} {pr : Nat → Prop} (hp : ∀ b, E.prot b ∨ Own E b → pr b) (hB : BxR E w bx) : ∀ (ps : List PV) (vs : List Value) (xs : List D), PV.toDBL bx ps = some xs → VRs E w ps vs → DRs pr w xs vs
  | [], vs, xs, h, hv => by
    simp only [PV.toDBL, Option.some.injEq] at h; subst h
    simpa only [VRs, DRs] using hv
  | p :: ps, vs, xs, h, hv => by
    simp only [PV.toDBL] at h
    split at h
    · rename_i y ys h1 h2
      simp only [Option.some.injEq] at h; subst h
      simp only [VRs, DRs] at hv ⊢
      obtain ⟨u, us, h3, h4, h5⟩ := hv
      exact ⟨u, us, h3, toDB_sound hp hB p u y h1 h4, toDBL_sound hp hB ps us ys h2 h5⟩
    · cases h
end

theorem StR.bxR (hs : StR E w st tmps) : BxR E w st.box := fun k cs h => hs.bx k cs (getB_mem h)

/-- A call of a function with a contract: the rows that are handed over stay as they were (and, where the result may lead to them, are never written again). -/
def callWith (P : Program) (n f : Nat) (ps : List PV) (st : St) (K : PV → St → Prop) : Prop :=
  ∃ ds r, EvF P f ds r ∧ r.rok = true ∧
    ((PV.toDBL st.box ps = some ds ∧ r.noLst ∧ K (r.mapT (retag n)) (st.rebinds n r.tags)) ∨
     (PV.toDL ps = some ds ∧ K (r.mapT (retag n)) ((st.frz (PV.tagsL ps)).rebinds n r.tags)))

theorem callWith_sound (hv : Valid E w) (hs : StR E w st tmps) {n f : Nat} {ps : List PV} {vs : Array Value} (hp : VRs E w ps vs.toList) {K : PV → St → Prop} (h : callWith P n f ps st K) :
    Enters P f ∧ Calls P f vs w fun e w' => ∃ v E' p st', e = .returned v ∧ Valid E' w' ∧ VR E' w' p v ∧ StR E' w' st' tmps ∧ Step E w E' w' ∧ K p st' := by
  obtain ⟨ds, r, ⟨hent, hev⟩, hrok, h⟩ := h
  refine ⟨hent, ?_⟩
  rcases h with ⟨h1, h2, h3⟩ | ⟨h1, h3⟩
  · refine (hev (fun b => E.prot b ∨ Own E b) w vs (fun b h => h.elim (hv.prot_lt b) (fun h => (hv.own_lt h).1)) (toDBL_sound (fun _ h => h) hs.bxR ps _ ds h1 hp)).mono ?_
    rintro e w' ⟨v, E1, rfl, g1, g2, g3, g4, g5, g6⟩
    obtain ⟨k1, k2, k3, k4, k5, k6, k7⟩ := rebinds_ok hv hs n r.tags
    obtain ⟨j1, j2, j3, j4⟩ := join_ok (n := n) (ts := r.tags) (pr := (E.unbinds n r.tags).prot) k1 k2 (fun j hj => (k4 j hj).1) g1 g3 g4 (fun _ h => h) (fun _ h => .inl h)
    refine ⟨v, _, _, _, rfl, j1, ?_, j2, k3.trans j3, h3⟩
    have g7 : VR ⟨E1.row, E1.box, (E.unbinds n r.tags).prot⟩ w' r v := VR.free (E := E1) (E' := ⟨E1.row, E1.box, (E.unbinds n r.tags).prot⟩) rfl rfl r v h2 g2
    exact retag_R (E1 := ⟨E1.row, E1.box, (E.unbinds n r.tags).prot⟩) (E2 := (E.unbinds n r.tags).join E1 n r.tags (E.unbinds n r.tags).prot) (ts := r.tags) (fun _ h => h) (fun j x hj hx => by rw [j4 j hj]; exact hx) r v (fun _ h => h) hrok g7
  · have hvf := hv.frz (PV.tagsL ps)
    have hsf := hs.frz hv (PV.tagsL ps)
    refine (hev (E.frz (PV.tagsL ps)).prot w vs (fun b h => hvf.prot_lt b h) (toDL_sound (pr := (E.frz (PV.tagsL ps)).prot) (fun _ h => .inl h) ps _ ds h1 (fun t h b o hr => .inr ⟨t, h, o, hr⟩) hp)).mono ?_
    rintro e w' ⟨v, E1, rfl, g1, g2, g3, g4, g5, g6⟩
    obtain ⟨k1, k2, k3, k4, k5, k6, k7⟩ := rebinds_ok hvf hsf n r.tags
    obtain ⟨j1, j2, j3, j4⟩ := join_ok (n := n) (ts := r.tags) (pr := fun b => (E.frz (PV.tagsL ps)).prot b ∨ (w.heap.size ≤ b ∧ E1.prot b)) k1 k2 (fun j hj => (k4 j hj).1) g1 g3 g4 (fun b h => .inl (by rw [k5] at h; exact h))
      (fun b h => h.elim (fun h => .inl (by rw [k5]; exact h)) .inr)
    refine ⟨v, _, _, _, rfl, j1, ?_, j2, (Step.frz hv _).trans (k3.trans j3), h3⟩
    exact retag_R (E1 := E1) (E2 := ((E.frz (PV.tagsL ps)).unbinds n r.tags).join E1 n r.tags (fun b => (E.frz (PV.tagsL ps)).prot b ∨ (w.heap.size ≤ b ∧ E1.prot b))) (ts := r.tags) (fun b h => (g6 b h).elim Or.inl (fun h' => Or.inr ⟨h', h⟩)) (fun j x hj hx => by rw [j4 j hj]; exact hx) r v (fun _ h => h) hrok g2

theorem VR.wide {pr : Nat → Prop} (h : ∀ b, E.prot b → pr b) {p : PV} {v : Value} (hv : VR E w p v) : VR ⟨E.row, E.box, pr⟩ w p v :=
  VR.keep (E := E) (E' := ⟨E.row, E.box, pr⟩) (w := w) (w' := w) p v ⟨h, fun _ _ => rfl, fun t _ r hr => ⟨hr, rfl⟩, fun t _ b hb => hb⟩ hv
theorem VRs.wide {pr : Nat → Prop} (h : ∀ b, E.prot b → pr b) {ps : List PV} {vs : List Value} (hv : VRs E w ps vs) : VRs ⟨E.row, E.box, pr⟩ w ps vs :=
  VRs.keep (E := E) (E' := ⟨E.row, E.box, pr⟩) (w := w) (w' := w) ps vs ⟨h, fun _ _ => rfl, fun t _ r hr => ⟨hr, rfl⟩, fun t _ b hb => hb⟩ hv

/-- A value that is handed in: as data that stay, or by its names. -/
def argB (gs : List Tg) (ρ β : Nm) (a q : PV) : Prop :=
  match q with
  | .d y => a.toD = some y ∧ ∀ t ∈ a.tags, t ∉ gs
  | q => PV.le ρ β a q
def argsB (gs : List Tg) (ρ β : Nm) : List PV → List PV → Prop
  | [], [] => True
  | a :: as, q :: qs => argB gs ρ β a q ∧ argsB gs ρ β as qs
  | _, _ => False

def noLstB : List (Tg × List PV) → Prop
  | [] => True
  | (_, cs) :: r => PV.noLstL cs ∧ noLstB r
theorem noLstB_mem {k : Tg} {cs : List PV} : ∀ {l : List (Tg × List PV)}, noLstB l → (k, cs) ∈ l → PV.noLstL cs
  | [], _, h => by simp at h
  | (e, x) :: r, hg, h => by
    simp only [noLstB] at hg
    rcases List.mem_cons.1 h with h | h
    · cases h; exact hg.1
    · exact noLstB_mem hg.2 h

def upIn (ρ : List (Tg × Tg)) (bx : List (Tg × List PV)) : Bool := ρ.all fun x => !x.1.isUp || bx.any fun y => decide (y.1 = x.1)

/-- A call of a function by its wide contract: names are handed in by ρ; the rows of F stay from now on. -/
def callGive (P : Program) (n f : Nat) (args : List Opd) (st : St) (K : PV → St → Prop) : Prop :=
  ∃ (ps : List PV) (bx : List (Tg × List PV)) (r : PV) (bx' : List (Tg × List PV)) (ρ : List (Tg × Tg)) (F : List Tg) (as : List PV), EvG P f ps bx r bx' ∧ (ρ.map Prod.snd).Nodup ∧ upIn ρ bx = true ∧ r.gok ρ = true ∧ gokB ρ bx' = true ∧
    valsO ((st.frz F).rebinds n (r.tags ++ tagsB bx')).val args = some as ∧ leBx (gvR ρ) (gvB ρ) ((st.frz F).rebinds n (r.tags ++ tagsB bx')) bx ∧
    (PV.leL (gvR ρ) (gvB ρ) as ps ∨ (argsB (ρ.map Prod.snd) (gvR ρ) (gvB ρ) as ps ∧ r.noLst ∧ noLstB bx')) ∧
    K (r.mapT (sgF ρ n)) (((st.frz F).rebinds n (r.tags ++ tagsB bx')).give ρ n bx')

theorem argsB_sound {gs : List Tg} {ρ β : Nm} {pr : Nat → Prop} (hp : ∀ b, E.prot b → pr b) (hg : ∀ t b o, t ∉ gs → E.row t = some (b, o) → pr b) : ∀ (as ps : List PV) (vs : List Value), argsB gs ρ β as ps → VRs E w as vs → VRs ⟨(E.re ρ β).row, (E.re ρ β).box, pr⟩ w ps vs
  | [], [], vs, h, hv => by simpa only [VRs] using hv
  | a :: as, q :: qs, vs, h, hv => by
    simp only [argsB] at h
    simp only [VRs] at hv ⊢
    obtain ⟨u, us, h1, h2, h3⟩ := hv
    refine ⟨u, us, h1, ?_, argsB_sound hp hg as qs us h.2 h3⟩
    have hq := h.1
    unfold argB at hq
    split at hq
    · simp only [VR]
      exact toD_sound (E := E) hp a u _ hq.1 (fun t ht b o hr => hg t b o (hq.2 t ht) hr) h2
    · exact VR.wide (E := E.re ρ β) hp (VR.le q a u hq h2)
  | [], _ :: _, vs, h, hv => by simp only [argsB] at h
  | _ :: _, [], vs, h, hv => by simp only [argsB] at h

theorem callGive_sound (hv : Valid E w) (hs : StR E w st tmps) {n f : Nat} {args : List Opd} {vs : Array Value} (hargs : ∀ E st as, StR E w st tmps → valsO st.val args = some as → VRs E w as vs.toList) {K : PV → St → Prop} (h : callGive P n f args st K) :
    Enters P f ∧ Calls P f vs w fun e w' => ∃ v E' p st', e = .returned v ∧ Valid E' w' ∧ VR E' w' p v ∧ StR E' w' st' tmps ∧ Step E w E' w' ∧ K p st' := by
  obtain ⟨ps, bx, r, bx', ρ, F, as, ⟨hent, hev⟩, hnd, hup, hgr, hgb, has, hbx, hmode, hK⟩ := h
  refine ⟨hent, ?_⟩
  have hvf := hv.frz F
  have hsf := hs.frz hv F
  obtain ⟨k1, k2, k3, k4, k5, k6, k7⟩ := rebinds_ok hvf hsf n (r.tags ++ tagsB bx')
  generalize hE2 : (E.frz F).unbinds n (r.tags ++ tagsB bx') = E2 at *
  generalize hS2 : (st.frz F).rebinds n (r.tags ++ tagsB bx') = st2 at *
  have hvs := hargs E2 st2 as k2 has
  -- which memory stays while the callee runs
  have mode : ∃ (pr1 : Nat → Prop), (∀ b, E2.prot b → pr1 b) ∧ (∀ b, pr1 b → E2.prot b ∨ ∃ t o, t ∉ ρ.map Prod.snd ∧ E2.row t = some (b, o)) ∧ VRs ⟨(E2.re (gvR ρ) (gvB ρ)).row, (E2.re (gvR ρ) (gvB ρ)).box, pr1⟩ w ps vs.toList ∧
      ((∀ b, pr1 b → E2.prot b) ∨ (r.noLst ∧ noLstB bx')) := by
    rcases hmode with hm | ⟨hm, hm2⟩
    · exact ⟨E2.prot, fun _ h => h, fun _ h => .inl h, VRs.le ps as _ hm hvs, .inl fun _ h => h⟩
    · exact ⟨fun b => E2.prot b ∨ ∃ t o, t ∉ ρ.map Prod.snd ∧ E2.row t = some (b, o), fun _ h => .inl h, fun _ h => h, argsB_sound (fun _ h => .inl h) (fun t b o ht hr => .inr ⟨t, o, ht, hr⟩) as ps _ hm hvs, .inr hm2⟩
  obtain ⟨pr1, m1, m2, m3, m4⟩ := mode
  have hv1' := k1.re (gvR_inj hnd) (gvB_inj hnd)
  have hv1 : Valid ⟨(E2.re (gvR ρ) (gvB ρ)).row, (E2.re (gvR ρ) (gvB ρ)).box, pr1⟩ w := by
    refine ⟨fun t b o h => ⟨(hv1'.row_lt t b o h).1, fun hp => ?_⟩, fun k b h => ⟨(hv1'.box_lt k b h).1, fun hp => ?_⟩, hv1'.row_row, hv1'.box_box, hv1'.row_box, fun b hp => ?_⟩
    · rcases m2 b hp with hp | ⟨u, o', hu, hr⟩
      · exact (hv1'.row_lt t b o h).2 hp
      · obtain ⟨s, g1, g2⟩ := gv_row (pr := pr1) h
        have := k1.row_row _ _ _ _ _ g2 hr; subst this; exact hu g1
    · rcases m2 b hp with hp | ⟨u, o', hu, hr⟩
      · exact (hv1'.box_lt k b h).2 hp
      · obtain ⟨s, u', rfl, g1, g2⟩ := gv_box (pr := pr1) h
        exact k1.row_box _ _ _ _ hr g2
    · rcases m2 b hp with hp | ⟨u, o', hu, hr⟩
      · exact k1.prot_lt b hp
      · exact (k1.row_lt _ _ _ hr).1
  have hlen : vs.size = ps.length := by have := m3.length; simpa using this
  have hs1 : StR ⟨(E2.re (gvR ρ) (gvB ρ)).row, (E2.re (gvR ρ) (gvB ρ)).box, pr1⟩ w (initSt ps bx) vs := by
    refine ⟨fun d p hm => ?_, fun k qs hm => ?_⟩
    · obtain ⟨_, h2⟩ := mem_enum hm
      rw [Nat.sub_zero] at h2
      obtain ⟨u, h4, h5⟩ := m3.getElem? h2
      exact ⟨u, by simpa using h4, h5⟩
    · obtain ⟨s, qs', g1, g2, g3⟩ := leBx_mem hbx hm
      obtain ⟨b, c, el, fr, j1, j2, j3, j4, j5⟩ := k2.bx _ _ (getB_mem g2)
      exact ⟨b, c, el, fr, by simp only [Env.re, g1, Option.bind_some]; exact j1, j2, j3, j4, VRs.wide (E := E2.re (gvR ρ) (gvB ρ)) m1 (VRs.le qs qs' _ g3 j5)⟩
  have hin : ∀ u s, lookT (.up u) ρ = some s → ∃ b, E2.box s = some b := by
    intro u s hus
    have h1 := List.all_eq_true.1 hup _ (lookT_mem hus)
    simp only [Tg.isUp, Bool.not_true, Bool.false_or, List.any_eq_true, decide_eq_true_eq] at h1
    obtain ⟨⟨k, qs⟩, h2, rfl⟩ := h1
    obtain ⟨s', qs', g1, g2, g3⟩ := leBx_mem hbx h2
    obtain ⟨b, c, el, fr, j1, _⟩ := k2.bx _ _ (getB_mem g2)
    simp only [gvB, Tg.isUp, if_true] at g1
    rw [hus] at g1; cases g1
    exact ⟨b, j1⟩
  refine (hev _ w vs hv1 hs1 hlen).mono ?_
  rintro e w' ⟨v, E', rfl, g1, g2, g3⟩
  obtain ⟨u, g4, g5⟩ := g2.tm 0 r (by simp)
  simp at g4; subst g4
  have hbx2 : StR E' w' ⟨[], bx'⟩ #[] := ⟨fun d p hm => by simp at hm, g2.bx⟩
  have fin : ∃ pr2 : Nat → Prop, (∀ b, E2.prot b → pr2 b) ∧ (∀ b, pr2 b → E2.prot b ∨ (E'.prot b ∧ (Own ⟨(E2.re (gvR ρ) (gvB ρ)).row, (E2.re (gvR ρ) (gvB ρ)).box, pr1⟩ b ∨ w.heap.size ≤ b))) ∧
      VR ⟨E'.row, E'.box, pr2⟩ w' r v ∧ StR ⟨E'.row, E'.box, pr2⟩ w' ⟨[], bx'⟩ #[] := by
    rcases m4 with m4 | ⟨m5, m6⟩
    · refine ⟨E'.prot, fun b hb => g3.prot b (m1 b hb), fun b hb => ?_, g5, hbx2⟩
      rcases g3.prot' b hb with h | h
      · exact .inl (m4 b h)
      · exact .inr ⟨hb, h⟩
    · refine ⟨E2.prot, fun _ h => h, fun _ h => .inl h, VR.free (E := E') (E' := ⟨E'.row, E'.box, E2.prot⟩) rfl rfl r v m5 g5, ⟨fun d p hm => by simp at hm, fun k cs hm => ?_⟩⟩
      obtain ⟨b, c, el, fr, j1, j2, j3, j4, j5⟩ := hbx2.bx k cs hm
      exact ⟨b, c, el, fr, j1, j2, j3, j4, VRs.free (E := E') (E' := ⟨E'.row, E'.box, E2.prot⟩) rfl rfl cs _ (noLstB_mem m6 hm) j5⟩
  obtain ⟨pr2, f1, f2, f3, f4⟩ := fin
  obtain ⟨j1, j2, j3, j4⟩ := give_ok (n := n) (ts := r.tags ++ tagsB bx') k1 k2 (fun j hj => k4 j hj) hin g1 g3 f1 (fun b hb => g3.prot b (m1 b hb)) f2 hgb (fun t ht => by simp [ht]) f4
  exact ⟨v, _, _, _, rfl, j1, j4 r v hgr (fun t ht => by simp [ht]) f3, j2, ((Step.frz hv F).trans k3).trans j3, hK⟩

/-- A call. -/
def callK (P : Program) (n : Nat) (ao : AOp) (st : St) (K : PV → St → Prop) : Prop :=
  match ao with
  | .call f args => (match valsO st.val args with
    | some ps => callWith P n f ps st K
    | none => False) ∨ callGive P n f args st K
  | .callv x args => match st.val x, valsO st.val args with
    | some (.d (.clo (.func g) a b)), some ps => callWith P n g (a.map .d ++ ps ++ b.map .d) st K
    | some (.clo (.func g) a b), some ps => callWith P n g (a ++ ps ++ b) st K
    | _, _ => False
  | .bin op bt x y => match ambNil op bt (st.val x) (st.val y) with
    | some (e, es) => (es ≠ [] → K (.d (.bool (!e))) st) ∧ (es = [] → ∀ b, K (.d (.bool b)) st)
    | none => False
  | _ => False

/-- What an operation comes to. -/
def stepK (P : Program) (n : Nat) (ao : AOp) (st : St) (K : PV → St → Prop) : Prop :=
  match rop ao st.val st.box with
  | some (c, v) => c ∧ K v st
  | none => match wop (16 * n + 15) ao st with
    | some (c, v, st') => c ∧ K v st'
    | none => callK P n ao st K

theorem trOp_func {f : FuncId} {args : Array Operand} {ts : Array TypeId} : trOp P (.call ⟨.value (.func f), args, ts⟩) = (trOs args.toList).map (.call f) := rfl
theorem trOp_value {x : Operand} {args : Array Operand} {ts : Array TypeId} (hx : ∀ f, x ≠ .func f) : trOp P (.call ⟨.value x, args, ts⟩) = (match trO x, trOs args.toList with
      | some x', some as => some (.callv x' as)
      | _, _ => none) := by
  cases x <;> first | rfl | exact absurd rfl (hx _)

def AOp.isCall : AOp → Bool
  | .call _ _ => true
  | .callv _ _ => true
  | _ => false

theorem trOp_isCall {op : Op} {ao : AOp} (h : trOp P op = some ao) (hc : ao.isCall = true) : ∃ x args ts, op = .call ⟨.value x, args, ts⟩ := by
  cases op with
  | call cl =>
    obtain ⟨callee, args, ts⟩ := cl
    cases callee with
    | value x => exact ⟨x, args, ts, rfl⟩
    | builtin b =>
      exfalso
      cases b <;> simp only [trOp] at h <;> (repeat' split at h) <;> first | (cases h; done) | (simp only [Option.map_eq_some_iff, Option.some.injEq] at h; obtain ⟨_, _, rfl⟩ := h; cases hc; done) | (simp only [Option.some.injEq] at h; subst h; cases hc; done)
    | invoke x m =>
      exfalso
      simp only [trOp] at h
      split at h
      · simp only [Option.some.injEq] at h; subst h; cases hc
      · cases h
  | _ =>
    exfalso
    simp only [trOp] at h
    (repeat' split at h) <;> first | (cases h; done) | (simp only [Option.map_eq_some_iff, Option.some.injEq] at h; obtain ⟨_, _, rfl⟩ := h; cases hc; done) | (simp only [Option.some.injEq] at h; subst h; cases hc; done)

/-- What an operation's run comes to. -/
def OpDoes (P : Program) (r : Result Next) (R : Value → World → Prop) : Prop := match r with
  | .ok (.value v) w' => R v w'
  | .ok .skip w' => R undef w'
  | .ok (.enter f args) w' => Calls P f args w' fun e w'' => ∃ v, e = .returned v ∧ R v w''
  | _ => False

theorem OpDoes.wp {o : Oper} {a : Act} {R : Value → World → Prop} {next : Act → World → Prop} {Q : Exit → Act → World → Prop} (h : OpDoes P ((execOp a.eval o).run P w) R) (hn : ∀ u w', R u w' → next (a.put o.dst u) w') : o.wp P a w next Q := by
  unfold Oper.wp
  generalize (execOp a.eval o).run P w = r at h ⊢
  unfold OpDoes at h
  split at h
  · exact hn _ _ h
  · exact hn _ _ h
  · simp only [Oper.upon]
    refine Calls.mono h ?_
    rintro e w'' ⟨v, rfl, h⟩
    exact hn _ _ h
  · exact h.elim

/-- An operation's run: told. -/
theorem stepK_does (hv : Valid E w) {a : Act} (hs : StR E w st a.tmps) {n : Nat} {o : Oper} {ao : AOp} (ht : trOp P o.op = some ao) {K : PV → St → Prop} (h : stepK P n ao st K) :
    OpDoes P ((execOp a.eval o).run P w) fun u w' => ∃ E' p st', Valid E' w' ∧ VR E' w' p u ∧ StR E' w' st' a.tmps ∧ Step E w E' w' ∧ K p st' := by
  unfold stepK at h
  split at h
  · rename_i c v hr
    obtain ⟨u, h1, h2⟩ := rop_sound (opdR hs) hs.bxR ht hr h.1
    rw [h1]
    exact ⟨E, v, st, hv, h2, hs, Step.refl _ _, h.2⟩
  · split at h
    · rename_i c v st' hr
      obtain ⟨u, w', E', h1, h2, h3, h4, h5⟩ := wop_sound hv hs ht hr h.1
      rcases h1 with h1 | ⟨h1, rfl⟩
      · rw [h1]
        exact ⟨E', v, st', h3, h2, h4, h5, h.2⟩
      · rw [h1]
        exact ⟨E', v, st', h3, h2, h4, h5, h.2⟩
    · have fin' : ∀ f (vs : Array Value), (Enters P f ∧ Calls P f vs w fun e w' => ∃ v E' p st', e = .returned v ∧ Valid E' w' ∧ VR E' w' p v ∧ StR E' w' st' a.tmps ∧ Step E w E' w' ∧ K p st') → (execOp a.eval o).run P w = (callFunc f vs).run P w → OpDoes P ((execOp a.eval o).run P w) fun u w' => ∃ E' p st', Valid E' w' ∧ VR E' w' p u ∧ StR E' w' st' a.tmps ∧ Step E w E' w' ∧ K p st' := by
        intro f vs h12 h3
        obtain ⟨h4, h5⟩ := h12
        rw [h3, run_callFunc h4]
        refine Calls.mono h5 ?_
        rintro e w' ⟨v, E', p, st', rfl, g1, g2, g3, g4, g5⟩
        exact ⟨v, rfl, E', p, st', g1, g2, g3, g4, g5⟩
      have fin : ∀ f (vs : Array Value) ps, VRs E w ps vs.toList → callWith P n f ps st K → (execOp a.eval o).run P w = (callFunc f vs).run P w → OpDoes P ((execOp a.eval o).run P w) fun u w' => ∃ E' p st', Valid E' w' ∧ VR E' w' p u ∧ StR E' w' st' a.tmps ∧ Step E w E' w' ∧ K p st' :=
        fun f vs ps h1 h2 h3 => fin' f vs (callWith_sound hv hs h1 h2) h3
      have hO := opdR hs
      obtain ⟨dst, op, type, pos, after, guard⟩ := o
      simp only at ht
      by_cases hb : ∃ bop bt bx by', ao = .bin bop bt bx by'
      · obtain ⟨bop, bt, bx, by', rfl⟩ := hb
        cases op with
        | binOp op t x y yt =>
          simp only [trOp] at ht
          split at ht
          · rename_i u x' y' h1 h2 h3
            simp only [Option.some.injEq, AOp.bin.injEq] at ht
            obtain ⟨rfl, rfl, rfl, rfl⟩ := ht
            simp only [callK] at h
            split at h
            · rename_i e es ha
              obtain ⟨b, g1, g2⟩ := ambNil_sound (P := P) (x := x) (y := y) h1 ha (fun p hp => hO _ _ _ h2 hp) (fun p hp => hO _ _ _ h3 hp)
              obtain ⟨z, g3, g4⟩ := gives_of g1 (show VR E w (.d (.bool b)) (.bool b) by simp [VR, DR])
              rw [show (execOp a.eval ⟨dst, .binOp op t x y yt, type, pos, after, guard⟩).run P w = .ok (.value z) w from g3]
              refine ⟨E, .d (.bool b), st, hv, g4, hs, Step.refl _ _, ?_⟩
              by_cases hes : es = []
              · exact h.2 hes b
              · rw [g2 hes]; exact h.1 hes
            · exact h.elim
          · cases ht
        | call cl =>
          exfalso
          obtain ⟨callee, args, ts⟩ := cl
          cases callee with
          | value x =>
            by_cases hx : ∃ f, x = .func f
            · obtain ⟨f, rfl⟩ := hx
              rw [trOp_func, Option.map_eq_some_iff] at ht
              obtain ⟨as, h1, h2⟩ := ht; cases h2
            · rw [trOp_value (fun f e => hx ⟨f, e⟩)] at ht
              split at ht <;> cases ht
          | builtin b =>
            cases b <;> simp only [trOp] at ht <;> (repeat' split at ht) <;> first | (cases ht; done) | (simp only [Option.map_eq_some_iff, Option.some.injEq] at ht; obtain ⟨_, _, hh⟩ := ht; cases hh; done) | (simp only [Option.some.injEq] at ht; cases ht; done)
          | invoke x m =>
            simp only [trOp] at ht
            split at ht
            · simp only [Option.some.injEq] at ht; cases ht
            · cases ht
        | _ =>
          exfalso
          simp only [trOp] at ht
          (repeat' split at ht) <;> first | (cases ht; done) | (simp only [Option.map_eq_some_iff, Option.some.injEq] at ht; obtain ⟨_, _, hh⟩ := ht; cases hh; done) | (simp only [Option.some.injEq] at ht; cases ht; done)
      have hc : ao.isCall = true := by
        unfold callK at h
        split at h
        · rfl
        · rfl
        · exact absurd ⟨_, _, _, _, rfl⟩ hb
        · exact h.elim
      obtain ⟨x, cargs, ts, rfl⟩ := trOp_isCall ht hc
      have hform : (∃ f args, x = .func f ∧ trOs cargs.toList = some args ∧ ao = .call f args) ∨ (∃ x' args, trO x = some x' ∧ trOs cargs.toList = some args ∧ ao = .callv x' args) := by
        by_cases hx : ∃ f, x = .func f
        · obtain ⟨f, rfl⟩ := hx
          rw [trOp_func, Option.map_eq_some_iff] at ht
          obtain ⟨as, h1, rfl⟩ := ht
          exact .inl ⟨f, as, rfl, h1, rfl⟩
        · rw [trOp_value (fun f e => hx ⟨f, e⟩)] at ht
          split at ht
          · rename_i x' as h1 h2
            simp only [Option.some.injEq] at ht; subst ht
            exact .inr ⟨x', as, h1, h2, rfl⟩
          · cases ht
      rcases hform with ⟨f, args, rfl, h1, rfl⟩ | ⟨x', args, h1, h2, rfl⟩
      · simp only [callK] at h
        rcases h with h | h
        · split at h
          · rename_i ps h3
            have h4 := trOs_sound hO h1 h3
            refine fin f (cargs.map a.eval) ps (by simpa using h4) h ?_
            simp [execOp, resolve, Act.eval, Deferred.ofValue, invoke]
          · exact h.elim
        · refine fin' f (cargs.map a.eval) (callGive_sound hv hs (fun E1 st1 as g1 g2 => ?_) h) ?_
          · have := trOs_sound (opdR g1) h1 g2
            simpa using this
          · simp [execOp, resolve, Act.eval, Deferred.ofValue, invoke]
      · simp only [callK] at h
        split at h
        · rename_i g fa fb ps h3 h4
          have h5 := hO _ _ _ h1 h3
          have h6 := trOs_sound hO h2 h4
          simp only [VR, DR] at h5
          obtain ⟨va, vb, h7, h8, h9⟩ := h5
          refine fin g (va ++ cargs.map a.eval ++ vb) _ ?_ h ?_
          · simp only [Array.toList_append]
            exact VRs.append (VRs.append (VRs_d h8) (by simpa using h6)) (VRs_d h9)
          · simp [execOp, resolve, h7, Deferred.ofValue, invoke]
        · rename_i g fa fb ps h3 h4
          have h5 := hO _ _ _ h1 h3
          have h6 := trOs_sound hO h2 h4
          simp only [VR] at h5
          obtain ⟨va, vb, h7, h8, h9⟩ := h5
          refine fin g (va ++ cargs.map a.eval ++ vb) _ ?_ h ?_
          · simp only [Array.toList_append]
            exact VRs.append (VRs.append h8 (by simpa using h6)) h9
          · simp [execOp, resolve, h7, Deferred.ofValue, invoke]
        · exact h.elim

/-- An operation's run, and what follows: told. -/
theorem stepK_sound (hv : Valid E w) {a : Act} (hs : StR E w st a.tmps) {n : Nat} {o : Oper} {ao : AOp} (ht : trOp P o.op = some ao) {K : PV → St → Prop} (h : stepK P n ao st K) {next : Act → World → Prop} {Q : Exit → Act → World → Prop}
    (hn : ∀ u w' E' p st', Valid E' w' → VR E' w' p u → StR E' w' st' a.tmps → Step E w E' w' → K p st' → next (a.put o.dst u) w') : o.wp P a w next Q :=
  (stepK_does hv hs ht h).wp fun u w' ⟨E', p, st', h1, h2, h3, h4, h5⟩ => hn u w' E' p st' h1 h2 h3 h4 h5

end
end Go.Proofs.Ytaghpancpfpnhaa.Abs
