/- Operations that write or make memory: what they come to, and that the machine comes to it. Conditions: none. -/
import Derived.Test.YtaghpancpfpnhaaAbsO
namespace Go.Proofs.Ytaghpancpfpnhaa.Abs
open Go Go.RowKit
set_option linter.unusedVariables false
set_option linter.unusedSimpArgs false

/-- A list that is read. -/
def lstOf (sz : Nat) : PV → Option (List D)
  | .nils => some []
  | .sl _ s _ es => if s = sz then some es else none
  | .d (.lst es) => some es
  | _ => none

/-- What an operation that writes, or makes memory, comes to, and on what terms. -/
def wop (site : Nat) (op : AOp) (st : St) : Option (Prop × PV × St) :=
  match op with
  | .alloc _ _ z => some (True, .ptr (.s site) 0, (st.rebind (.s site)).setBox (.s site) (z.map .d))
  | .box _ x => match st.val x with
    | some p => if (p.mapT (killF (.s site))).known then some (True, .ptr (.s site) 0, (st.rebind (.s site)).setBox (.s site) (p.mapT (killF (.s site))).cells) else none
    | none => none
  | .bslice _ sz parts => match valsO st.val parts with
    | some ps => match PV.toDL ps with
      | some es => some (∀ e ∈ es, e.sz = sz, .sl (.s site) sz 0 es, (st.frz (PV.tagsL ps)).rebind (.s site))
      | none => none
    | none => none
  | .mkS _ sz bytes z l c => match ix st.val l, ix st.val c with
    | some (_, n), some (_, m) => some (0 ≤ n ∧ n ≤ m ∧ m ≤ 140737488355328 ∧ m * (bytes : Int) ≤ 140737488355328, .sl (.s site) sz 0 (List.replicate n.toNat z), st.rebind (.s site))
    | _, _ => none
  | .store sz a x => match st.val a, st.val x with
    | some (.ptr k o), some p => match st.box k with
      | some cs => if p.known then some (o + sz ≤ cs.length ∧ p.cells.length = sz, .unk, st.setBox k (cs.take o ++ p.cells ++ cs.drop (o + sz))) else none
      | none => none
    | some (.ep t s i f e), some p => match p.toD with
      | some x => if t ∉ p.tags ∧ f.getD 0 + sz ≤ s ∧ (f = none → sz = s) ∧ 0 < sz then some (x.sz = sz, .unk, (st.frz p.tags).map (updF t s i (updEs f x))) else none
      | none => none
    | _, _ => none
  | .app _ sz bytes x y => match st.val x, (st.val y).bind (lstOf sz) with
    | some .nils, some ys => some (ys.length ≤ 140737488355328 ∧ ys.length * bytes ≤ 140737488355328 ∧ (∀ e ∈ ys, e.sz = sz), .sl (.s site) sz 0 ys, (st.rebind (.s site)).rebind (.s site))
    | some (.sl t s _ es), some ys => if s = sz then
        some (es.length + ys.length ≤ 140737488355328 ∧ (es.length + ys.length) * bytes ≤ 140737488355328 ∧ (∀ e ∈ ys, e.sz = sz), .sl (.s site) sz 0 (es ++ ys), (st.rebind t).rebind (.s site))
      else none
    | _, _ => none
  | _ => none

section
variable {P : Program} {E : Env} {w : World} {st : St} {a : Act}

/-- What comes of a writing operation. -/
def Does (P : Program) (E : Env) (w : World) (st' : St) (tmps : Array Value) (s : Sem Next) (v : PV) : Prop :=
  ∃ u w' E', (s.run P w = .ok (.value u) w' ∨ (s.run P w = .ok .skip w' ∧ u = undef)) ∧ VR E' w' v u ∧ Valid E' w' ∧ StR E' w' st' tmps ∧ Step E w E' w'

theorem does_of {s : Sem Value} {u : Value} {w' : World} {E' : Env} {st' : St} {tmps : Array Value} {v : PV} (h : s.run P w = .ok u w') (h1 : VR E' w' v u) (h2 : Valid E' w') (h3 : StR E' w' st' tmps)
    (h4 : Step E w E' w') : Does P E w st' tmps (do pure (.value (← s))) v :=
  ⟨u, w', E', .inl (by simp [h]), h1, h2, h3, h4⟩

theorem opdR (hs : StR E w st a.tmps) : OpdR E w a.eval st.val := fun x o p h hp => trO_sound h hs hp

theorem lstOf_sound {y : PV} {v : Value} {sz : Nat} {es : List D} (h : lstOf sz y = some es) (hv : VR E w y v) (hsz : ∀ e ∈ es, e.sz = sz) :
    ∃ cs vs, Src P w sz es.length v cs ∧ cs = flat vs ∧ DRs E.prot w es vs ∧ ∀ u ∈ vs, u.cells.size = sz := by
  cases y with
  | nils =>
    simp only [lstOf, Option.some.injEq] at h; subst h
    simp only [VR] at hv; subst hv
    exact ⟨[], [], Src.nil _ _, rfl, by simp [DRs], by simp⟩
  | sl t s off es' =>
    simp only [lstOf] at h
    split at h
    · rename_i he; subst he
      simp only [Option.some.injEq] at h; subst h
      simp only [VR] at hv
      rcases hv with ⟨rfl, a, rfl⟩ | ⟨b, o, cap, c, el, fr, vs, h1, rfl, h3, h4, hf, h5, h6, h7, h8⟩
      · exact ⟨[], [], Src.nil _ _, rfl, by simp [DRs], by simp⟩
      · exact ⟨flat vs, vs, Src.of h7 (by rw [flat_length h6, h8.length]) h8.one, rfl, h8, h6⟩
    · cases h
  | d x =>
    cases x with
    | lst es' =>
      simp only [lstOf, Option.some.injEq] at h; subst h
      simp only [VR, DR] at hv
      rcases hv with ⟨rfl, a, c0, rfl⟩ | ⟨b, o, cap, sz', vs, rfl, h3, h4, h6, h7, h8⟩
      · exact ⟨[], [], Src.nil _ _, rfl, by simp [DRs], by simp⟩
      · by_cases hz : es' = []
        · subst hz
          have : vs = [] := List.eq_nil_of_length_eq_zero (by rw [h8.length]; rfl)
          subst this
          exact ⟨[], [], Src.nil _ _, rfl, by simp [DRs], by simp⟩
        · have hss : sz' = sz := by
            obtain ⟨e0, he0⟩ : ∃ e0, es'[0]? = some e0 := getLast_none (List.length_pos_iff.2 hz)
            obtain ⟨u0, hu0, hd0⟩ := h8.getElem? he0
            rw [← h6 u0 (List.mem_of_getElem? hu0), hd0.size, hsz e0 (List.mem_of_getElem? he0)]
          subst hss
          exact ⟨flat vs, vs, Src.of h7 (by rw [flat_length h6, h8.length]) h8.one, rfl, h8, h6⟩
    | _ => simp [lstOf] at h
  | _ => simp [lstOf] at h

/-- Where a name is given up, its block is nobody's. -/
theorem not_own_unbind (hv : Valid E w) {t : Tg} {b o : Nat} (h : E.row t = some (b, o)) : ¬ Own (E.unbind t) b := by
  rintro (⟨u, o', hu⟩ | ⟨k, hk⟩)
  · obtain ⟨h1, h2⟩ := Env.unbind_row.1 hu
    exact h1 (hv.row_row _ _ _ _ _ h2 h)
  · exact hv.row_box _ _ _ _ h (Env.unbind_box.1 hk).2

theorem app_sound (hv : Valid E w) (hs : StR E w st a.tmps) {T : Tg} {t u ty e e' : TypeId} {i : TypeInfo} {z : D} (ht : P.underlying t = some (.slice e)) (hu : P.underlying u = some (.slice e'))
    (hi : P.info? e = some i) (hz : zeroD P e = some z) {tg : Tg} {off : Nat} {es ys : List D} {x y : Value} {yp : PV} (hx : VR E w (.sl tg i.size off es) x) (hy : VR E w yp y) (hly : lstOf i.size yp = some ys)
    (h47 : es.length + ys.length ≤ 140737488355328) (hby : (es.length + ys.length) * i.bytes ≤ 140737488355328) (hsz : ∀ e ∈ ys, e.sz = i.size) :
    ∃ r w' E', (Builtin.append_ #[t, u] ty #[x, y]).run P w = .ok r w' ∧ VR E' w' (.sl T i.size 0 (es ++ ys)) r ∧ Valid E' w' ∧ StR E' w' ((st.rebind tg).rebind T) a.tmps ∧ Step E w E' w' := by
  obtain ⟨cs, yvs, hsrc, rfl, hyd, hysz⟩ := lstOf_sound (P := P) hly hy hsz
  obtain ⟨i', zv, g1, g2, g3, g4, g5, g6, g7⟩ := zeroD_sound hz
  rw [hi] at g1; cases g1
  have hv1 := hv.unbind tg
  have hs1 := hs.rebind hv tg
  -- where there is no room
  have grow : ∀ (a0 : Option Addr) (cap : Nat) (ovs : List Value), x = .slice a0 es.length cap → ¬ es.length + ys.length ≤ cap → (Builtin.firstCells i.size es.length (.slice a0 es.length cap)).run P w.drew = .ok (flat ovs).toArray w.drew →
      DRs E.prot w es ovs → (∀ u ∈ ovs, u.cells.size = i.size) →
      ∃ r w' E', (Builtin.append_ #[t, u] ty #[x, y]).run P w = .ok r w' ∧ VR E' w' (.sl T i.size 0 (es ++ ys)) r ∧ Valid E' w' ∧ StR E' w' ((st.rebind tg).rebind T) a.tmps ∧ Step E w E' w' := by
    intro a0 cap ovs hxe hroom hold hod hosz
    obtain ⟨nc, rest, k1, k2, k3⟩ := append_noroom (ty := ty) ht hu hi g2 g3 hold (by rw [flat_length hosz, hod.length]) hsrc hroom h47 hby
    have hg := Grew.drew_alloc w (.cells (flat ovs ++ flat yvs ++ rest).toArray e)
    have hbig : nc * i.size = (flat ovs ++ flat yvs ++ rest).toArray.size := by rw [← k2]; simp
    obtain ⟨r1, r2, r3, r4⟩ := fresh_row (T := T) (sz := i.size) (cap := nc) (es := es ++ ys) (vs := ovs ++ yvs) (rest := rest) hv1 hs1 hg (by simpa using k1) (by rw [hbig]; exact Nat.le_refl _)
      (fun u hu' => (List.mem_append.1 hu').elim (hosz u) (hysz u)) (by simp [flat_append]) (DRs.append hod hyd)
    refine ⟨_, _, _, by rw [hxe]; exact k3, ?_, r1, r2, (Step.unbind hv tg).trans r3⟩
    rw [List.length_append] at r4; exact r4
  have hx' := hx
  simp only [VR] at hx'
  rcases hx' with ⟨rfl, a0, rfl⟩ | ⟨b, o, cap, c, el, fr, vs, h1, rfl, h3, h4, hf, h5, h6, h7, h8⟩
  · by_cases hys : ys = []
    · subst hys
      refine ⟨.slice a0 0 0, w, (E.unbind tg).unbind T, ?_, ?_, hv1.unbind T, hs1.rebind hv1 T, (Step.unbind hv tg).trans (Step.unbind hv1 T)⟩
      · obtain ⟨a', cc, rfl, hl, h1, hrun⟩ := hsrc
        simp only [List.length_nil] at hrun ⊢
        have h2 := hrun w (fun _ _ _ h => absurd rfl h)
        have : flat yvs = [] := List.eq_nil_of_length_eq_zero (by simpa using hl)
        simp [Builtin.append_, run_underlying ht, run_underlying hu, run_sizeOf' hi, Builtin.lenOf, h2, this]
        cases a0 <;> simp [storeCells]
      · simp only [VR]; exact .inl ⟨by simp, a0, rfl⟩
    · have hpos : 0 < ys.length := List.length_pos_iff.2 hys
      exact grow a0 0 [] rfl (by simp; omega) (by rw [List.length_nil, firstCells_nil]; rfl) (by simp [DRs]) (by simp)
  · by_cases hroom : es.length + ys.length ≤ cap
    · have k3 := append_room (P := P) (t := t) (u := u) (ty := ty) ht hu hi h4 hf hsrc hroom (o := o + off * i.size) (by rw [Nat.add_mul] at h5; omega)
      have hbs := (Array.getElem?_eq_some_iff.1 h4).1
      have hno := not_own_unbind hv h1
      have hno2 : ¬ Own ((E.unbind tg).unbind T) b := fun h => hno h.unbind
      have hpb := (hv.row_lt _ _ _ h1).2
      have hv2 := hv1.unbind T
      have hs2 := hs1.rebind hv1 T
      let ob : Obj := .cells (laid c (o + off * i.size + es.length * i.size) (flat yvs)) el fr
      have hw3 : ∀ k, k ≠ b → (setBlk w b ob).heap[k]? = w.heap[k]? := fun k hk => by rw [setBlk_get, if_neg hk]
      have hs3 : StR ((E.unbind tg).unbind T) (setBlk w b ob) ((st.rebind tg).rebind T) a.tmps :=
        hs2.keep (fun _ h => h) (fun k hk => hw3 k (fun e => by subst e; exact hpb hk)) (fun t' r hr => ⟨hr, hw3 _ (fun e => by subst e; exact hno2 (.inl ⟨t', r.2, hr⟩))⟩) (fun k b' hb' => ⟨hb', hw3 _ (fun e => by subst e; exact hno2 (.inr ⟨k, hb'⟩))⟩)
      have hv3 := hv2.setBlk b ob
      have hn : ((E.unbind tg).unbind T).row T = none := by simp [Env.unbind]
      have hv4 := hv3.bindRow (t := T) (b := b) (o := o + off * i.size) hn hno2 hpb (by rw [setBlk_size]; exact hbs)
      refine ⟨_, _, _, k3, ?_, hv4, hs3.bindRow hn, ?_⟩
      · have hlen := laid_size (c := c) (o := o + off * i.size + es.length * i.size) (l := flat yvs) (by
          rw [flat_length hysz, hyd.length]
          have := Nat.mul_le_mul_right i.size hroom
          rw [Nat.add_mul] at this h5; omega)
        simp only [VR]
        refine .inr ⟨b, o + off * i.size, cap, laid c (o + off * i.size + es.length * i.size) (flat yvs), el, fr, vs ++ yvs, by simp [Env.bindRow], by simp, by simpa using hroom, by rw [setBlk_get]; simp only [if_true, hbs], ?_, ?_, ?_, ?_, ?_⟩
        · rcases hf with hf | hf
          · exact .inl hf
          · exact .inr (by rw [hlen]; exact hf)
        · rw [hlen, Nat.zero_add]; rw [Nat.add_mul] at h5; omega
        · exact fun u hu' => (List.mem_append.1 hu').elim (h6 u) (hysz u)
        · rw [flat_append, CellsAt.append, flat_length h6, h8.length]
          have hvl : (flat vs).length = es.length * i.size := by rw [flat_length h6, h8.length]
          have hcap := Nat.mul_le_mul_right i.size hroom
          rw [Nat.add_mul] at hcap h5
          have hyl : (flat yvs).length = ys.length * i.size := by rw [flat_length hysz, hyd.length]
          simp only [Nat.zero_mul, Nat.add_zero]
          refine ⟨cells_at_out h4 h7 (.inr (by rw [hvl]; exact Nat.le_refl _)) (by omega), ?_⟩
          intro j x hj
          have hjl := (List.getElem?_eq_some_iff.1 hj).1
          simp only [World.cell?, setBlk_get, if_true, hbs]
          simp only [Option.isSome_none, Bool.false_eq_true, if_false]
          simp only [laid, List.getElem?_toArray, List.getElem?_append, List.getElem?_take, List.getElem?_drop, List.length_append, List.length_take]
          have hcs : c.toList.length = c.size := by simp
          grind
        · exact DRs.append (DRs.mono (fun _ h => h) (fun k hk => hw3 k (fun e => by subst e; exact hpb hk)) _ _ h8) (DRs.mono (fun _ h => h) (fun k hk => hw3 k (fun e => by subst e; exact hpb hk)) _ _ hyd)
      · refine ⟨rfl, rfl, rfl, by rw [setBlk_size]; exact Nat.le_refl _, fun k hk ho => hw3 k (fun e => by subst e; exact ho (.inl ⟨_, _, h1⟩)), fun k hk => ?_, fun _ h => h, fun _ h => .inl h, fun _ _ h => Env.unbind_box.2 ⟨.inr rfl, Env.unbind_box.2 ⟨.inr rfl, h⟩⟩⟩
        rcases hk.bindRow with rfl | hk
        · exact .inl (.inl ⟨_, _, h1⟩)
        · exact .inl hk.unbind.unbind
    · exact grow _ cap vs rfl hroom (firstCells_run (h7.mono rfl) (by rw [flat_length h6, h8.length])) h8 h6

end
end Go.Proofs.Ytaghpancpfpnhaa.Abs
