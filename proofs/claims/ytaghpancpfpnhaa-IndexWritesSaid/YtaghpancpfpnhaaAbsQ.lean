/- All operations that write or make memory come to what is told. Conditions: none. -/
import Derived.Test.YtaghpancpfpnhaaAbsP
import Derived.IntWalk
namespace Go.Proofs.Ytaghpancpfpnhaa.Abs
open Go Go.RowKit
set_option linter.unusedVariables false
set_option linter.unusedSimpArgs false

section
variable {P : Program} {E : Env} {w : World} {st : St} {a : Act}

theorem run_newVar (t : TypeId) (v : Value) : (newVar t v).run P w = .ok ⟨w.heap.size, 0, none⟩ (w.alloc (.cells v.cells t)) := by
  simp [newVar, newRow]

theorem rep_cells {z : Array Value} {k : Nat} (hk : k ≠ 0) (hz : z.size = k) : ∀ m, ((Array.range (m * k)).map fun i => z[i % z.size]!).toList = (List.replicate m z.toList).flatten := by
  intro m
  induction m with
  | zero => simp
  | succ m ih =>
    have e1 : Array.range ((m + 1) * k) = Array.range (m * k) ++ (Array.range k).map (· + m * k) := by
      apply Array.ext
      · simp [Nat.add_mul]
      · intro i h1 h2
        simp only [Array.getElem_range]
        rw [Array.getElem_append]
        split
        · simp
        · simp; simp at *; omega
    rw [e1, Array.map_append, Array.toList_append, ih, List.replicate_succ', List.flatten_append]
    congr 1
    apply List.ext_getElem?
    intro i
    simp only [Array.toList_map, Array.toList_range, List.map_map, List.flatten_cons, List.flatten_nil, List.append_nil]
    rw [List.getElem?_map]
    by_cases hi : i < k
    · rw [List.getElem?_range hi]
      simp only [Option.map_some, Function.comp, hz]
      rw [Nat.add_mul_mod_self_right, Nat.mod_eq_of_lt hi]
      have : i < z.size := by omega
      simp [getElem!_pos z i this, this]
    · rw [List.getElem?_eq_none (by simp; omega), List.getElem?_eq_none (by simp; omega)]
      rfl

theorem DRs_replicate {pr : Nat → Prop} {x : D} {v : Value} (h : DR pr w x v) : ∀ n, DRs pr w (List.replicate n x) (List.replicate n v)
  | 0 => by simp [DRs]
  | n + 1 => by simp only [List.replicate_succ, DRs]; exact ⟨v, _, rfl, h, DRs_replicate h n⟩

theorem flat_replicate (v : Value) (n : Nat) : flat (List.replicate n v) = (List.replicate n v.cells.toList).flatten := by
  simp [flat, List.flatMap]

/-- In order, part by part. -/
theorem fill_seq {sz : Nat} (hz : sz ≠ 0) : ∀ (vs : List Value) (k : Nat) (c : Array Value), (∀ u ∈ vs, u.cells.size = sz) → k * sz + vs.length * sz = c.size →
    Instr.fill (fun i => some (i * sz, sz)) c ((vs.zipIdx k).map fun r => (r.2, r.1)) = some ((c.toList.take (k * sz) ++ flat vs).toArray)
  | [], k, c, h, hc => by
    simp only [List.zipIdx_nil, List.map_nil, Instr.fill, flat, List.flatMap_nil, List.append_nil]
    rw [List.take_of_length_le (by simp at hc ⊢; omega)]
  | v :: vs, k, c, h, hc => by
    have hv := h v (by simp)
    simp only [List.length_cons, Nat.add_mul, Nat.one_mul] at hc
    simp only [List.zipIdx_cons, List.map_cons, Instr.fill]
    rw [if_neg (by simp; omega)]
    rw [← Array.foldl_toList, Array.toList_zipIdx, fold_set c (k * sz) v.cells.toList 0 (by simp; omega)]
    rw [fill_seq hz vs (k + 1) _ (fun u hu => h u (by simp [hu])) (by simp [Nat.add_mul]; omega)]
    congr 2
    simp only [Nat.add_zero, Array.length_toList, hv, flat, List.flatMap_cons]
    rw [← List.append_assoc]
    congr 1
    rw [List.take_append_of_le_length (by simp [Nat.add_mul]; omega)]
    rw [List.take_of_length_le (by simp [Nat.add_mul]; omega)]

theorem bslice_sound (hv : Valid E w) (hs : StR E w st a.tmps) {T : Tg} {t e : TypeId} {j : TypeInfo} {z : Value} (ht : P.underlying t = some (.slice e)) (hi : P.info? e = some j) (hz : j.zero = some z) (hj : j.size ≠ 0)
    (hzs : z.cells.size = j.size) {n : Nat} {parts : Array (Nat × Operand)} (hn : parts.toList.map (·.1) = List.range n) (hsm : n * j.size ≤ 1000) {os : List Opd} (hos : trOs (parts.toList.map (·.2)) = some os) {ps : List PV}
    (hps : valsO st.val os = some ps) {es : List D} (hes : PV.toDL ps = some es) (hsz : ∀ e ∈ es, e.sz = j.size) :
    Does P E w ((st.frz (PV.tagsL ps)).rebind T) a.tmps (do pure (.value (← Instr.buildSlice t n (parts.map fun (i, x) => (i, a.eval x))))) (.sl T j.size 0 es) := by
  have hV := trOs_sound (opdR hs) hos hps
  have hv1 := hv.frz (PV.tagsL ps)
  have hs1 := hs.frz hv (PV.tagsL ps)
  have hd : DRs (E.frz (PV.tagsL ps)).prot w es ((parts.toList.map (·.2)).map a.eval) :=
    toDL_sound (pr := (E.frz (PV.tagsL ps)).prot) (fun _ h => .inl h) ps _ es hes (fun t h b o hr => .inr ⟨t, h, o, hr⟩) hV
  let vs := (parts.toList.map (·.2)).map a.eval
  have hvs : ∀ u ∈ vs, u.cells.size = j.size := by
    intro u hu
    obtain ⟨i, hi⟩ := List.getElem?_of_mem hu
    have hl := hd.length
    have hil : i < es.length := by have := (List.getElem?_eq_some_iff.1 hi).1; simp only [vs] at this; omega
    obtain ⟨y, h1, h2⟩ := hd.at hil
    have : u = y := by simp only [vs] at hi; rw [hi] at h1; exact Option.some.inj h1
    subst this
    rw [h2.size]; exact hsz _ (List.mem_of_getElem? (getD'_eq hil))
  have hlen : vs.length = n := by
    have := congrArg List.length hn
    simpa [vs] using this
  have hel : es.length = n := by rw [← hlen]; exact hd.length.symm
  have hparts : (parts.map fun x : Nat × Operand => (x.1, a.eval x.2)).toList = (vs.zipIdx 0).map fun r => (r.2, r.1) := by
    apply List.ext_getElem?
    intro i
    simp only [Array.toList_map, List.getElem?_map, List.getElem?_zipIdx, vs, Nat.zero_add]
    by_cases hi : i < n
    · have h1 : (parts.toList.map (·.1))[i]? = some i := by rw [hn, List.getElem?_range hi]
      rw [List.getElem?_map] at h1
      cases hp : parts.toList[i]? with
      | none => rw [hp] at h1; cases h1
      | some q => rw [hp] at h1; simp at h1; simp [h1]
    · have : parts.toList.length = n := by have := congrArg List.length hn; simpa using this
      rw [List.getElem?_eq_none (by omega)]; rfl
  let c : Array Value := (flat vs).toArray
  have hcs : (flat vs).length = n * j.size := by rw [flat_length hvs, hlen]
  have run : (Instr.buildSlice t n (parts.map fun x : Nat × Operand => (x.1, a.eval x.2))).run P w = .ok (.slice (some ⟨w.heap.size, 0, none⟩) n n) (w.alloc (.cells c e)) := by
    have hfill := fill_seq hj vs 0 ((Array.range (n * j.size)).map (z.cells[· % z.cells.size]!)) hvs (by simp [hlen])
    simp only [Nat.zero_mul, List.take_zero, List.nil_append] at hfill
    have hnl : ¬ (16777216 < n * j.size) := by omega
    simp only [Instr.buildSlice, Sem.run_bind, run_underlying ht, Result.andThen_ok, run_sizeOf' hi]
    by_cases h0 : n * j.size = 0
    · have hn0 : n = 0 := by rcases Nat.mul_eq_zero.1 h0 with h | h; exact h; exact absurd h hj
      have hp0 : parts = #[] := by
        have := congrArg List.length hn; simp [hn0] at this; exact this
      have hv0 : vs = [] := by simp [vs, hp0]
      subst hn0
      simp [hp0, c, hv0, flat, Instr.fill, newRow, Array.range_zero']
    · simp only [hparts]
      simp only [if_neg (show ¬ (n * j.size > 2 ^ 24) by omega), if_neg h0, Sem.run_bind, run_zeroValue' hi hz, Result.andThen_ok, Sem.run_pure]
      rw [hfill]
      simp [newRow, c]
  obtain ⟨r1, r2, r3, r4⟩ := fresh_row (T := T) (sz := j.size) (cap := n) (es := es) (vs := vs) (rest := []) hv1 hs1 (Grew.alloc w (.cells c e)) (by omega) (by simp [c, hcs]) hvs (by simp [c]) hd
  refine does_of run ?_ r1 r2 ((Step.frz hv _).trans r3)
  rw [hel] at r4; exact r4

theorem wrap_in {x : Int} (h0 : -9223372036854775808 ≤ x) (h1 : x ≤ 9223372036854775807) : IntKind.i64.wrap x = x := by
  rw [IntKind.wrap_i64]; omega

theorem mkS_sound (hv : Valid E w) (hs : StR E w st a.tmps) {T : Tg} {t e : TypeId} {j : TypeInfo} {z : D} (ht : P.underlying t = some (.slice e)) (hi : P.info? e = some j) (hz : zeroD P e = some z) {k k' : IntKind} {n m : Int}
    (h0 : 0 ≤ n) (h1 : n ≤ m) (h2 : m ≤ 140737488355328) (h3 : m * (j.bytes : Int) ≤ 140737488355328) :
    Does P E w (st.rebind T) a.tmps (do pure (.value (← Instr.makeSlice t (.int k n) (.int k' m)))) (.sl T j.size 0 (List.replicate n.toNat z)) := by
  obtain ⟨i', zv, g1, g2, g3, g4, g5, g6, g7⟩ := zeroD_sound hz
  rw [hi] at g1; cases g1
  obtain ⟨v, hdv, hvc⟩ := g7 E.prot w
  have hvs : v.cells.size = j.size := by rw [hdv.size, g5]
  let c : Array Value := (Array.range (m.toNat * j.size)).map fun i => zv.cells[i % zv.cells.size]!
  have hc : c.toList = (List.replicate m.toNat zv.cells.toList).flatten := rep_cells g4 g3 m.toNat
  have run : (Instr.makeSlice t (.int k n) (.int k' m)).run P w = .ok (.slice (some ⟨w.heap.size, 0, none⟩) n.toNat m.toNat) (w.alloc (.cells c e)) := by
    have w1 : IntKind.i64.wrap n = n := wrap_in (by omega) (by omega)
    have w2 : IntKind.i64.wrap m = m := wrap_in (by omega) (by omega)
    have hb : (j.bytes : Int) * m ≤ 140737488355328 := by rw [Int.mul_comm]; exact h3
    have hbig : ¬ (281474976710656 < (j.bytes : Int) * m) := by omega
    have h4 : ¬ m < 0 := by omega
    have h5 : ¬ n < 0 := by omega
    have h6 : ¬ m < n := by omega
    simp only [Instr.makeSlice, Sem.run_bind, run_underlying ht, Result.andThen_ok, asInt, asIntOf, Sem.run_pure, run_typeInfo' hi, w1, w2]
    simp [h4, h5, h6, hbig, run_sizeOf' hi, newRow]
    by_cases hz0 : m.toNat = 0
    · simp [hz0, c, Array.range_zero']
    · have : ¬ (m ≤ 0) := by omega
      simp [this, g4, run_zeroValue' hi g2, c]
      intro hz'
      rcases Nat.mul_eq_zero.1 hz' with h | h
      · exact absurd h hz0
      · exact absurd h g4
  have hcs : c.size = m.toNat * j.size := by simp [c]
  obtain ⟨r1, r2, r3, r4⟩ := fresh_row (T := T) (sz := j.size) (cap := m.toNat) (es := List.replicate n.toNat z) (vs := List.replicate n.toNat v) (rest := (List.replicate (m.toNat - n.toNat) zv.cells.toList).flatten) hv hs (Grew.alloc w (.cells c e))
    (by simp; omega) (by rw [hcs]; exact Nat.le_refl _) (fun u hu => by rw [(List.mem_replicate.1 hu).2]; exact hvs)
    (by rw [hc, flat_replicate, hvc, ← List.flatten_append, List.replicate_append_replicate]; congr 2; omega) (DRs_replicate hdv _)
  refine does_of run ?_ r1 r2 r3
  rw [List.length_replicate] at r4; exact r4

theorem run_storeVar {t : TypeId} {j : TypeInfo} (hi : P.info? t = some j) {b o : Nat} {c : Array Value} {el : TypeId} {fr : Nat × Nat} (hb : w.heap[b]? = some (.cells c el fr)) (hf : Unfz c fr) {v : Value}
    (hv : v.cells.size = j.size) (ho : o + j.size ≤ c.size) (h1 : OneC v.cells.toList) : (storeVar t ⟨b, o, none⟩ v).run P w = .ok () (setBlk w b (.cells (laid c o v.cells.toList) el fr)) := by
  have h3 := run_storeCells' (P := P) b el fr v.cells.toList 0 o c w hb hf (by simp; omega) h1
  simp only [Nat.add_zero] at h3
  simp only [storeVar, Sem.run_bind, run_sizeOf' hi, Result.andThen_ok, ne_eq, hv, not_true, if_false, h3, Sem.run_pure]

theorem laid_toList {c : Array Value} {o : Nat} {l : List Value} : (laid c o l).toList = laidL c.toList o l := by simp [laid, laidL]

/-- All operations that write or make memory. -/
theorem wop_sound {site : Nat} (hv : Valid E w) (hs : StR E w st a.tmps) {o : Oper} {ao : AOp} (ht : trOp P o.op = some ao) {c : Prop} {v : PV} {st' : St} (hr : wop site ao st = some (c, v, st')) (hc : c) :
    Does P E w st' a.tmps (execOp a.eval o) v := by
  obtain ⟨dst, op, type, pos, after, guard⟩ := o
  simp only at ht
  have hO := opdR hs
  cases op with
  | alloc e =>
    simp only [trOp] at ht
    split at ht
    · rename_i j z h1 h2
      simp only [Option.some.injEq] at ht; subst ht
      simp only [wop, Option.some.injEq, Prod.mk.injEq] at hr; obtain ⟨rfl, rfl, rfl⟩ := hr
      obtain ⟨i', zv, g1, g2, g3, g4⟩ := zeroOf_sound h2
      rw [h1] at g1; cases g1
      have run : (Instr.alloc e true (.tuple #[])).run P w = .ok (.pointer (some ⟨w.heap.size, 0, none⟩)) (w.alloc (.cells zv.cells e)) := by
        simp [Instr.alloc, run_zeroValue' h1 g2, run_newVar]
      obtain ⟨r1, r2, r3, r4⟩ := fresh_box (T := .s site) rfl hv hs (Grew.alloc w (.cells zv.cells e)) g3 (VRs_d (E := E.unbind (.s site)) (g4 _ w))
      exact does_of run r4 r1 r2 r3
    · cases ht
  | box e x =>
    simp only [trOp, Option.map_eq_some_iff] at ht
    obtain ⟨y, h1, rfl⟩ := ht
    simp only [wop] at hr
    split at hr
    · rename_i p h2
      split at hr
      · rename_i h3
        simp only [Option.some.injEq, Prod.mk.injEq] at hr; obtain ⟨rfl, rfl, rfl⟩ := hr
        have h4 := hO _ _ _ h1 h2
        have h5 : VR (E.unbind (.s site)) w (p.mapT (killF (.s site))) (a.eval x) :=
          VR.map (E := E) (w := w) (E' := E.unbind (.s site)) (w' := w) (f := killF (.s site)) (fun _ h => h) (fun _ _ => rfl) (fun q u hl hq => killF_leaf hl hq) p _ h4
        have run : (Instr.box e (a.eval x)).run P w = .ok (.pointer (some ⟨w.heap.size, 0, none⟩)) (w.alloc (.cells (a.eval x).cells e)) := by
          simp [Instr.box, run_newVar]
        obtain ⟨r1, r2, r3, r4⟩ := fresh_box (T := .s site) rfl hv hs (Grew.alloc w (.cells (a.eval x).cells e)) (h5.one h3) (h5.cells h3)
        exact does_of run r4 r1 r2 r3
      · cases hr
    · cases hr
  | buildSlice t n parts =>
    simp only [trOp] at ht
    split at ht
    · rename_i e os h1 h2
      split at ht
      · rename_i j h3
        split at ht
        · rename_i z h4
          split at ht
          · rename_i h5
            simp only [Option.some.injEq] at ht; subst ht
            simp only [wop] at hr
            split at hr
            · rename_i ps h6
              split at hr
              · rename_i es h7
                simp only [Option.some.injEq, Prod.mk.injEq] at hr; obtain ⟨rfl, rfl, rfl⟩ := hr
                obtain ⟨i', zv, g1, g2, g3, g4, _⟩ := zeroD_sound h4
                rw [h3] at g1; cases g1
                exact bslice_sound hv hs h1 h3 g2 g4 g3 h5.1 h5.2 h2 h6 h7 hc
              · cases hr
            · cases hr
          · cases ht
        · cases ht
      · cases ht
    · cases ht
  | makeSlice t l cc =>
    simp only [trOp] at ht
    split at ht
    · rename_i e l' c' h1 h2 h3
      split at ht
      · rename_i j z h4 h5
        simp only [Option.some.injEq] at ht; subst ht
        simp only [wop] at hr
        split at hr
        · rename_i k n k' m h6 h7
          simp only [Option.some.injEq, Prod.mk.injEq] at hr; obtain ⟨rfl, rfl, rfl⟩ := hr
          have := mkS_sound (T := .s site) (k := k) (k' := k') hv hs h1 h4 h5 hc.1 hc.2.1 hc.2.2.1 hc.2.2.2
          simp only [execOp, ix_sound hO h2 h6, ix_sound hO h3 h7]
          exact this
        · cases hr
      · cases ht
    · cases ht
  | store t x y =>
    simp only [trOp] at ht
    split at ht
    · rename_i j x' y' h1 h2 h3
      simp only [Option.some.injEq] at ht; subst ht
      simp only [wop] at hr
      split at hr
      · rename_i k o p h4 h5
        split at hr
        · rename_i cs h6
          split at hr
          · rename_i h7
            simp only [Option.some.injEq, Prod.mk.injEq] at hr; obtain ⟨rfl, rfl, rfl⟩ := hr
            obtain ⟨c1, c2⟩ := hc
            have h8 := hO _ _ _ h2 h4
            simp only [VR] at h8
            obtain ⟨b, h9, h10⟩ := h8
            obtain ⟨b', cc, el, fr, k1, k2, k3, k4, k5⟩ := hs.bx _ _ (getB_mem h6)
            rw [h9] at k1; cases k1
            have h11 := hO _ _ _ h3 h5
            have h12 := h11.cells h7
            have h13 := h12.length
            have h14 := k5.length
            simp only [Array.length_toList] at h13 h14
            have run : (Instr.storeAt t (a.eval x) (a.eval y)).run P w = .ok () (setBlk w b (.cells (laid cc o (a.eval y).cells.toList) el fr)) := by
              simp only [Instr.storeAt, Sem.run_bind, h10, Instr.sureAddr, Sem.run_pure, Result.andThen_ok]
              exact run_storeVar h1 k2 k3 (by omega) (by omega) (h11.one h7)
            have hbs := (Array.getElem?_eq_some_iff.1 k2).1
            have hls := laid_size (c := cc) (o := o) (l := (a.eval y).cells.toList) (by simp; omega)
            refine ⟨undef, setBlk w b (.cells (laid cc o (a.eval y).cells.toList) el fr), E, .inr ⟨by simp [execOp, run], rfl⟩, by simp [VR], hv.setBlk _ _, ?_, Step.setBlk hv _ (.inr ⟨k, h9⟩)⟩
            refine box_write hv hs h9 ?_ ?_ ?_ hbs
            · rcases k3 with k3 | k3
              · exact .inl k3
              · exact .inr (by rw [hls]; exact k3)
            · intro z hz
              rw [laid_toList] at hz
              simp only [laidL, List.mem_append] at hz
              rcases hz with (hz | hz) | hz
              · exact k4 z (List.mem_of_mem_take hz)
              · exact h11.one h7 z hz
              · exact k4 z (List.mem_of_mem_drop hz)
            · rw [laid_toList]
              simp only [laidL]
              refine VRs.append (VRs.append (VRs.take _ k5) h12) ?_
              rw [show (a.eval y).cells.toList.length = j.size by simp; omega]
              exact VRs.drop _ k5
          · cases hr
        · cases hr
      · rename_i tg s i f e p h4 h5
        split at hr
        · rename_i xd h6
          split at hr
          · rename_i h7
            simp only [Option.some.injEq, Prod.mk.injEq] at hr; obtain ⟨rfl, rfl, rfl⟩ := hr
            obtain ⟨n1, n2, n3, n4⟩ := h7
            have hv1 := hv.frz p.tags
            have hs1 := hs.frz hv p.tags
            have hO1 := opdR hs1
            have h8 := hO _ _ _ h2 h4
            have h11 := hO _ _ _ h3 h5
            have hxd : DR (E.frz p.tags).prot w xd (a.eval y) := toD_frz h6 (fun t h => h) h11
            simp only [VR] at h8
            obtain ⟨b, o, cc, el, fr, k1, k2, k3, k4, k5, _⟩ := h8
            have k1' : (E.frz p.tags).row tg = some (b, o) := Env.frz_row.2 ⟨n1, k1⟩
            have hxs := hxd.size
            have run : (Instr.storeAt t (a.eval x) (a.eval y)).run P w = .ok () (setBlk w b (.cells (laid cc (o + i * s + f.getD 0) (a.eval y).cells.toList) el fr)) := by
              simp only [Instr.storeAt, Sem.run_bind, k2, Instr.sureAddr, Sem.run_pure, Result.andThen_ok]
              exact run_storeVar h1 k3 k4 (by omega) (by omega) hxd.one
            have hbs := (Array.getElem?_eq_some_iff.1 k3).1
            have hno : ¬ (E.frz p.tags).prot b := (hv1.row_lt _ _ _ k1').2
            refine ⟨undef, setBlk w b (.cells (laid cc (o + i * s + f.getD 0) (a.eval y).cells.toList) el fr), E.frz p.tags, .inr ⟨by simp [execOp, run], rfl⟩, by simp [VR], hv1.setBlk _ _, ?_, (Step.frz hv _).trans (Step.setBlk hv1 _ (.inl ⟨_, _, k1'⟩))⟩
            refine hs1.map (E' := E.frz p.tags) (f := updF tg s i (updEs f xd)) (fun _ h => h) (fun q hq => by rw [setBlk_get, if_neg (fun e => by subst e; exact hno hq)]) (fun q u hl hq => updF_leaf hv1 k1' k3 hxd (by omega) (fun hf => by rw [hc]; exact n3 hf) (by omega) k5 hl hq)
              (fun k cs hm b' hb' => ⟨hb', by rw [setBlk_get, if_neg (fun e => by subst e; exact hv1.row_box _ _ _ _ k1' hb')]⟩)
          · cases hr
        · cases hr
      · cases hr
    · cases ht
  | call cl =>
    obtain ⟨callee, args, argTypes⟩ := cl
    simp only [trOp] at ht
    split at ht
    case h_4 =>
      split at ht
      · rename_i t u x y g1 g2
        have e1 : argTypes = #[t, u] := by cases argTypes; simp_all
        have e2 : args = #[x, y] := by cases args; simp_all
        subst e1; subst e2
        split at ht
        · rename_i e e' x' y' h1 h2 h3 h4
          split at ht
          · rename_i j z h5 h6
            simp only [Option.some.injEq] at ht; subst ht
            have key : ∀ {tg off es ys}, VR E w (.sl tg j.size off es) (a.eval x) → (st.val y').bind (lstOf j.size) = some ys → es.length + ys.length ≤ 140737488355328 → (es.length + ys.length) * j.bytes ≤ 140737488355328 →
                (∀ e ∈ ys, e.sz = j.size) → Does P E w ((st.rebind tg).rebind (.s site)) a.tmps (execOp a.eval ⟨dst, .call ⟨.builtin .append, #[x, y], #[t, u]⟩, type, pos, after, guard⟩) (.sl (.s site) j.size 0 (es ++ ys)) := by
              intro tg off es ys hx hy g1 g2 g3
              rw [Option.bind_eq_some_iff] at hy
              obtain ⟨yp, hy1, hy2⟩ := hy
              obtain ⟨r, w', E', q1, q2, q3, q4, q5⟩ := app_sound (T := .s site) (ty := type) hv hs h1 h2 h5 h6 hx (hO _ _ _ h4 hy1) hy2 g1 g2 g3
              exact ⟨r, w', E', .inl (by simp [execOp, resolve, invoke, builtin, q1]), q2, q3, q4, q5⟩
            simp only [wop] at hr
            split at hr
            · rename_i ys h7 h8
              simp only [Option.some.injEq, Prod.mk.injEq] at hr; obtain ⟨rfl, rfl, rfl⟩ := hr
              have h9 := hO _ _ _ h3 h7
              simp only [VR] at h9
              have h10 : VR E w (.sl (.s site) j.size 0 []) (a.eval x) := by simp only [VR]; exact .inl ⟨trivial, none, h9⟩
              have := key h10 h8 (by simpa using hc.1) (by simpa using hc.2.1) hc.2.2
              rw [List.nil_append] at this
              exact this
            · rename_i tg s off es ys h7 h8
              split at hr
              · rename_i hs'; subst hs'
                simp only [Option.some.injEq, Prod.mk.injEq] at hr; obtain ⟨rfl, rfl, rfl⟩ := hr
                exact key (hO _ _ _ h3 h7) h8 hc.1 hc.2.1 hc.2.2
              · cases hr
            · cases hr
          · cases ht
        · cases ht
      · cases ht
    all_goals (repeat' split at ht) <;> first | (cases ht; done) | (simp only [Option.map_eq_some_iff, Option.some.injEq] at ht; obtain ⟨_, _, rfl⟩ := ht; cases hr; done) | (simp only [Option.some.injEq] at ht; subst ht; cases hr; done)
  | _ =>
    simp only [trOp] at ht
    (repeat' split at ht) <;> first | (cases ht; done) | (simp only [Option.map_eq_some_iff, Option.some.injEq] at ht; obtain ⟨_, _, rfl⟩ := ht; cases hr; done) | (simp only [Option.some.injEq] at ht; subst ht; cases hr; done)

end
end Go.Proofs.Ytaghpancpfpnhaa.Abs
