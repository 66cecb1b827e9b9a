/- Calls that are handed rows and boxes. Conditions: none. -/
import Derived.Test.YtaghpancpfpnhaaAbsRa
namespace Go.Proofs.Ytaghpancpfpnhaa.Abs
open Go Go.RowKit
set_option linter.unusedVariables false
set_option linter.unusedSimpArgs false

/-- Slots numbered from n. -/
def enum (n : Nat) : List PV → List (Nat × PV)
  | [] => []
  | p :: ps => (n, p) :: enum (n + 1) ps

theorem mem_enum : ∀ {ps : List PV} {n d : Nat} {p : PV}, (d, p) ∈ enum n ps → n ≤ d ∧ ps[d - n]? = some p
  | [], n, d, p, h => by simp [enum] at h
  | q :: ps, n, d, p, h => by
    simp only [enum] at h
    rcases List.mem_cons.1 h with h | h
    · cases h; simp
    · obtain ⟨h1, h2⟩ := mem_enum h
      refine ⟨by omega, ?_⟩
      rw [show d - n = (d - (n + 1)) + 1 from by omega, List.getElem?_cons_succ]; exact h2

theorem enum_mem : ∀ {ps : List PV} {n d : Nat} {p : PV}, ps[d]? = some p → (n + d, p) ∈ enum n ps
  | [], n, d, p, h => by simp at h
  | q :: ps, n, 0, p, h => by simp at h; subst h; simp [enum]
  | q :: ps, n, d + 1, p, h => by
    simp only [List.getElem?_cons_succ] at h
    simp only [enum]
    exact List.mem_cons_of_mem _ (by rw [show n + (d + 1) = n + 1 + d from by omega]; exact enum_mem h)

/-- A function's state at its entry. -/
def initSt (ps : List PV) (bx : List (Tg × List PV)) : St := ⟨enum 0 ps, bx⟩

/-- THE WIDE CONTRACT of a function: handed rows and boxes of the caller's, which are given up to it; the boxes are given back (by their names), the result's rows are named anew. -/
def EvG (P : Program) (f : FuncId) (ps : List PV) (bx : List (Tg × List PV)) (r : PV) (bx' : List (Tg × List PV)) : Prop :=
  Enters P f ∧ ∀ (E : Env) (w : World) (vs : Array Value), Valid E w → StR E w (initSt ps bx) vs → vs.size = ps.length →
    Calls P f vs w fun e w' => ∃ v E', e = .returned v ∧ Valid E' w' ∧ StR E' w' ⟨[(0, r)], bx'⟩ #[v] ∧ Step E w E' w'

/-- Rows that are handed over: what leads to them is forgotten. -/
def killG (gs : List Tg) : PV → PV
  | .sl u sz off es => if u ∈ gs then .unk else .sl u sz off es
  | .ep u sz i f e => if u ∈ gs then .unk else .ep u sz i f e
  | p => p

def dropB (gs : List Tg) : List (Tg × List PV) → List (Tg × List PV)
  | [] => []
  | (k, cs) :: r => if k ∈ gs then dropB gs r else (k, cs) :: dropB gs r

theorem mem_dropB {gs : List Tg} {k : Tg} {cs : List PV} : ∀ {l : List (Tg × List PV)}, (k, cs) ∈ dropB gs l → k ∉ gs ∧ (k, cs) ∈ l
  | [], h => by simp [dropB] at h
  | (e, x) :: r, h => by
    simp only [dropB] at h
    split at h
    · have := mem_dropB h; exact ⟨this.1, List.mem_cons_of_mem _ this.2⟩
    · rename_i he
      rcases List.mem_cons.1 h with h | h
      · cases h; exact ⟨he, by simp⟩
      · have := mem_dropB h; exact ⟨this.1, List.mem_cons_of_mem _ this.2⟩

/-- The callee's names in the caller. -/
def sgT (ρ : List (Tg × Tg)) (n : Nat) : Tg → Tg
  | .up u => (lookT (.up u) ρ).getD (.up u)
  | .s j => .s (16 * n + j)
  | t => t
def sgF (ρ : List (Tg × Tg)) (n : Nat) : PV → PV
  | .sl t sz off es => .sl (sgT ρ n t) sz off es
  | .ptr k o => .ptr (sgT ρ n k) o
  | .ep t sz i f e => .ep (sgT ρ n t) sz i f e
  | p => p

def Tg.isS : Tg → Bool
  | .s j => decide (j < 15)
  | _ => false

def okB (ρ : List (Tg × Tg)) (k : Tg) : Bool := k.isS || (k.isUp && (lookT k ρ).isSome)

mutual
/-- What comes back leads to new rows, to new boxes, and to boxes that were handed in. -/
def PV.gok (ρ : List (Tg × Tg)) : PV → Bool
  | .sl t _ _ _ => t.isS
  | .ptr k _ => okB ρ k
  | .ep t _ _ _ _ => t.isS
  | .agg cs => PV.gokL ρ cs
  | .clo _ a b => PV.gokL ρ a && PV.gokL ρ b
  | .ifc _ x => x.gok ρ
  | .tup vs => PV.gokL ρ vs
  | _ => true
def PV.gokL (ρ : List (Tg × Tg)) : List PV → Bool
  | [] => true
  | x :: xs => x.gok ρ && PV.gokL ρ xs
end

def gokB (ρ : List (Tg × Tg)) : List (Tg × List PV) → Bool
  | [] => true
  | (k, cs) :: r => okB ρ k && PV.gokL ρ cs && gokB ρ r
def tagsB : List (Tg × List PV) → List Tg
  | [] => []
  | (k, cs) :: r => k :: (PV.tagsL cs ++ tagsB r)
def sgB (ρ : List (Tg × Tg)) (n : Nat) : List (Tg × List PV) → List (Tg × List PV)
  | [] => []
  | (k, cs) :: r => (sgT ρ n k, PV.mapTL (sgF ρ n) cs) :: sgB ρ n r

theorem mem_sgB {ρ : List (Tg × Tg)} {n : Nat} {k : Tg} {cs : List PV} : ∀ {l : List (Tg × List PV)}, (k, cs) ∈ sgB ρ n l → ∃ k' cs', (k', cs') ∈ l ∧ k = sgT ρ n k' ∧ cs = PV.mapTL (sgF ρ n) cs'
  | [], h => by simp [sgB] at h
  | (e, x) :: r, h => by
    simp only [sgB] at h
    rcases List.mem_cons.1 h with h | h
    · cases h; exact ⟨e, x, by simp, rfl, rfl⟩
    · obtain ⟨k', cs', h1, h2⟩ := mem_sgB h; exact ⟨k', cs', List.mem_cons_of_mem _ h1, h2⟩
theorem gokB_mem {ρ : List (Tg × Tg)} {k : Tg} {cs : List PV} : ∀ {l : List (Tg × List PV)}, gokB ρ l = true → (k, cs) ∈ l → okB ρ k = true ∧ PV.gokL ρ cs = true
  | [], _, h => by simp at h
  | (e, x) :: r, hg, h => by
    simp only [gokB, Bool.and_eq_true] at hg
    rcases List.mem_cons.1 h with h | h
    · cases h; exact hg.1
    · exact gokB_mem hg.2 h
theorem tagsB_mem {k : Tg} {cs : List PV} : ∀ {l : List (Tg × List PV)}, (k, cs) ∈ l → k ∈ tagsB l ∧ ∀ t ∈ PV.tagsL cs, t ∈ tagsB l
  | [], h => by simp at h
  | (e, x) :: r, h => by
    simp only [tagsB]
    rcases List.mem_cons.1 h with h | h
    · cases h; exact ⟨by simp, fun t ht => by simp [ht]⟩
    · obtain ⟨h1, h2⟩ := tagsB_mem h
      exact ⟨by simp [h1], fun t ht => by simp [h2 t ht]⟩

/-- The state behind a call that was handed ρ's rows and boxes. -/
def St.give (st : St) (ρ : List (Tg × Tg)) (n : Nat) (bx' : List (Tg × List PV)) : St :=
  ⟨mapLT (killG (ρ.map Prod.snd)) st.tm, sgB ρ n bx' ++ dropB (ρ.map Prod.snd) (mapLB (killG (ρ.map Prod.snd)) st.bx)⟩

/-- Rows are handed by plain names, boxes by pinned ones. -/
def gvR (ρ : List (Tg × Tg)) : Nm := fun t => if t.isUp then none else lookT t ρ
def gvB (ρ : List (Tg × Tg)) : Nm := fun t => if t.isUp then lookT t ρ else none

def Env.give (E E' : Env) (n : Nat) (ts gs : List Tg) (pr : Nat → Prop) : Env :=
  ⟨fun t => match t with
    | .s m => if 16 * n ≤ m ∧ .s (m - 16 * n) ∈ ts then E'.row (.s (m - 16 * n)) else if .s m ∈ gs then none else E.row (.s m)
    | t => if t ∈ gs then none else E.row t,
   fun t => match t with
    | .s m => if 16 * n ≤ m ∧ .s (m - 16 * n) ∈ ts then E'.box (.s (m - 16 * n)) else E.box (.s m)
    | t => E.box t, pr⟩

section
variable {P : Program} {E : Env} {w : World} {st : St} {tmps : Array Value}

theorem gvR_inj {ρ : List (Tg × Tg)} (hn : (ρ.map Prod.snd).Nodup) : InjN (gvR ρ) := by
  intro t u s h1 h2
  unfold gvR at h1 h2
  split at h1 <;> split at h2 <;> first | (cases h1; done) | (cases h2; done) | exact lookT_inj hn _ _ _ h1 h2
theorem gvB_inj {ρ : List (Tg × Tg)} (hn : (ρ.map Prod.snd).Nodup) : InjN (gvB ρ) := by
  intro t u s h1 h2
  unfold gvB at h1 h2
  split at h1 <;> split at h2 <;> first | (cases h1; done) | (cases h2; done) | exact lookT_inj hn _ _ _ h1 h2

theorem gv_row {ρ : List (Tg × Tg)} {pr : Nat → Prop} {t : Tg} {r : Nat × Nat} (h : (⟨(E.re (gvR ρ) (gvB ρ)).row, (E.re (gvR ρ) (gvB ρ)).box, pr⟩ : Env).row t = some r) : ∃ s, s ∈ ρ.map Prod.snd ∧ E.row s = some r := by
  obtain ⟨s, h1, h2⟩ := re_row (E := E) (ρ := gvR ρ) (β := gvB ρ) h
  refine ⟨s, ?_, h2⟩
  unfold gvR at h1
  split at h1
  · cases h1
  · exact List.mem_map_of_mem (f := Prod.snd) (lookT_mem h1)
theorem gv_box {ρ : List (Tg × Tg)} {pr : Nat → Prop} {t : Tg} {b : Nat} (h : (⟨(E.re (gvR ρ) (gvB ρ)).row, (E.re (gvR ρ) (gvB ρ)).box, pr⟩ : Env).box t = some b) : ∃ s u, t = .up u ∧ s ∈ ρ.map Prod.snd ∧ E.box s = some b := by
  obtain ⟨s, h1, h2⟩ := re_box (E := E) (ρ := gvR ρ) (β := gvB ρ) h
  unfold gvB at h1
  split at h1
  · rename_i hu
    cases t with
    | up u => exact ⟨s, u, rfl, List.mem_map_of_mem (f := Prod.snd) (lookT_mem h1), h2⟩
    | _ => simp [Tg.isUp] at hu
  · cases h1

mutual
theorem sg_R {E1 E2 : Env} {w : World} {ρ : List (Tg × Tg)} {n : Nat} {ts : List Tg} (hp : E2.prot = E1.prot) (hr : ∀ j r, .s j ∈ ts → E1.row (.s j) = some r → E2.row (.s (16 * n + j)) = some r)
    (hb : ∀ k b, okB ρ k = true → (k.isS = true → k ∈ ts) → E1.box k = some b → E2.box (sgT ρ n k) = some b) :
    ∀ (p : PV) (v : Value), p.gok ρ = true → (∀ t ∈ p.tags, t ∈ ts) → VR E1 w p v → VR E2 w (p.mapT (sgF ρ n)) v
  | .unk, v, hk, ht, h => by simp only [VR, PV.mapT]
  | .d x, v, hk, ht, h => by simp only [VR, PV.mapT] at h ⊢; rw [hp]; exact h
  | .nils, v, hk, ht, h => by simpa only [VR, PV.mapT] using h
  | .sl t sz off es, v, hk, ht, h => by
    cases t with
    | s j =>
      simp only [PV.mapT, sgF, sgT]
      simp only [VR] at h ⊢
      rcases h with h | ⟨b, o, cap, c, el, fr, vs, h1, h2, h3, h4, h0, h5, h6, h7, h8⟩
      · exact .inl h
      · exact .inr ⟨b, o, cap, c, el, fr, vs, hr j _ (ht _ (by simp [PV.tags])) h1, h2, h3, h4, h0, h5, h6, h7, by rw [hp]; exact h8⟩
    | _ => simp [PV.gok, Tg.isS] at hk
  | .ptr k o, v, hk, ht, h => by
    simp only [PV.gok] at hk
    simp only [PV.mapT, sgF]
    simp only [VR] at h ⊢
    obtain ⟨b, h1, h2⟩ := h
    exact ⟨b, hb k b hk (fun _ => ht _ (by simp [PV.tags])) h1, h2⟩
  | .ep t sz i f e, v, hk, ht, h => by
    cases t with
    | s j =>
      simp only [PV.mapT, sgF, sgT]
      simp only [VR] at h ⊢
      obtain ⟨b, o, c, el, fr, h1, h2, h3, hf, h4, h5⟩ := h
      exact ⟨b, o, c, el, fr, hr j _ (ht _ (by simp [PV.tags])) h1, h2, h3, hf, h4, by rw [hp]; exact h5⟩
    | _ => simp [PV.gok, Tg.isS] at hk
  | .agg cs, v, hk, ht, h => by
    simp only [PV.gok] at hk
    simp only [VR, PV.mapT] at h ⊢
    obtain ⟨arr, h1, h0, h2⟩ := h
    exact ⟨arr, h1, h0, sgs_R hp hr hb cs _ hk (by simpa only [PV.tags] using ht) h2⟩
  | .clo fn a b, v, hk, ht, h => by
    simp only [PV.gok, Bool.and_eq_true] at hk
    simp only [VR, PV.mapT] at h ⊢
    obtain ⟨fa, fb, h1, h2, h3⟩ := h
    exact ⟨fa, fb, h1, sgs_R hp hr hb a _ hk.1 (fun t h => ht t (by simp [PV.tags, h])) h2, sgs_R hp hr hb b _ hk.2 (fun t h => ht t (by simp [PV.tags, h])) h3⟩
  | .ifc t x, v, hk, ht, h => by
    simp only [PV.gok] at hk
    simp only [VR, PV.mapT] at h ⊢
    obtain ⟨u, h1, h2⟩ := h
    exact ⟨u, h1, sg_R hp hr hb x u hk (by simpa only [PV.tags] using ht) h2⟩
  | .tup xs, v, hk, ht, h => by
    simp only [PV.gok] at hk
    simp only [VR, PV.mapT] at h ⊢
    obtain ⟨arr, h1, h2⟩ := h
    exact ⟨arr, h1, sgs_R hp hr hb xs _ hk (by simpa only [PV.tags] using ht) h2⟩
theorem sgs_R {E1 E2 : Env} {w : World} {ρ : List (Tg × Tg)} {n : Nat} {ts : List Tg} (hp : E2.prot = E1.prot) (hr : ∀ j r, .s j ∈ ts → E1.row (.s j) = some r → E2.row (.s (16 * n + j)) = some r)
    (hb : ∀ k b, okB ρ k = true → (k.isS = true → k ∈ ts) → E1.box k = some b → E2.box (sgT ρ n k) = some b) :
    ∀ (ps : List PV) (vs : List Value), PV.gokL ρ ps = true → (∀ t ∈ PV.tagsL ps, t ∈ ts) → VRs E1 w ps vs → VRs E2 w (PV.mapTL (sgF ρ n) ps) vs
  | [], vs, hk, ht, h => by simpa only [VRs, PV.mapTL] using h
  | x :: xs, vs, hk, ht, h => by
    simp only [PV.gokL, Bool.and_eq_true] at hk
    simp only [VRs, PV.mapTL] at h ⊢
    obtain ⟨u, us, h1, h2, h3⟩ := h
    exact ⟨u, us, h1, sg_R hp hr hb x u hk.1 (fun t h => ht t (by simp [PV.tagsL, h])) h2, sgs_R hp hr hb xs us hk.2 (fun t h => ht t (by simp [PV.tagsL, h])) h3⟩
end

theorem give_ok {w' : World} {E' : Env} {n : Nat} {ρ : List (Tg × Tg)} {ts : List Tg} {pr1 pr2 : Nat → Prop} {bx' : List (Tg × List PV)} (hv : Valid E w) (hs : StR E w st tmps)
    (hn : ∀ j, .s j ∈ ts → E.row (.s (16 * n + j)) = none ∧ E.box (.s (16 * n + j)) = none)
    (hin : ∀ u s, lookT (.up u) ρ = some s → ∃ b, E.box s = some b)
    (h1 : Valid E' w') (hst : Step ⟨(E.re (gvR ρ) (gvB ρ)).row, (E.re (gvR ρ) (gvB ρ)).box, pr1⟩ w E' w') (hp0 : ∀ b, E.prot b → pr2 b) (hp3 : ∀ b, E.prot b → E'.prot b)
    (hp1 : ∀ b, pr2 b → E.prot b ∨ (E'.prot b ∧ (Own ⟨(E.re (gvR ρ) (gvB ρ)).row, (E.re (gvR ρ) (gvB ρ)).box, pr1⟩ b ∨ w.heap.size ≤ b)))
    (hg : gokB ρ bx' = true) (hts : ∀ t ∈ tagsB bx', t ∈ ts) (hbx : StR ⟨E'.row, E'.box, pr2⟩ w' ⟨[], bx'⟩ #[]) :
    Valid (E.give E' n ts (ρ.map Prod.snd) pr2) w' ∧ StR (E.give E' n ts (ρ.map Prod.snd) pr2) w' (st.give ρ n bx') tmps ∧ Step E w (E.give E' n ts (ρ.map Prod.snd) pr2) w' ∧
      (∀ p v, p.gok ρ = true → (∀ t ∈ p.tags, t ∈ ts) → VR ⟨E'.row, E'.box, pr2⟩ w' p v → VR (E.give E' n ts (ρ.map Prod.snd) pr2) w' (p.mapT (sgF ρ n)) v) := by
  generalize hE1 : (⟨(E.re (gvR ρ) (gvB ρ)).row, (E.re (gvR ρ) (gvB ρ)).box, pr1⟩ : Env) = E1 at *
  have own1 : ∀ b, Own E1 b → (∃ s o, s ∈ ρ.map Prod.snd ∧ E.row s = some (b, o)) ∨ (∃ s u, s ∈ ρ.map Prod.snd ∧ E.box s = some b ∧ E'.box (.up u) = some b) := by
    rintro b (⟨t, o, h⟩ | ⟨k, h⟩)
    · subst hE1; obtain ⟨s, h2, h3⟩ := gv_row h; exact .inl ⟨s, o, h2, h3⟩
    · have hk := h
      subst hE1; obtain ⟨s, u, rfl, h2, h3⟩ := gv_box h
      exact .inr ⟨s, u, h2, h3, hst.pin _ _ hk⟩
  have ownE : ∀ b, Own E1 b → Own E b := fun b h => (own1 b h).elim (fun ⟨s, o, _, h⟩ => .inl ⟨s, o, h⟩) (fun ⟨s, u, _, h, _⟩ => .inr ⟨s, h⟩)
  have own' : ∀ b, Own E' b → Own E1 b ∨ w.heap.size ≤ b := hst.own
  have hsz : w.heap.size ≤ w'.heap.size := hst.size
  have blk : ∀ b, b < w.heap.size → ¬ Own E1 b → w'.heap[b]? = w.heap[b]? := hst.frame
  -- rows and boxes of the new environment
  have hrow : ∀ t b o, (E.give E' n ts (ρ.map Prod.snd) pr2).row t = some (b, o) → (∃ j, .s j ∈ ts ∧ t = .s (16 * n + j) ∧ E'.row (.s j) = some (b, o)) ∨ (t ∉ ρ.map Prod.snd ∧ E.row t = some (b, o)) := by
    intro t b o h
    simp only [Env.give] at h
    split at h
    · rename_i m
      split at h
      · rename_i hm; exact .inl ⟨m - 16 * n, hm.2, by congr 1; omega, h⟩
      · split at h
        · cases h
        · rename_i hm; exact .inr ⟨hm, h⟩
    · split at h
      · cases h
      · rename_i hm; exact .inr ⟨hm, h⟩
  have hbox : ∀ t b, (E.give E' n ts (ρ.map Prod.snd) pr2).box t = some b → (∃ j, .s j ∈ ts ∧ t = .s (16 * n + j) ∧ E'.box (.s j) = some b) ∨ E.box t = some b := by
    intro t b h
    simp only [Env.give] at h
    split at h
    · rename_i m
      split at h
      · rename_i hm; exact .inl ⟨m - 16 * n, hm.2, by congr 1; omega, h⟩
      · exact .inr h
    · exact .inr h
  have nrow : ∀ j, .s j ∈ ts → (E.give E' n ts (ρ.map Prod.snd) pr2).row (.s (16 * n + j)) = E'.row (.s j) := by
    intro j hj
    simp only [Env.give]
    rw [if_pos ⟨by omega, by rw [Nat.add_sub_cancel_left]; exact hj⟩, Nat.add_sub_cancel_left]
  have nbox : ∀ j, .s j ∈ ts → (E.give E' n ts (ρ.map Prod.snd) pr2).box (.s (16 * n + j)) = E'.box (.s j) := by
    intro j hj
    simp only [Env.give]
    rw [if_pos ⟨by omega, by rw [Nat.add_sub_cancel_left]; exact hj⟩, Nat.add_sub_cancel_left]
  have orow : ∀ t r, t ∉ ρ.map Prod.snd → E.row t = some r → (E.give E' n ts (ρ.map Prod.snd) pr2).row t = some r := by
    intro t r ht hr
    simp only [Env.give]
    split
    · rename_i m
      split
      · rename_i hm
        have := (hn _ hm.2).1
        rw [show 16 * n + (m - 16 * n) = m by omega] at this
        rw [this] at hr; cases hr
      · first | exact hr | (rw [if_neg ht]; exact hr)
    · first | exact hr | (rw [if_neg ht]; exact hr)
  have obox : ∀ t b, E.box t = some b → (E.give E' n ts (ρ.map Prod.snd) pr2).box t = some b := by
    intro t b hb
    simp only [Env.give]
    split
    · rename_i m
      split
      · rename_i hm
        have := (hn _ hm.2).2
        rw [show 16 * n + (m - 16 * n) = m by omega] at this
        rw [this] at hb; cases hb
      · exact hb
    · exact hb
  -- what is not handed over stays
  have stayR : ∀ t b o, t ∉ ρ.map Prod.snd → E.row t = some (b, o) → ¬ Own E1 b ∧ b < w.heap.size := by
    intro t b o ht hr
    refine ⟨fun ho => ?_, (hv.row_lt _ _ _ hr).1⟩
    rcases own1 b ho with ⟨s, o', h2, h3⟩ | ⟨s, u, h2, h3, _⟩
    · have := hv.row_row _ _ _ _ _ hr h3; subst this; exact ht h2
    · exact hv.row_box _ _ _ _ hr h3
  have stayB : ∀ k b, k ∉ ρ.map Prod.snd → E.box k = some b → ¬ Own E1 b ∧ b < w.heap.size := by
    intro k b hk hb
    refine ⟨fun ho => ?_, (hv.box_lt _ _ hb).1⟩
    rcases own1 b ho with ⟨s, o', h2, h3⟩ | ⟨s, u, h2, h3, _⟩
    · exact hv.row_box _ _ _ _ h3 hb
    · have := hv.box_box _ _ _ hb h3; subst this; exact hk h2
  have stayP : ∀ b, E.prot b → w'.heap[b]? = w.heap[b]? := fun b hb => blk b (hv.prot_lt b hb) (fun ho => (hv.own_lt (ownE b ho)).2 hb)
  have valid : Valid (E.give E' n ts (ρ.map Prod.snd) pr2) w' := by
    refine ⟨fun t b o h => ?_, fun k b h => ?_, fun t u b o o' ht hu => ?_, fun t u b ht hu => ?_, fun t k b o ht hk => ?_, fun b h => ?_⟩
    · rcases hrow t b o h with ⟨j, hj, rfl, h2⟩ | ⟨h2, h3⟩
      · obtain ⟨g1, g2⟩ := h1.row_lt _ _ _ h2
        exact ⟨g1, fun hpr => (hp1 b hpr).elim (fun h => g2 (hp3 b h)) (fun h => g2 h.1)⟩
      · obtain ⟨g1, g2⟩ := stayR t b o h2 h3
        refine ⟨Nat.lt_of_lt_of_le g2 hsz, fun hpr => ?_⟩
        rcases hp1 b hpr with h4 | ⟨_, h4 | h4⟩
        · exact (hv.row_lt _ _ _ h3).2 h4
        · exact g1 h4
        · omega
    · rcases hbox k b h with ⟨j, hj, rfl, h2⟩ | h3
      · obtain ⟨g1, g2⟩ := h1.box_lt _ _ h2
        exact ⟨g1, fun hpr => (hp1 b hpr).elim (fun h => g2 (hp3 b h)) (fun h => g2 h.1)⟩
      · refine ⟨Nat.lt_of_lt_of_le (hv.box_lt _ _ h3).1 hsz, fun hpr => ?_⟩
        rcases hp1 b hpr with h4 | ⟨h5, h4 | h4⟩
        · exact (hv.box_lt _ _ h3).2 h4
        · rcases own1 b h4 with ⟨s, o', h6, h7⟩ | ⟨s, u, h6, h7, h8⟩
          · exact hv.row_box _ _ _ _ h7 h3
          · exact (h1.box_lt _ _ h8).2 h5
        · have := (hv.box_lt _ _ h3).1; omega
    · rcases hrow t b o ht with ⟨j, hj, rfl, h2⟩ | ⟨h2, h3⟩ <;> rcases hrow u b o' hu with ⟨j', hj', rfl, h2'⟩ | ⟨h2', h3'⟩
      · have := h1.row_row _ _ _ _ _ h2 h2'; cases this; rfl
      · obtain ⟨g1, g2⟩ := stayR _ _ _ h2' h3'
        rcases own' b (.inl ⟨_, _, h2⟩) with h | h
        · exact absurd h g1
        · omega
      · obtain ⟨g1, g2⟩ := stayR _ _ _ h2 h3
        rcases own' b (.inl ⟨_, _, h2'⟩) with h | h
        · exact absurd h g1
        · omega
      · exact hv.row_row _ _ _ _ _ h3 h3'
    · have mix : ∀ j k b, E'.box (.s j) = some b → E.box k = some b → False := by
        intro j k b h2 h3
        have hlt := (hv.box_lt _ _ h3).1
        rcases own' b (.inr ⟨_, h2⟩) with h | h
        · rcases own1 b h with ⟨s, o', h6, h7⟩ | ⟨s, u, h6, h7, h8⟩
          · exact hv.row_box _ _ _ _ h7 h3
          · have := h1.box_box _ _ _ h2 h8; cases this
        · omega
      rcases hbox t b ht with ⟨j, hj, rfl, h2⟩ | h3 <;> rcases hbox u b hu with ⟨j', hj', rfl, h2'⟩ | h3'
      · have := h1.box_box _ _ _ h2 h2'; cases this; rfl
      · exact (mix _ _ _ h2 h3').elim
      · exact (mix _ _ _ h2' h3).elim
      · exact hv.box_box _ _ _ h3 h3'
    · rcases hrow t b o ht with ⟨j, hj, rfl, h2⟩ | ⟨h2, h3⟩ <;> rcases hbox k b hk with ⟨j', hj', rfl, h2'⟩ | h3'
      · exact h1.row_box _ _ _ _ h2 h2'
      · have hlt := (hv.box_lt _ _ h3').1
        rcases own' b (.inl ⟨_, _, h2⟩) with h | h
        · rcases own1 b h with ⟨s, o', h6, h7⟩ | ⟨s, u, h6, h7, h8⟩
          · exact hv.row_box _ _ _ _ h7 h3'
          · exact h1.row_box _ _ _ _ h2 h8
        · omega
      · obtain ⟨g1, g2⟩ := stayR _ _ _ h2 h3
        rcases own' b (.inr ⟨_, h2'⟩) with h | h
        · exact g1 h
        · omega
      · exact hv.row_box _ _ _ _ h3 h3'
    · rcases hp1 b h with h4 | h4
      · exact Nat.lt_of_lt_of_le (hv.prot_lt b h4) hsz
      · exact h1.prot_lt b h4.1
  have step : Step E w (E.give E' n ts (ρ.map Prod.snd) pr2) w' := by
    refine ⟨hst.os, hst.tape, hst.output, hsz, fun b h ho => blk b h (fun h => ho (ownE b h)), fun b h => ?_, hp0, fun b h => ?_, fun t b h => ?_⟩
    · rcases h with ⟨t, o, h⟩ | ⟨k, h⟩
      · rcases hrow t b o h with ⟨j, hj, rfl, h2⟩ | ⟨h2, h3⟩
        · exact (own' b (.inl ⟨_, _, h2⟩)).imp (ownE b) id
        · exact .inl (.inl ⟨t, o, h3⟩)
      · rcases hbox k b h with ⟨j, hj, rfl, h2⟩ | h3
        · exact (own' b (.inr ⟨_, h2⟩)).imp (ownE b) id
        · exact .inl (.inr ⟨k, h3⟩)
    · rcases hp1 b h with h4 | ⟨_, h4 | h4⟩
      · exact .inl h4
      · exact .inr (.inl (ownE b h4))
      · exact .inr (.inr h4)
    · exact obox _ _ h
  have leaf : ∀ p v, p.leaf = true → VR E w p v → VR (E.give E' n ts (ρ.map Prod.snd) pr2) w' (killG (ρ.map Prod.snd) p) v := by
    intro p v hl h
    have hk : ∀ u, u ∉ ρ.map Prod.snd → Keeps E (E.give E' n ts (ρ.map Prod.snd) pr2) w w' [u] := fun u hu =>
      ⟨hp0, stayP, fun x hx r hr => by
        simp at hx; subst hx
        obtain ⟨g1, g2⟩ := stayR x r.1 r.2 hu hr
        exact ⟨orow _ _ hu hr, blk _ g2 g1⟩, fun x hx b hb => obox _ _ hb⟩
    cases p with
    | sl u sz off es =>
      simp only [killG]; split
      · simp [VR]
      · rename_i hu; exact VR.keep _ _ (hk u hu) h
    | ptr u o =>
      simp only [killG, VR] at h ⊢
      obtain ⟨b, g1, g2⟩ := h
      exact ⟨b, obox _ _ g1, g2⟩
    | ep u sz i f e =>
      simp only [killG]; split
      · simp [VR]
      · rename_i hu; exact VR.keep _ _ (hk u hu) h
    | _ => simp [PV.leaf] at hl
  have newB : ∀ k b, okB ρ k = true → (k.isS = true → k ∈ ts) → E'.box k = some b → (E.give E' n ts (ρ.map Prod.snd) pr2).box (sgT ρ n k) = some b := by
    intro k b hk hkt hb
    simp only [okB, Bool.or_eq_true, Bool.and_eq_true] at hk
    cases k with
    | s j => simp only [sgT]; rw [nbox j (hkt (hk.resolve_right (by simp [Tg.isUp])))]; exact hb
    | h j => simp [Tg.isS, Tg.isUp] at hk
    | up u =>
      have hk' := (hk.resolve_left (by simp [Tg.isS])).2
      obtain ⟨s, hs'⟩ := Option.isSome_iff_exists.1 hk'
      simp only [sgT, hs', Option.getD_some]
      -- the box that was handed in is where it was
      obtain ⟨b0, hbs⟩ := hin u s hs'
      have h2 : E1.box (.up u) = some b0 := by
        subst hE1
        simp only [Env.re, gvB, Tg.isUp, if_true, hs', Option.bind_some]; exact hbs
      have := hst.pin _ _ h2
      rw [hb] at this; cases this
      exact obox _ _ hbs
  have resR : ∀ p v, p.gok ρ = true → (∀ t ∈ p.tags, t ∈ ts) → VR ⟨E'.row, E'.box, pr2⟩ w' p v → VR (E.give E' n ts (ρ.map Prod.snd) pr2) w' (p.mapT (sgF ρ n)) v :=
    sg_R (E1 := ⟨E'.row, E'.box, pr2⟩) rfl (fun j r hj hr => by rw [nrow j hj]; exact hr) newB
  refine ⟨valid, ⟨fun d v hm => ?_, fun k cs hm => ?_⟩, step, resR⟩
  · obtain ⟨u, g1, rfl⟩ := mem_mapLT hm
    obtain ⟨x, g2, g3⟩ := hs.tm d u g1
    exact ⟨x, g2, VR.map hp0 stayP leaf u x g3⟩
  · simp only [St.give] at hm
    rcases List.mem_append.1 hm with hm | hm
    · obtain ⟨k', cs', g1, rfl, rfl⟩ := mem_sgB hm
      obtain ⟨g2, g3⟩ := gokB_mem hg g1
      obtain ⟨b, c, el, fr, k1, k2, k3, k4, k5⟩ := hbx.bx k' cs' g1
      obtain ⟨k6, k7⟩ := tagsB_mem g1
      refine ⟨b, c, el, fr, newB k' b g2 (fun _ => hts _ k6) k1, k2, k3, k4, ?_⟩
      exact sgs_R (E1 := ⟨E'.row, E'.box, pr2⟩) (E2 := E.give E' n ts (ρ.map Prod.snd) pr2) rfl (fun j r hj hr => by rw [nrow j hj]; exact hr) newB cs' _ g3 (fun t ht => hts _ (k7 t ht)) k5
    · obtain ⟨hne, hm⟩ := mem_dropB hm
      obtain ⟨u, g1, rfl⟩ := mem_mapLB hm
      obtain ⟨b, c, el, fr, k1, k2, k3, k4, k5⟩ := hs.bx k u g1
      obtain ⟨g2, g3⟩ := stayB k b hne k1
      exact ⟨b, c, el, fr, obox _ _ k1, by rw [blk b g3 g2]; exact k2, k3, k4, VRs.map hp0 stayP leaf u _ k5⟩

end
end Go.Proofs.Ytaghpancpfpnhaa.Abs
