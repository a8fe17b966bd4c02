import Derived.Test.YtkempedphjopmaaMachG
set_option linter.unusedVariables false
set_option linter.unusedSimpArgs false
set_option linter.unnecessarySimpa false
namespace Go.Mach
open Go.RowKit

section
variable {P : Program}
theorem run_sizeT {t : TypeId} {s : Nat} (h : sizeT P t = some s) (w : World) : (sizeOf t).run P w = .ok s w := by
  obtain ⟨i, hi, rfl⟩ := Option.map_eq_some_iff.1 h
  simp [sizeOf, typeInfo, hi]
theorem run_und {t : TypeId} {d : TypeDesc} (h : P.underlying t = some d) (w : World) : (underlying t).run P w = .ok d w := by simp [underlying, h]
theorem run_aggT {t : TypeId} {b : Bool} (h : aggT P t = some b) (w : World) : (isAgg t).run P w = .ok b w := by
  unfold aggT at h
  split at h
  · rename_i f he; injection h with h; subst h; simp [isAgg, run_und he]
  · rename_i n f he; injection h with h; subst h; simp [isAgg, run_und he]
  · rename_i d h1 h2 he
    injection h with h; subst h
    simp only [isAgg, Sem.run_bind, run_und he, Result.andThen_ok]
    rfl
  · cases h
theorem run_zeroT {t : TypeId} {zs : List AV} (h : zeroT P t = some zs) : ∃ z, (∀ w, (zeroValue t).run P w = .ok z w) ∧ zs.length = z.cells.size ∧
    ∀ (g : Gh) (i : Nat) x, zs[i]? = some x → x.cellv = true ∧ ∃ v, z.cells[i]? = some v ∧ VR g x v := by
  obtain ⟨z, hz, hm⟩ := Option.bind_eq_some_iff.1 h
  obtain ⟨i, hi, hz'⟩ := Option.bind_eq_some_iff.1 hz
  refine ⟨z, fun w => by simp [zeroValue, typeInfo, hi, hz'], ?_, fun g i x hx => ?_⟩
  · have := (mapM_cV1 (g := ⟨fun _ => none, fun _ _ => none, fun _ _ => none⟩) hm).1; simpa using this
  · obtain ⟨hl, hv⟩ := mapM_cV1 (g := g) hm
    have hlt : i < z.cells.size := by have := (List.getElem?_eq_some_iff.1 hx).1; rw [hl] at this; simpa using this
    have := hv i x z.cells[i] hx (by simp [hlt])
    exact ⟨this.2, _, by simp [hlt], this.1⟩

/-! ### Reading -/
/-- From p on the block's cells hold these. -/
def Rd (g : Gh) (w : World) (b p : Nat) (cs : List AV) : Prop := ∀ (i : Nat) x, cs[i]? = some x → x.cellv = true ∧ ∃ v, w.cell? ⟨b, p + i, none⟩ = some v ∧ VR g x v
theorem clo1_cellv {x : AV} (h : x.clo1 = true) : x.cellv = true := by cases x <;> first | rfl | simp [AV.clo1] at h
theorem Rd.cel {g ow σ w} (h : HR g ow σ w) {id cs fz ext b c} (hσ : σ[id]? = some (.cells cs fz ext)) (hp : g.φ id = some (b, c)) : Rd g w b 0 cs := fun i x hx => by
  obtain ⟨cv, tag, fr, k0, k1, k2, k3, k4, k5, k6⟩ := h.cel id cs fz ext hσ b c hp
  obtain ⟨a, v, hv, hV⟩ := k4 i x hx
  exact ⟨a, v, by rw [Nat.zero_add, cell_heap k0]; exact hv, hV⟩
theorem Rd.win {g w b p cs} (h : Rd g w b p cs) {off n : Nat} {win : List AV} (hw : window cs off n = some win) : Rd g w b (p + off) win ∧ win.length = n := by
  unfold window at hw; split at hw
  · rename_i hle
    injection hw with hw; subst hw
    refine ⟨fun i x hx => ?_, by rw [List.length_take, List.length_drop]; omega⟩
    rw [List.getElem?_take] at hx
    split at hx
    · rw [List.getElem?_drop] at hx
      rw [Nat.add_assoc]; exact h _ _ hx
    · cases hx
  · cases hw
theorem addr_add (b o j : Nat) : (⟨b, o, none⟩ : Addr).add j = ⟨b, o + j, none⟩ := by unfold Addr.add; split <;> simp_all
/-- The values in memory. -/
theorem Rd.vals {g w b p cs} (h : Rd g w b p cs) : ∃ us : List Value, us.length = cs.length ∧ (∀ j u, us[j]? = some u → w.cell? ((⟨b, p, none⟩ : Addr).add j) = some u) ∧
    (∀ (j : Nat) x, cs[j]? = some x → x.cellv = true ∧ ∃ u, us[j]? = some u ∧ VR g x u) := by
  refine ⟨(List.range cs.length).map fun j => (w.cell? ⟨b, p + j, none⟩).getD Go.undef, by simp, fun j u hu => ?_, fun j x hx => ?_⟩
  · rw [List.getElem?_map] at hu
    obtain ⟨k, hk, rfl⟩ := Option.map_eq_some_iff.1 hu
    have hk' := List.getElem?_eq_some_iff.1 hk
    obtain ⟨hl, e⟩ := hk'
    simp at hl e; subst e
    obtain ⟨_, v, hv, _⟩ := h j _ (List.getElem?_eq_getElem hl)
    rw [addr_add, hv]; rfl
  · obtain ⟨a, v, hv, hV⟩ := h j x hx
    have hl := (List.getElem?_eq_some_iff.1 hx).1
    exact ⟨a, v, by simp [hl, hv], hV⟩
theorem mk_VR {g : Gh} {ag : Bool} {win : List AV} {v : AV} (hm : mk ag win = some v) {us : List Value} (hl : us.length = win.length)
    (hV : ∀ (j : Nat) x, win[j]? = some x → x.cellv = true ∧ ∃ u, us[j]? = some u ∧ VR g x u) : (ag = true ∧ VR g v (.agg us.toArray)) ∨ (ag = false ∧ ∃ u, us = [u] ∧ win = [v] ∧ v.cellv = true ∧ VR g v u) := by
  unfold mk at hm
  split at hm
  · injection hm with hm; subst hm
    refine .inl ⟨rfl, .agg (by simp [hl]) (fun x hx => ?_) fun i x u hx hu => ?_⟩
    · obtain ⟨i, hi, rfl⟩ := List.getElem_of_mem hx; exact (hV i _ (List.getElem?_eq_getElem hi)).1
    · obtain ⟨_, u', hu', hV'⟩ := hV i x hx
      have : us[i]? = some u := by simpa using hu
      rw [hu'] at this; injection this with this; subst this; exact hV'
  · rename_i x
    injection hm with hm; subst hm
    obtain ⟨a, u, hu, hV'⟩ := hV 0 x rfl
    refine .inr ⟨rfl, u, ?_, rfl, a, hV'⟩
    match us, hl, hu with
    | [y], _, hu => simp at hu; rw [hu]
  · cases hm
theorem run_loadVar {g w b p} {win : List AV} (h : Rd g w b p win) {t : TypeId} {ag : Bool} (hs : sizeT P t = some win.length) (ha : aggT P t = some ag) {v : AV} (hm : mk ag win = some v) :
    ∃ u, (loadVar t ⟨b, p, none⟩).run P w = .ok u w ∧ VR g v u := by
  obtain ⟨us, hl, hc, hV⟩ := h.vals
  rcases mk_VR hm hl hV with ⟨rfl, hV'⟩ | ⟨rfl, u, rfl, hw, _, hV'⟩
  · refine ⟨_, ?_, hV'⟩
    simp [loadVar, run_aggT ha, run_sizeT hs, ← hl, run_loadCells_list (P := P) w _ us hc]
  · refine ⟨u, ?_, hV'⟩
    have := hc 0 u rfl
    rw [addr_add] at this; simp at this
    simp [loadVar, run_aggT ha, this]
theorem loadA_sound {g ow σ w} (h : HR g ow σ w) {t : TypeId} {sz : Nat} {ag : Bool} (hs : sizeT P t = some sz) (ha : aggT P t = some ag) {x v : AV} {cx : Value} (hx : VR g x cx) (hl : loadA σ sz ag x = some v) :
    ∃ u, (Instr.loadAt t cx).run P w = .ok u w ∧ VR g v u := by
  cases hx <;> simp only [loadA] at hl <;> try (cases hl; done)
  · rename_i id off b c hp
    split at hl
    · rename_i cs fz ext hσ
      obtain ⟨win, hw, hm⟩ := Option.bind_eq_some_iff.1 hl
      obtain ⟨hr, hlen⟩ := (Rd.cel h hσ hp).win hw
      rw [Nat.zero_add] at hr
      subst hlen
      obtain ⟨u, hu, hV⟩ := run_loadVar hr hs ha hm
      exact ⟨u, by simp [Instr.loadAt, Instr.sureAddr, hu], hV⟩
    · cases hl
  · rename_i cs off b p vs hc hM hV
    obtain ⟨win, hw, hm⟩ := Option.bind_eq_some_iff.1 hl
    have hrd : Rd g w b p cs := fun i x hx => ⟨clo1_cellv (hc x (List.mem_of_getElem? hx)), vs i, h.mem _ _ _ (hM i x hx), hV i x hx⟩
    obtain ⟨hr, hlen⟩ := hrd.win hw
    subst hlen
    obtain ⟨u, hu, hV⟩ := run_loadVar hr hs ha hm
    exact ⟨u, by simp [Instr.loadAt, Instr.sureAddr, hu], hV⟩

/-! ### Writing -/
def setRunA (cv : Array Value) (o : Nat) : List Value → Array Value
  | [] => cv
  | v :: vs => setRunA (cv.setIfInBounds o v) (o + 1) vs
theorem setRunA_size (vs : List Value) : ∀ (cv : Array Value) (o : Nat), (setRunA cv o vs).size = cv.size := by
  induction vs with
  | nil => intro cv o; rfl
  | cons v vs ih => intro cv o; simp [setRunA, ih]
theorem setRunA_get (vs : List Value) : ∀ (cv : Array Value) (o i : Nat), o + vs.length ≤ cv.size → (setRunA cv o vs)[i]? = if o ≤ i ∧ i < o + vs.length then vs[i - o]? else cv[i]? := by
  induction vs with
  | nil => intro cv o i h; simp [setRunA]; intro h1 h2; omega
  | cons v vs ih =>
    intro cv o i h
    simp only [List.length_cons] at h
    rw [setRunA, ih _ _ _ (by simp; omega)]
    by_cases h1 : o + 1 ≤ i ∧ i < o + 1 + vs.length
    · rw [if_pos h1, if_pos (by simp only [List.length_cons]; omega)]
      obtain ⟨k, rfl⟩ : ∃ k, i = o + 1 + k := ⟨i - (o + 1), by omega⟩
      rw [show o + 1 + k - (o + 1) = k by omega, show o + 1 + k - o = k + 1 by omega]; rfl
    · rw [if_neg h1]
      by_cases h2 : i = o
      · subst h2; rw [if_pos (by simp only [List.length_cons]; omega)]; simp [show i < cv.size by omega]
      · rw [if_neg (by simp only [List.length_cons]; omega), Array.getElem?_setIfInBounds]; simp [Ne.symm h2]
theorem setRun_length (xs : List AV) : ∀ (l : List AV) (o : Nat), (setRun l o xs).length = l.length := by
  induction xs with
  | nil => intro l o; rfl
  | cons v vs ih => intro l o; simp [setRun, ih]
theorem setRun_get (xs : List AV) : ∀ (l : List AV) (o i : Nat), o + xs.length ≤ l.length → (setRun l o xs)[i]? = if o ≤ i ∧ i < o + xs.length then xs[i - o]? else l[i]? := by
  induction xs with
  | nil => intro cv o i h; simp [setRun]; intro h1 h2; omega
  | cons v vs ih =>
    intro cv o i h
    simp only [List.length_cons] at h
    rw [setRun, ih _ _ _ (by simp; omega)]
    by_cases h1 : o + 1 ≤ i ∧ i < o + 1 + vs.length
    · rw [if_pos h1, if_pos (by simp only [List.length_cons]; omega)]
      obtain ⟨k, rfl⟩ : ∃ k, i = o + 1 + k := ⟨i - (o + 1), by omega⟩
      rw [show o + 1 + k - (o + 1) = k by omega, show o + 1 + k - o = k + 1 by omega]; rfl
    · rw [if_neg h1]
      by_cases h2 : i = o
      · subst h2; rw [if_pos (by simp only [List.length_cons]; omega)]; simp [show i < cv.length by omega]
      · rw [if_neg (by simp only [List.length_cons]; omega), List.getElem?_set]; simp [Ne.symm h2]

theorem run_storeCells (b off : Nat) (tag : TypeId) (fr : Nat × Nat) (vs : List Value) : ∀ (i : Nat) (cv : Array Value) (w : World), w.heap[b]? = some (.cells cv tag fr) →
    (∀ v ∈ vs, v.oneCell' = true) → off + i + vs.length ≤ cv.size → (∀ j, off + i ≤ j → j < off + i + vs.length → ¬ (fr.1 ≤ j ∧ j < fr.2)) →
    ∃ w', (storeCells ⟨b, off, none⟩ vs i).run P w = .ok () w' ∧ w'.heap = w.heap.setIfInBounds b (.cells (setRunA cv (off + i) vs) tag fr) ∧ Same w w' := by
  induction vs with
  | nil =>
    intro i cv w hb _ _ _
    refine ⟨w, rfl, ?_, .refl w⟩
    apply Array.ext_getElem?
    intro j
    rw [Array.getElem?_setIfInBounds]
    split
    · rename_i e; subst e; simp [setRunA, (Array.getElem?_eq_some_iff.1 hb).1, (Array.getElem?_eq_some_iff.1 hb).2]
    · rfl
  | cons v vs ih =>
    intro i cv w hb h1 h2 h3
    simp only [List.length_cons] at h2 h3
    have hbl := (Array.getElem?_eq_some_iff.1 hb).1
    have hcell : w.cell? ⟨b, off + i, none⟩ = some cv[off + i] := by rw [cell_heap hb]; simp
    have hfz : w.frozen? ⟨b, off + i, none⟩ = false := by
      have := h3 (off + i) (by omega) (by omega)
      simp only [World.frozen?, hb]
      simp; intro h; omega
    have hset : (w.setCell ⟨b, off + i, none⟩ v).heap = w.heap.setIfInBounds b (.cells (cv.setIfInBounds (off + i) v) tag fr) := by
      apply Array.ext_getElem?
      intro j
      simp only [World.setCell, Array.getElem?_modify, Array.getElem?_setIfInBounds]
      split
      · rename_i e; subst e
        have hx := (Array.getElem?_eq_some_iff.1 hb).2
        simp only [if_pos hbl, Array.getElem?_eq_getElem hbl, Option.map_some, hx]; simp
      · rfl
    have hb' : (w.setCell ⟨b, off + i, none⟩ v).heap[b]? = some (.cells (cv.setIfInBounds (off + i) v) tag fr) := by rw [hset, Array.getElem?_setIfInBounds]; simp [hbl]
    obtain ⟨w', hr, hh, hs⟩ := ih (i + 1) (cv.setIfInBounds (off + i) v) (w.setCell ⟨b, off + i, none⟩ v) hb' (fun u hu => h1 u (by simp [hu])) (by simp; omega) (fun j hj1 hj2 => h3 j (by omega) (by omega))
    refine ⟨w', ?_, ?_, ⟨hs.os, hs.tape, hs.output⟩⟩
    · simp only [storeCells, Sem.run_bind, addr_add, run_store P w _ v .plain (h1 v (by simp)), hcell, hfz]
      simpa using hr
    · rw [hh, hset, setRunA, show off + (i + 1) = off + i + 1 by omega]
      apply Array.ext_getElem?
      intro j
      simp only [Array.getElem?_setIfInBounds]
      split
      · rename_i e; subst e; simp [hbl]
      · rfl
end
end Go.Mach
