import Derived.Test.YtkempedphjopmaaMachC
set_option linter.unusedVariables false
set_option linter.unusedSimpArgs false
set_option linter.unnecessarySimpa false
namespace Go.Mach
open Go.RowKit

/-! ### Registers and operands -/
structure RR (g : Gh) (ρ : Regs) (tmps : Array Value) : Prop where
  len : ρ.length = tmps.size
  val : ∀ t, VR g (ρ.getD t .undef) (tmps.getD t undef)
theorem RR.mono {g g' : Gh} (hg : g.le g') {ρ tmps} (h : RR g ρ tmps) : RR g' ρ tmps := ⟨h.len, fun t => (h.val t).mono hg⟩
theorem RR.set {g : Gh} {ρ tmps} (h : RR g ρ tmps) (d : Nat) {x v} (hx : VR g x v) : RR g (ρ.set d x) (tmps.setIfInBounds d v) := by
  refine ⟨by simp [h.len], fun t => ?_⟩
  have hl := h.len
  have ht := h.val t
  simp only [List.getD_eq_getElem?_getD, Array.getD_eq_getD_getElem?] at ht ⊢
  by_cases hd : d = t
  · subst hd
    by_cases hlt : d < ρ.length
    · simp [hlt, show d < tmps.size by omega, hx]
    · simp [show ¬ d < tmps.size by omega, hlt] at ht ⊢
      exact .undef _
  · simpa [hd, Array.getElem?_setIfInBounds] using ht

theorem VR.nilsl {g : Gh} : VR g (.isl [] true) (.slice none 0 0) :=
  VR.isl (es := []) (a := none) (c := 0) (b := 0) (p := 0) (s := 1) (fun _ => Go.undef) (by simp) (by omega) (.inl rfl) (fun _ => rfl) (Nat.le_refl _) (by simp [flat]) (by simp [flat])
theorem cV1_VR {g : Gh} {v : Value} {x : AV} (h : cV1 v = some x) : VR g x v ∧ x.cellv = true := by
  unfold cV1 at h
  split at h
  · injection h with h; subst h; exact ⟨.int _ _, rfl⟩
  · injection h with h; subst h; exact ⟨.bool _, rfl⟩
  · injection h with h; subst h; exact ⟨.str _, rfl⟩
  · injection h with h; subst h; exact ⟨.nilptr, rfl⟩
  · injection h with h; subst h; exact ⟨.nilsl, rfl⟩
  · injection h with h; subst h; exact ⟨.nilfunc, rfl⟩
  · cases h
theorem mapM_cV1 {g : Gh} : ∀ {l : List Value} {xs : List AV}, l.mapM cV1 = some xs → xs.length = l.length ∧ ∀ (i : Nat) x v, xs[i]? = some x → l[i]? = some v → VR g x v ∧ x.cellv = true
  | [], xs, h => by simp at h; subst h; exact ⟨rfl, fun i x v hx _ => by simp at hx⟩
  | v :: l, xs, h => by
    rw [List.mapM_cons] at h
    simp only [Option.bind_eq_bind, Option.bind_eq_some_iff, Option.pure_def] at h
    obtain ⟨x, hx, ys, hys, e⟩ := h
    injection e with e; subst e
    obtain ⟨hl, hv⟩ := mapM_cV1 (g := g) hys
    refine ⟨by simp [hl], fun i y u hy hu => ?_⟩
    cases i with
    | zero => simp at hy hu; subst hy hu; exact cV1_VR hx
    | succ i => simp at hy hu; exact hv i y u hy hu
theorem cV_VR {g : Gh} {v : Value} {x : AV} (h : cV v = some x) : VR g x v := by
  unfold cV at h
  split at h
  · rename_i cs
    obtain ⟨xs, hxs, rfl⟩ := Option.map_eq_some_iff.1 h
    obtain ⟨hl, hv⟩ := mapM_cV1 (g := g) hxs
    refine .agg (by simpa using hl) (fun x hx => ?_) fun i x v hx hv' => (hv i x v hx (by simpa using hv')).1
    obtain ⟨i, hi, rfl⟩ := List.getElem_of_mem hx
    have h1 : i < cs.toList.length := by omega
    exact (hv i _ _ (List.getElem?_eq_getElem hi) (List.getElem?_eq_getElem h1)).2
  · exact (cV1_VR h).1
theorem ev_VR {g : Gh} {ρ : Regs} {a : Act} (hR : RR g ρ a.tmps) {o : Operand} {x : AX} (h : cx o = some x) : VR g (ev ρ x) (a.eval o) := by
  cases o with
  | tmp t => simp only [cx] at h; injection h with h; subst h; exact hR.val t
  | const v => simp only [cx] at h; obtain ⟨y, hy, rfl⟩ := Option.map_eq_some_iff.1 h; exact cV_VR hy
  | func f => simp only [cx] at h; injection h with h; subst h; exact .func rfl (fun i x v hx _ => by simp at hx)
  | global n => simp [cx] at h

/-! ### Cells of values -/
theorem VR.cell1 {g : Gh} {x : AV} {v : Value} (h : VR g x v) (hc : x.cellv = true) : v.oneCell' = true ∧ v.cells = #[v] := by
  cases h <;> first | (exact ⟨rfl, rfl⟩) | (simp [AV.cellv] at hc)
theorem AV.cells_of_cellv {x : AV} (h : x.cellv = true) : x.cells = [x] := by cases x <;> first | rfl | simp [AV.cellv] at h
theorem VR.cells {g : Gh} {x : AV} {v : Value} (h : VR g x v) (hs : x.solid = true) :
    x.cells.length = v.cells.size ∧ ∀ (i : Nat) y, x.cells[i]? = some y → y.cellv = true ∧ ∃ u, v.cells[i]? = some u ∧ u.oneCell' = true ∧ VR g y u := by
  by_cases hcv : x.cellv = true
  · obtain ⟨h1, h2⟩ := h.cell1 hcv
    rw [AV.cells_of_cellv hcv, h2]
    refine ⟨rfl, fun i y hy => ?_⟩
    cases i with
    | zero => simp at hy; subst hy; exact ⟨hcv, v, rfl, h1, h⟩
    | succ i => simp at hy
  · cases h with
    | @agg cs vs hl hc hV =>
      refine ⟨hl, fun i y hy => ?_⟩
      have hm := hc y (List.mem_of_getElem? hy)
      simp only [AV.cells] at hy
      have hlt : i < vs.size := by have := (List.getElem?_eq_some_iff.1 hy).1; rw [hl] at this; exact this
      have hg := Array.getElem?_eq_getElem hlt
      have := hV i y _ hy hg
      exact ⟨hm, _, hg, (this.cell1 hm).1, this⟩
    | undef => simp [AV.solid] at hs
    | tup => simp [AV.solid] at hs
    | _ => simp [AV.cellv] at hcv
end Go.Mach
