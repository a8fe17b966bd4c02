import Derived.Test.YtkempedphjopmaaMachD
set_option linter.unusedVariables false
set_option linter.unusedSimpArgs false
set_option linter.unnecessarySimpa false
namespace Go.Mach
open Go.RowKit

structure Same (w w' : World) : Prop where
  os : w'.os = w.os
  tape : w'.tape = w.tape
  output : w'.output = w.output
theorem Same.refl (w : World) : Same w w := ⟨rfl, rfl, rfl⟩

theorem cell_heap {w : World} {b : Nat} {cv : Array Value} {tag : TypeId} {fr : Nat × Nat} (h : w.heap[b]? = some (.cells cv tag fr)) (i : Nat) : w.cell? ⟨b, i, none⟩ = cv[i]? := by
  simp only [World.cell?, h]; simp
theorem cell_congr {w w' : World} {b : Nat} (h : w'.heap[b]? = w.heap[b]?) (i : Nat) : w'.cell? ⟨b, i, none⟩ = w.cell? ⟨b, i, none⟩ := by
  simp only [World.cell?, h]
theorem HR.lt {g ow σ w} (h : HR g ow σ w) {b i v} (hm : g.M b i = some v) : b < w.heap.size := World.block_lt_of_cell? w _ (h.mem _ _ _ hm)

/-! ### The world moves on, the heap does not -/
theorem HR.congr {g ow σ w w'} (h : HR g ow σ w) (hh : w'.heap = w.heap) : HR g ow σ w' := by
  have hc : ∀ b i, w'.cell? ⟨b, i, none⟩ = w.cell? ⟨b, i, none⟩ := fun b i => cell_congr (by rw [hh]) i
  exact ⟨fun b i v hm => (hc b i).trans (h.mem b i v hm), fun id x hx => by rw [hh]; exact h.dom id x hx, h.domψ,
    fun id cs fz ext hσ b c hp => by rw [hh]; exact h.cel id cs fz ext hσ b c hp,
    fun id n s hσ b p c hp => by rw [hh]; exact h.tk id n s hσ b p c hp,
    h.tle, fun id s pos hσ b c hp => by rw [hh]; exact h.it id s pos hσ b c hp⟩
theorem St.congr {bs g ow σ w w'} (hs : Same w w') (hh : w'.heap = w.heap) : St bs g ow σ w g ow σ w' :=
  ⟨.refl g, hs.os, hs.tape, hs.output, by rw [hh]; exact Nat.le_refl _, fun _ _ h => ⟨by rw [hh], h⟩, Nat.le_refl _, fun _ _ h => h, fun _ _ _ _ => rfl,
    fun _ _ _ cs fz ext h => ⟨cs, fz, ext, h, fun _ _ hx => .inr ⟨hx, fun _ _ _ => cell_congr (by rw [hh]) _⟩⟩⟩

/-! ### A new object -/
def Gh.put (g : Gh) (id b c : Nat) : Gh := ⟨fun i => if i = id then some (b, c) else g.φ i, g.ψ, g.M⟩
def upd (f : Nat → Option Nat) (b id : Nat) : Nat → Option Nat := fun i => if i = b then some id else f i
theorem Gh.put_le {g : Gh} {id : Nat} (hid : g.φ id = none) (b c : Nat) : g.le (g.put id b c) :=
  ⟨fun i x hx => by simp only [Gh.put]; split
                    · rename_i e; subst e; rw [hid] at hx; cases hx
                    · exact hx, fun _ _ _ h => h, fun _ _ _ h => h⟩

/-- A new block, and an object for it at whatever number that stands for nothing yet. -/
theorem HR.newAt {g ow σ w w'} (h : HR g ow σ w) {o : Obj} (hw : w'.heap = w.heap.push o) {id : Nat} (hid : g.φ id = none) {σ' : List AObj} (hψ : ∀ n s, σ'[id]? ≠ some (.tok n s)) (hlen : σ.length ≤ σ'.length) (hlt : id < σ'.length)
    (hσ' : ∀ j, j < σ.length → j ≠ id → σ'[j]? = σ[j]?) (hσn : ∀ j, σ.length ≤ j → j ≠ id → g.φ j = none ∧ ∀ n, g.ψ j n = none) (c : Nat)
    (hc : ∀ cs fz ext, σ'[id]? = some (.cells cs fz ext) → ∃ cv tag fr, o = .cells cv tag fr ∧ cs.length ≤ c ∧ c ≤ cv.size ∧ (ext = false → c = cs.length) ∧
      (∀ (i : Nat) x, cs[i]? = some x → x.cellv = true ∧ ∃ v, cv[i]? = some v ∧ VR g x v) ∧ (∀ i, i < cs.length → ¬ (fr.1 ≤ i ∧ i < fr.2)))
    (hi : ∀ s pos, σ'[id]? = some (.iter s pos) → o = .stringIter s pos) :
    HR (g.put id w.heap.size c) (upd ow w.heap.size id) σ' w' := by
  have hle := Gh.put_le hid w.heap.size c
  have hold : ∀ b, b < w.heap.size → w'.heap[b]? = w.heap[b]? := fun b hb => by rw [hw, Array.getElem?_push]; simp [Nat.ne_of_lt hb]
  have hnew : w'.heap[w.heap.size]? = some o := by rw [hw]; simp
  have hφ : ∀ j x, (g.put id w.heap.size c).φ j = some x → (j = id ∧ x = (w.heap.size, c)) ∨ (j ≠ id ∧ g.φ j = some x) := fun j x hx => by
    simp only [Gh.put] at hx; split at hx
    · injection hx with hx; exact .inl ⟨by assumption, hx.symm⟩
    · exact .inr ⟨by assumption, hx⟩
  have how : ∀ b, b < w.heap.size → upd ow w.heap.size id b = ow b := fun b hb => by simp [upd, Nat.ne_of_lt hb]
  have hsz : w'.heap.size = w.heap.size + 1 := by rw [hw]; simp
  have holdσ : ∀ j, j ≠ id → (∃ x, g.φ j = some x) ∨ (∃ n x, g.ψ j n = some x) → σ'[j]? = σ[j]? := fun j hj hx => by
    rcases Nat.lt_or_ge j σ.length with hl | hl
    · exact hσ' j hl hj
    · obtain ⟨h1, h2⟩ := hσn j hl hj
      rcases hx with ⟨x, hx⟩ | ⟨n, x, hx⟩
      · rw [h1] at hx; cases hx
      · rw [h2] at hx; cases hx
  refine ⟨fun b i v hm => (cell_congr (hold b (h.lt hm)) i).trans (h.mem b i v hm), fun j x hx => ?_, fun j n x hx => Nat.lt_of_lt_of_le (h.domψ j n x hx) hlen, ?_, ?_, ?_, ?_⟩
  · rcases hφ j x hx with ⟨rfl, rfl⟩ | ⟨_, hx⟩
    · exact ⟨hlt, by simp [hsz]⟩
    · have := h.dom j x hx; exact ⟨by omega, by omega⟩
  · intro j cs fz ext hσ b c' hp
    rcases hφ j _ hp with ⟨rfl, he⟩ | ⟨hj, hp'⟩
    · injection he with e1 e2; subst e1 e2
      obtain ⟨cv, tag, fr, ho, k1, k2, k3, k4, k5⟩ := hc cs fz ext hσ
      refine ⟨cv, tag, fr, by rw [hnew, ho], k1, k2, k3, fun i x hx => ?_, by simp [upd], fun i _ hi2 => ⟨?_, k5 i hi2⟩⟩
      · obtain ⟨a, v, b', c''⟩ := k4 i x hx; exact ⟨a, v, b', c''.mono hle⟩
      · cases hm : (g.put j w.heap.size c').M w.heap.size i with
        | none => rfl
        | some v => exact absurd (h.lt hm) (Nat.lt_irrefl _)
    · rw [holdσ j hj (.inl ⟨_, hp'⟩)] at hσ
      have hb := (h.dom j _ hp').2
      obtain ⟨cv, tag, fr, k0, k1, k2, k3, k4, k5, k6⟩ := h.cel j cs fz ext hσ b c' hp'
      refine ⟨cv, tag, fr, (hold b hb).trans k0, k1, k2, k3, fun i x hx => ?_, (how b hb).trans k5, k6⟩
      obtain ⟨a, v, b', c''⟩ := k4 i x hx; exact ⟨a, v, b', c''.mono hle⟩
  · intro j n s hσ b p c' hp
    have hp' : g.ψ j n = some (b, p, c') := hp
    have hj : j ≠ id := fun e => by subst e; exact hψ _ _ hσ
    rw [holdσ j hj (.inr ⟨_, _, hp'⟩)] at hσ
    obtain ⟨cv, tag, fr, k0, k1, k2, k3, k4⟩ := h.tk j n s hσ b p c' hp'
    have hb : b < w.heap.size := (Array.getElem?_eq_some_iff.1 k0).1
    exact ⟨cv, tag, fr, (hold b hb).trans k0, k1, k2, (how b hb).trans k3, k4⟩
  · intro j n s hσ m x hp
    have hp' : g.ψ j m = some x := hp
    have hj : j ≠ id := fun e => by subst e; exact hψ _ _ hσ
    rw [holdσ j hj (.inr ⟨_, _, hp'⟩)] at hσ
    exact h.tle j n s hσ m x hp'
  · intro j s pos hσ b c' hp
    rcases hφ j _ hp with ⟨rfl, he⟩ | ⟨hj, hp'⟩
    · injection he with e1 e2; subst e1
      exact ⟨by rw [hnew, hi s pos hσ], by simp [upd]⟩
    · rw [holdσ j hj (.inl ⟨_, hp'⟩)] at hσ
      have hb := (h.dom j _ hp').2
      obtain ⟨k0, k1⟩ := h.it j s pos hσ b c' hp'
      exact ⟨(hold b hb).trans k0, (how b hb).trans k1⟩
theorem St.newAt {bs g ow σ w w'} (h : HR g ow σ w) {o : Obj} (hw : w'.heap = w.heap.push o) (hs : Same w w') {id : Nat} (hid : σ.length ≤ id) {σ' : List AObj} (hlen : σ.length ≤ σ'.length)
    (hσ' : ∀ j, j < σ.length → j ≠ id → σ'[j]? = σ[j]?) (c : Nat) : St bs g ow σ w (g.put id w.heap.size c) (upd ow w.heap.size id) σ' w' := by
  have hn : g.φ id = none := by
    cases hg : g.φ id with
    | none => rfl
    | some x => exact absurd (h.dom id x hg).1 (by omega)
  have hold : ∀ b, b < w.heap.size → w'.heap[b]? = w.heap[b]? := fun b hb => by rw [hw, Array.getElem?_push]; simp [Nat.ne_of_lt hb]
  refine ⟨Gh.put_le hn _ _, hs.os, hs.tape, hs.output, by rw [hw]; simp, fun b hb ho => ⟨hold b hb, by simp [upd, Nat.ne_of_lt hb, ho]⟩, hlen, fun j hj hj' => ?_, fun _ _ _ _ => rfl, fun j _ hj cs fz ext hσ => ?_⟩
  · simp only [Gh.put]; rw [if_neg (by omega)]; exact hj'
  · rw [hσ' j hj (by omega)] at hσ
    exact ⟨cs, fz, ext, hσ, fun i x hx => .inr ⟨hx, fun b c hp => cell_congr (hold b (h.dom j _ hp).2) i⟩⟩

theorem HR.none_len {g ow σ w} (h : HR g ow σ w) {id : Nat} (hid : σ.length ≤ id) : g.φ id = none ∧ ∀ n, g.ψ id n = none := by
  refine ⟨?_, fun n => ?_⟩
  · cases hg : g.φ id with
    | none => rfl
    | some x => exact absurd (h.dom id x hg).1 (by omega)
  · cases hg : g.ψ id n with
    | none => rfl
    | some x => exact absurd (h.domψ id n x hg) (by omega)

/-- A new box or row. -/
theorem HR.new {bs g ow σ w w'} (h : HR g ow σ w) {cs : List AV} {cv : Array Value} {tag : TypeId} {fr : Nat × Nat} (hw : w'.heap = w.heap.push (.cells cv tag fr)) (hs : Same w w') (ext : Bool) (c : Nat)
    (h1 : cs.length ≤ c) (h2 : c ≤ cv.size) (h3 : ext = false → c = cs.length) (h4 : ∀ (i : Nat) x, cs[i]? = some x → x.cellv = true ∧ ∃ v, cv[i]? = some v ∧ VR g x v) (h5 : ∀ i, i < cs.length → ¬ (fr.1 ≤ i ∧ i < fr.2)) :
    ∃ g' ow', g'.φ σ.length = some (w.heap.size, c) ∧ HR g' ow' (σ ++ [.cells cs 0 ext]) w' ∧ St bs g ow σ w g' ow' (σ ++ [.cells cs 0 ext]) w' := by
  have hn := h.none_len (Nat.le_refl σ.length)
  refine ⟨g.put σ.length w.heap.size c, upd ow w.heap.size σ.length, by simp [Gh.put], ?_, ?_⟩
  · refine h.newAt hw hn.1 (by simp) (by simp) (by simp) (fun j hj _ => List.getElem?_append_left hj) (fun j hj _ => h.none_len hj) c (fun cs' fz' ext' hσ => ?_) (fun s pos hσ => by simp at hσ)
    simp at hσ; obtain ⟨rfl, rfl, rfl⟩ := hσ
    exact ⟨cv, tag, fr, rfl, h1, h2, h3, h4, h5⟩
  · exact St.newAt h hw hs (Nat.le_refl _) (by simp) (fun j hj _ => List.getElem?_append_left hj) c
theorem HR.newIter {bs g ow σ w w'} (h : HR g ow σ w) {s : ByteArray} {pos : Nat} (hw : w'.heap = w.heap.push (.stringIter s pos)) (hs : Same w w') :
    ∃ g' ow', g'.φ σ.length = some (w.heap.size, 0) ∧ HR g' ow' (σ ++ [.iter s pos]) w' ∧ St bs g ow σ w g' ow' (σ ++ [.iter s pos]) w' := by
  have hn := h.none_len (Nat.le_refl σ.length)
  refine ⟨g.put σ.length w.heap.size 0, upd ow w.heap.size σ.length, by simp [Gh.put], ?_, ?_⟩
  · refine h.newAt hw hn.1 (by simp) (by simp) (by simp) (fun j hj _ => List.getElem?_append_left hj) (fun j hj _ => h.none_len hj) 0 (fun cs' fz' ext' hσ => by simp at hσ) (fun s pos hσ => ?_)
    simp at hσ; obtain ⟨rfl, rfl⟩ := hσ; rfl
  · exact St.newAt h hw hs (Nat.le_refl _) (by simp) (fun j hj _ => List.getElem?_append_left hj) 0
end Go.Mach
