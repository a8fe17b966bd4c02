import Derived.Test.YtkempedphjopmaaMachE
set_option linter.unusedVariables false
set_option linter.unusedSimpArgs false
set_option linter.unnecessarySimpa false
namespace Go.Mach
open Go.RowKit

/-! ### Writing to a box or a row -/
theorem heap_set {w w' : World} {b : Nat} {o : Obj} (hw : w'.heap = w.heap.setIfInBounds b o) (j : Nat) (hj : j ≠ b) : w'.heap[j]? = w.heap[j]? := by
  rw [hw, Array.getElem?_setIfInBounds]; simp [Ne.symm hj]
theorem heap_set_at {w w' : World} {b : Nat} {o : Obj} (hw : w'.heap = w.heap.setIfInBounds b o) (hb : b < w.heap.size) : w'.heap[b]? = some o := by
  rw [hw, Array.getElem?_setIfInBounds]; simp [hb]
theorem list_set_at {α : Type} {l : List α} {i : Nat} {x : α} (h : i < l.length) : (l.set i x)[i]? = some x := by simp [h]
theorem list_set_ne {α : Type} {l : List α} {i j : Nat} {x : α} (h : j ≠ i) : (l.set i x)[j]? = l[j]? := by simp [Ne.symm h]

theorem HR.write {bs g ow σ w w'} (h : HR g ow σ w) {id cs fz ext b c} (hσ : σ[id]? = some (.cells cs fz ext)) (hp : g.φ id = some (b, c))
    {cv cv' : Array Value} {tag : TypeId} {fr : Nat × Nat} (hb : w.heap[b]? = some (.cells cv tag fr)) (hw : w'.heap = w.heap.setIfInBounds b (.cells cv' tag fr)) (hs : Same w w')
    {cs' : List AV} (hl : cs'.length = cs.length) (hsz : cv'.size = cv.size) (hrel : ∀ (i : Nat) x, cs'[i]? = some x → x.cellv = true ∧ ∃ v, cv'[i]? = some v ∧ VR g x v)
    (hkeep : ∀ i, i < fz ∨ cs.length ≤ i → cv'[i]? = cv[i]?) (hdisc : bs ≤ id ∨ ∀ (i : Nat) x, cs'[i]? = some x → x.clo1 = true ∨ (cs[i]? = some x ∧ cv'[i]? = cv[i]?)) :
    HR g ow (σ.set id (.cells cs' fz ext)) w' ∧ St bs g ow σ w g ow (σ.set id (.cells cs' fz ext)) w' := by
  obtain ⟨cv0, tag0, fr0, k0, k1, k2, k3, k4, k5, k6⟩ := h.cel id cs fz ext hσ b c hp
  rw [hb] at k0; injection k0 with k0; injection k0 with e1 e2 e3; subst e1 e2 e3
  have hbl := (h.dom id _ hp).2
  have hid := (h.dom id _ hp).1
  have hat := heap_set_at hw hbl
  have hne := heap_set hw
  have hsize : w'.heap.size = w.heap.size := by rw [hw]; simp
  have hcell : ∀ b' i, (b' ≠ b ∨ i < fz ∨ cs.length ≤ i) → w'.cell? ⟨b', i, none⟩ = w.cell? ⟨b', i, none⟩ := fun b' i hh => by
    by_cases e : b' = b
    · subst e
      rw [cell_heap hat, cell_heap hb]
      exact hkeep i (by rcases hh with hh | hh | hh; exact absurd rfl hh; exact .inl hh; exact .inr hh)
    · exact cell_congr (hne b' e) i
  have hσne : ∀ j, j ≠ id → (σ.set id (.cells cs' fz ext))[j]? = σ[j]? := fun j hj => list_set_ne hj
  refine ⟨⟨fun b' i v hm => ?_, fun j x hx => ?_, fun j n x hx => by simpa using h.domψ j n x hx, ?_, ?_, ?_, ?_⟩, ?_⟩
  · rw [hcell b' i ?_]; exact h.mem b' i v hm
    by_cases e : b' = b
    · subst e
      refine .inr ?_
      rcases Nat.lt_or_ge i fz with hlt | hge
      · exact .inl hlt
      · rcases Nat.lt_or_ge i cs.length with hlt | hge'
        · have := (k6 i hge hlt).1; rw [this] at hm; cases hm
        · exact .inr hge'
    · exact .inl e
  · have := h.dom j x hx; simp only [List.length_set, hsize]; exact this
  · intro j cs2 fz2 ext2 hσ2 b2 c2 hp2
    by_cases e : j = id
    · subst e
      rw [list_set_at hid] at hσ2; injection hσ2 with hσ2; injection hσ2 with e1 e2 e3; subst e1 e2 e3
      rw [hp] at hp2; injection hp2 with hp2; injection hp2 with e1 e2; subst e1 e2
      exact ⟨cv', tag, fr, hat, by omega, by omega, fun hh => by rw [hl]; exact k3 hh, hrel, k5, fun i hi hi2 => k6 i hi (by omega)⟩
    · rw [hσne j e] at hσ2
      obtain ⟨cv2, tag2, fr2, m0, m1, m2, m3, m4, m5, m6⟩ := h.cel j cs2 fz2 ext2 hσ2 b2 c2 hp2
      have hb2 : b2 ≠ b := fun eb => by subst eb; rw [k5] at m5; injection m5 with m5; exact e m5.symm
      exact ⟨cv2, tag2, fr2, (hne b2 hb2).trans m0, m1, m2, m3, m4, m5, m6⟩
  · intro j n s hσ2 b2 p c2 hp2
    have e : j ≠ id := fun e => by subst e; rw [list_set_at hid] at hσ2; injection hσ2 with hσ2; cases hσ2
    rw [hσne j e] at hσ2
    obtain ⟨cv2, tag2, fr2, m0, m1, m2, m3, m4⟩ := h.tk j n s hσ2 b2 p c2 hp2
    have hb2 : b2 ≠ b := fun eb => by subst eb; rw [k5] at m3; injection m3 with m3; exact e m3.symm
    exact ⟨cv2, tag2, fr2, (hne b2 hb2).trans m0, m1, m2, m3, m4⟩
  · intro j n s hσ2 m x hp2
    have e : j ≠ id := fun e => by subst e; rw [list_set_at hid] at hσ2; injection hσ2 with hσ2; cases hσ2
    rw [hσne j e] at hσ2
    exact h.tle j n s hσ2 m x hp2
  · intro j s pos hσ2 b2 c2 hp2
    have e : j ≠ id := fun e => by subst e; rw [list_set_at hid] at hσ2; injection hσ2 with hσ2; cases hσ2
    rw [hσne j e] at hσ2
    obtain ⟨m0, m1⟩ := h.it j s pos hσ2 b2 c2 hp2
    have hb2 : b2 ≠ b := fun eb => by subst eb; rw [k5] at m1; injection m1 with m1; exact e m1.symm
    exact ⟨(hne b2 hb2).trans m0, m1⟩
  · refine ⟨.refl g, hs.os, hs.tape, hs.output, by omega, fun b' hb' ho => ⟨hne b' (fun e => by subst e; rw [k5] at ho; cases ho), ho⟩, by simp, fun _ _ hh => hh, fun _ _ _ _ => rfl, fun j hj hjl cs2 fz2 ext2 hσ2 => ?_⟩
    by_cases e : j = id
    · subst e
      rw [list_set_at hid] at hσ2; injection hσ2 with hσ2; injection hσ2 with e1 e2 e3; subst e1 e2 e3
      refine ⟨cs, fz, ext, hσ, fun i x hx => ?_⟩
      rcases hdisc with hd | hd
      · omega
      · rcases hd i x hx with hd | ⟨hd1, hd2⟩
        · exact .inl hd
        · refine .inr ⟨hd1, fun b2 c2 hp2 => ?_⟩
          rw [hp] at hp2; injection hp2 with hp2; injection hp2 with e1 e2; subst e1 e2
          rw [cell_heap hat, cell_heap hb]; exact hd2
    · rw [hσne j e] at hσ2
      refine ⟨cs2, fz2, ext2, hσ2, fun i x hx => .inr ⟨hx, fun b2 c2 hp2 => ?_⟩⟩
      obtain ⟨cv2, tag2, fr2, m0, m1, m2, m3, m4, m5, m6⟩ := h.cel j cs2 fz2 ext2 hσ2 b2 c2 hp2
      have hb2 : b2 ≠ b := fun eb => by subst eb; rw [k5] at m5; injection m5 with m5; exact e m5.symm
      exact cell_congr (hne b2 hb2) i

/-- A walk over a string's runes goes on. -/
theorem HR.iterSet {bs g ow σ w w'} (h : HR g ow σ w) {id : Nat} {s : ByteArray} {pos pos' b c : Nat} (hσ : σ[id]? = some (.iter s pos)) (hp : g.φ id = some (b, c))
    (hw : w'.heap = w.heap.setIfInBounds b (.stringIter s pos')) (hs : Same w w') :
    HR g ow (σ.set id (.iter s pos')) w' ∧ St bs g ow σ w g ow (σ.set id (.iter s pos')) w' := by
  obtain ⟨k0, k5⟩ := h.it id s pos hσ b c hp
  have hbl := (h.dom id _ hp).2
  have hid := (h.dom id _ hp).1
  have hat := heap_set_at hw hbl
  have hne := heap_set hw
  have hsize : w'.heap.size = w.heap.size := by rw [hw]; simp
  have hM : ∀ i, g.M b i = none := fun i => by
    cases hm : g.M b i with
    | none => rfl
    | some v => have := h.mem b i v hm; simp only [World.cell?, k0] at this; cases this
  have hσne : ∀ j, j ≠ id → (σ.set id (.iter s pos'))[j]? = σ[j]? := fun j hj => list_set_ne hj
  refine ⟨⟨fun b' i v hm => ?_, fun j x hx => ?_, fun j n x hx => by simpa using h.domψ j n x hx, ?_, ?_, ?_, ?_⟩, ?_⟩
  · have e : b' ≠ b := fun e => by subst e; rw [hM] at hm; cases hm
    rw [cell_congr (hne b' e) i]; exact h.mem b' i v hm
  · have := h.dom j x hx; simp only [List.length_set, hsize]; exact this
  · intro j cs2 fz2 ext2 hσ2 b2 c2 hp2
    have e : j ≠ id := fun e => by subst e; rw [list_set_at hid] at hσ2; injection hσ2 with hσ2; cases hσ2
    rw [hσne j e] at hσ2
    obtain ⟨cv2, tag2, fr2, m0, m1, m2, m3, m4, m5, m6⟩ := h.cel j cs2 fz2 ext2 hσ2 b2 c2 hp2
    have hb2 : b2 ≠ b := fun eb => by subst eb; rw [k5] at m5; injection m5 with m5; exact e m5.symm
    exact ⟨cv2, tag2, fr2, (hne b2 hb2).trans m0, m1, m2, m3, m4, m5, m6⟩
  · intro j n s hσ2 b2 p c2 hp2
    have e : j ≠ id := fun e => by subst e; rw [list_set_at hid] at hσ2; injection hσ2 with hσ2; cases hσ2
    rw [hσne j e] at hσ2
    obtain ⟨cv2, tag2, fr2, m0, m1, m2, m3, m4⟩ := h.tk j n s hσ2 b2 p c2 hp2
    have hb2 : b2 ≠ b := fun eb => by subst eb; rw [k5] at m3; injection m3 with m3; exact e m3.symm
    exact ⟨cv2, tag2, fr2, (hne b2 hb2).trans m0, m1, m2, m3, m4⟩
  · intro j n s hσ2 m x hp2
    have e : j ≠ id := fun e => by subst e; rw [list_set_at hid] at hσ2; injection hσ2 with hσ2; cases hσ2
    rw [hσne j e] at hσ2
    exact h.tle j n s hσ2 m x hp2
  · intro j s2 pos2 hσ2 b2 c2 hp2
    by_cases e : j = id
    · subst e
      rw [list_set_at hid] at hσ2; injection hσ2 with hσ2; injection hσ2 with e1 e2; subst e1 e2
      rw [hp] at hp2; injection hp2 with hp2; injection hp2 with e1 e2; subst e1 e2
      exact ⟨hat, k5⟩
    · rw [hσne j e] at hσ2
      obtain ⟨m0, m1⟩ := h.it j s2 pos2 hσ2 b2 c2 hp2
      have hb2 : b2 ≠ b := fun eb => by subst eb; rw [k5] at m1; injection m1 with m1; exact e m1.symm
      exact ⟨(hne b2 hb2).trans m0, m1⟩
  · refine ⟨.refl g, hs.os, hs.tape, hs.output, by omega, fun b' hb' ho => ⟨hne b' (fun e => by subst e; rw [k5] at ho; cases ho), ho⟩, by simp, fun _ _ hh => hh, fun _ _ _ _ => rfl, fun j hj hjl cs2 fz2 ext2 hσ2 => ?_⟩
    have e : j ≠ id := fun e => by subst e; rw [list_set_at hid] at hσ2; injection hσ2 with hσ2; cases hσ2
    rw [hσne j e] at hσ2
    refine ⟨cs2, fz2, ext2, hσ2, fun i x hx => .inr ⟨hx, fun b2 c2 hp2 => ?_⟩⟩
    obtain ⟨cv2, tag2, fr2, m0, m1, m2, m3, m4, m5, m6⟩ := h.cel j cs2 fz2 ext2 hσ2 b2 c2 hp2
    have hb2 : b2 ≠ b := fun eb => by subst eb; rw [k5] at m5; injection m5 with m5; exact e m5.symm
    exact cell_congr (hne b2 hb2) i

/-! ### Freezing -/
/-- The cells from lo up to hi of a block are frozen at what they hold. -/
def Gh.fz (g : Gh) (b lo hi : Nat) (cv : Array Value) : Gh := ⟨g.φ, g.ψ, fun b' i => if b' = b ∧ lo ≤ i ∧ i < hi then cv[i]? else g.M b' i⟩
theorem HR.freeze {bs g ow σ w} (h : HR g ow σ w) {id cs fz ext b c} (hσ : σ[id]? = some (.cells cs fz ext)) (hp : g.φ id = some (b, c))
    {cv : Array Value} {tag : TypeId} {fr : Nat × Nat} (hb : w.heap[b]? = some (.cells cv tag fr)) {lo hi : Nat} :
    HR (g.fz b lo hi cv) ow (σ.set id (.cells cs (max fz hi) ext)) w ∧ St bs g ow σ w (g.fz b lo hi cv) ow (σ.set id (.cells cs (max fz hi) ext)) w := by
  obtain ⟨cv0, tag0, fr0, k0, k1, k2, k3, k4, k5, k6⟩ := h.cel id cs fz ext hσ b c hp
  rw [hb] at k0; injection k0 with k0; injection k0 with e1 e2 e3; subst e1 e2 e3
  have hid := (h.dom id _ hp).1
  have hle : g.le (g.fz b lo hi cv) := ⟨fun _ _ hx => hx, fun _ _ _ hx => hx, fun b' i v hm => by
    simp only [Gh.fz]; split
    · rename_i e; obtain ⟨rfl, _⟩ := e
      have := h.mem _ _ _ hm; rwa [cell_heap hb] at this
    · exact hm⟩
  have hσne : ∀ j, j ≠ id → (σ.set id (.cells cs (max fz hi) ext))[j]? = σ[j]? := fun j hj => list_set_ne hj
  have hMne : ∀ b' i, b' ≠ b → (g.fz b lo hi cv).M b' i = g.M b' i := fun b' i hne => by simp [Gh.fz, hne]
  refine ⟨⟨fun b' i v hm => ?_, fun j x hx => by simpa using h.dom j x hx, fun j n x hx => by simpa using h.domψ j n x hx, ?_, ?_, ?_, ?_⟩, ?_⟩
  · simp only [Gh.fz] at hm; split at hm
    · rename_i e; obtain ⟨rfl, _⟩ := e
      rw [cell_heap hb]; exact hm
    · exact h.mem b' i v hm
  · intro j cs2 fz2 ext2 hσ2 b2 c2 hp2
    by_cases e : j = id
    · subst e
      rw [list_set_at hid] at hσ2; injection hσ2 with hσ2; injection hσ2 with e1 e2 e3; subst e1 e2 e3
      have hp2' : g.φ j = some (b2, c2) := hp2
      rw [hp] at hp2'; injection hp2' with hp2'; injection hp2' with e1 e2; subst e1 e2
      refine ⟨cv, tag, fr, hb, k1, k2, k3, fun i x hx => ?_, k5, fun i hi1 hi2 => ?_⟩
      · obtain ⟨a, v, b', c''⟩ := k4 i x hx; exact ⟨a, v, b', c''.mono hle⟩
      · have := k6 i (by omega) hi2
        refine ⟨?_, this.2⟩
        simp only [Gh.fz]; rw [if_neg (by omega)]; exact this.1
    · rw [hσne j e] at hσ2
      obtain ⟨cv2, tag2, fr2, m0, m1, m2, m3, m4, m5, m6⟩ := h.cel j cs2 fz2 ext2 hσ2 b2 c2 hp2
      have hb2 : b2 ≠ b := fun eb => by subst eb; rw [k5] at m5; injection m5 with m5; exact e m5.symm
      refine ⟨cv2, tag2, fr2, m0, m1, m2, m3, fun i x hx => ?_, m5, fun i hi1 hi2 => ?_⟩
      · obtain ⟨a, v, b', c''⟩ := m4 i x hx; exact ⟨a, v, b', c''.mono hle⟩
      · rw [hMne b2 i hb2]; exact m6 i hi1 hi2
  · intro j n s hσ2 b2 p c2 hp2
    have e : j ≠ id := fun e => by subst e; rw [list_set_at hid] at hσ2; injection hσ2 with hσ2; cases hσ2
    rw [hσne j e] at hσ2
    obtain ⟨cv2, tag2, fr2, m0, m1, m2, m3, m4⟩ := h.tk j n s hσ2 b2 p c2 hp2
    have hb2 : b2 ≠ b := fun eb => by subst eb; rw [k5] at m3; injection m3 with m3; exact e m3.symm
    exact ⟨cv2, tag2, fr2, m0, m1, m2, m3, fun i hi1 => by rw [hMne b2 i hb2]; exact m4 i hi1⟩
  · intro j n s hσ2 m x hp2
    have e : j ≠ id := fun e => by subst e; rw [list_set_at hid] at hσ2; injection hσ2 with hσ2; cases hσ2
    rw [hσne j e] at hσ2
    exact h.tle j n s hσ2 m x hp2
  · intro j s2 pos2 hσ2 b2 c2 hp2
    have e : j ≠ id := fun e => by subst e; rw [list_set_at hid] at hσ2; injection hσ2 with hσ2; cases hσ2
    rw [hσne j e] at hσ2
    exact h.it j s2 pos2 hσ2 b2 c2 hp2
  · refine ⟨hle, rfl, rfl, rfl, Nat.le_refl _, fun b' hb' ho => ⟨rfl, ho⟩, by simp, fun _ _ hh => hh, fun b' _ ho i => hMne b' i (fun e => by subst e; rw [k5] at ho; cases ho), fun j hj hjl cs2 fz2 ext2 hσ2 => ?_⟩
    by_cases e : j = id
    · subst e
      rw [list_set_at hid] at hσ2; injection hσ2 with hσ2; injection hσ2 with e1 e2 e3; subst e1 e2 e3
      exact ⟨cs, fz, ext, hσ, fun i x hx => .inr ⟨hx, fun _ _ _ => rfl⟩⟩
    · rw [hσne j e] at hσ2
      exact ⟨cs2, fz2, ext2, hσ2, fun i x hx => .inr ⟨hx, fun _ _ _ => rfl⟩⟩
end Go.Mach
