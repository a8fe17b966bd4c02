import Derived.Test.YtkempedphjopmaaMachF
set_option linter.unusedVariables false
set_option linter.unusedSimpArgs false
set_option linter.unnecessarySimpa false
namespace Go.Mach
open Go.RowKit

/-! ### Rows that may be led on -/
/-- The M and ψ behind an append: block b holds version n of token id from p on; its cells lo up to hi are frozen. -/
def Gh.tk (g : Gh) (id n b p c lo hi : Nat) (cv : Array Value) : Gh :=
  ⟨g.φ, fun j m => if j = id ∧ m = n then some (b, p, c) else g.ψ j m, fun b' i => if b' = b ∧ lo ≤ i ∧ i < hi then cv[i]? else g.M b' i⟩

theorem own_VR {g : Gh} {id : Nat} {es : List AV} {b p c s : Nat} (hc : ∀ e ∈ es, e.clo = true ∧ e.cells.length = s) (hs : 0 < s) (h : g.ψ id es.length = some (b, p, c)) (hn : es.length ≤ c)
    (hv : ∀ (i : Nat) x, (flat es)[i]? = some x → ∃ v, g.M b (p + i) = some v ∧ VR g x v) : VR g (.own id es) (.slice (some ⟨b, p, none⟩) es.length c) := by
  refine .own (fun i => (g.M b (p + i)).getD Go.undef) hc hs h hn (fun i x hx => ?_) (fun i x hx => ?_)
  · obtain ⟨v, hm, _⟩ := hv i x hx; simp [hm]
  · obtain ⟨v, hm, hV⟩ := hv i x hx; simpa [hm] using hV
theorem isl_VR {g : Gh} {es : List AV} {cap0 : Bool} {a : Option Addr} {b p c s : Nat} (hc : ∀ e ∈ es, e.clo = true ∧ e.cells.length = s) (hs : 0 < s) (ha : es = [] ∨ a = some ⟨b, p, none⟩)
    (hcap : cap0 = true → c = es.length) (hn : es.length ≤ c)
    (hv : ∀ (i : Nat) x, (flat es)[i]? = some x → ∃ v, g.M b (p + i) = some v ∧ VR g x v) : VR g (.isl es cap0) (.slice a es.length c) := by
  refine .isl (fun i => (g.M b (p + i)).getD Go.undef) hc hs ha hcap hn (fun i x hx => ?_) (fun i x hx => ?_)
  · obtain ⟨v, hm, _⟩ := hv i x hx; simp [hm]
  · obtain ⟨v, hm, hV⟩ := hv i x hx; simpa [hm] using hV

theorem flat_length {es : List AV} {s : Nat} (hc : ∀ e ∈ es, e.cells.length = s) : (flat es).length = es.length * s := by
  induction es with
  | nil => simp [flat]
  | cons e es ih =>
    have h1 := hc e (by simp)
    have h2 := ih fun e he => hc e (by simp [he])
    simp only [flat, List.flatMap_cons, List.length_append, List.length_cons] at h2 ⊢
    rw [h2, h1, Nat.add_mul, Nat.one_mul, Nat.add_comm]
theorem flat_append (xs ys : List AV) : flat (xs ++ ys) = flat xs ++ flat ys := by simp [flat]

/-- A new block for a row that may be led on: a new token, or a token's next version. -/
theorem HR.tokNew {bs g ow σ w w'} (h : HR g ow σ w) {cv : Array Value} {tag : TypeId} (hw : w'.heap = w.heap.push (.cells cv tag (0, 0))) (hs : Same w w')
    {id n s c : Nat} {σ' : List AObj} (hσ' : (id = σ.length ∧ σ' = σ ++ [.tok n s]) ∨ (∃ n0, σ[id]? = some (.tok n0 s) ∧ n0 < n ∧ σ' = σ.set id (.tok n s)))
    (hcap : c * s ≤ cv.size) (hn : n ≤ c) :
    g.le (g.tk id n w.heap.size 0 c 0 (n * s) cv) ∧ HR (g.tk id n w.heap.size 0 c 0 (n * s) cv) (upd ow w.heap.size id) σ' w' ∧
      St bs g ow σ w (g.tk id n w.heap.size 0 c 0 (n * s) cv) (upd ow w.heap.size id) σ' w' := by
  have hψn : ∀ m, n ≤ m → g.ψ id m = none := fun m hm => by
    cases hg : g.ψ id m with
    | none => rfl
    | some x =>
      rcases hσ' with ⟨e, _⟩ | ⟨n0, h0, hlt, _⟩
      · exact absurd (h.domψ id m x hg) (by omega)
      · have := h.tle id n0 s h0 m x hg; omega
  have hMn : ∀ i, g.M w.heap.size i = none := fun i => by
    cases hm : g.M w.heap.size i with
    | none => rfl
    | some v => exact absurd (h.lt hm) (Nat.lt_irrefl _)
  have hold : ∀ b, b < w.heap.size → w'.heap[b]? = w.heap[b]? := fun b hb => by rw [hw, Array.getElem?_push]; simp [Nat.ne_of_lt hb]
  have hnew : w'.heap[w.heap.size]? = some (.cells cv tag (0, 0)) := by rw [hw]; simp
  have how : ∀ b, b < w.heap.size → upd ow w.heap.size id b = ow b := fun b hb => by simp [upd, Nat.ne_of_lt hb]
  have hsz : w'.heap.size = w.heap.size + 1 := by rw [hw]; simp
  have hMo : ∀ b i, b < w.heap.size → (g.tk id n w.heap.size 0 c 0 (n * s) cv).M b i = g.M b i := fun b i hb => by simp [Gh.tk, Nat.ne_of_lt hb]
  have hle : g.le (g.tk id n w.heap.size 0 c 0 (n * s) cv) := ⟨fun _ _ hx => hx, fun j m x hx => by
    simp only [Gh.tk]; split
    · rename_i e; obtain ⟨rfl, rfl⟩ := e; rw [hψn _ (Nat.le_refl _)] at hx; cases hx
    · exact hx, fun b i v hm => by
    by_cases e : b = w.heap.size
    · subst e; rw [hMn] at hm; cases hm
    · simp [Gh.tk, e, hm]⟩
  have hlen : σ.length ≤ σ'.length := by rcases hσ' with ⟨_, rfl⟩ | ⟨_, _, _, rfl⟩ <;> simp
  have hidl : id < σ'.length := by
    rcases hσ' with ⟨rfl, rfl⟩ | ⟨_, h0, _, rfl⟩
    · simp
    · simpa using (List.getElem?_eq_some_iff.1 h0).1
  have hat : σ'[id]? = some (.tok n s) := by
    rcases hσ' with ⟨rfl, rfl⟩ | ⟨_, h0, _, rfl⟩
    · simp
    · exact list_set_at (List.getElem?_eq_some_iff.1 h0).1
  have hne : ∀ j, j ≠ id → j < σ.length → σ'[j]? = σ[j]? := fun j hj hl => by
    rcases hσ' with ⟨rfl, rfl⟩ | ⟨_, h0, _, rfl⟩
    · exact List.getElem?_append_left hl
    · exact list_set_ne hj
  have hψ : ∀ j m x, (g.tk id n w.heap.size 0 c 0 (n * s) cv).ψ j m = some x → (j = id ∧ m = n ∧ x = (w.heap.size, 0, c)) ∨ (¬ (j = id ∧ m = n) ∧ g.ψ j m = some x) := fun j m x hx => by
    simp only [Gh.tk] at hx; split at hx
    · rename_i e; injection hx with hx; exact .inl ⟨e.1, e.2, hx.symm⟩
    · exact .inr ⟨by assumption, hx⟩
  refine ⟨hle, ⟨fun b i v hm => ?_, fun j x hx => ?_, fun j m x hx => ?_, ?_, ?_, ?_, ?_⟩, ?_⟩
  · by_cases e : b = w.heap.size
    · subst e
      rw [cell_heap hnew]
      simp only [Gh.tk] at hm; split at hm
      · exact hm
      · rw [hMn] at hm; cases hm
    · have hm' : g.M b i = some v := by simpa [Gh.tk, e] using hm
      rw [cell_congr (hold b (h.lt hm')) i]; exact h.mem b i v hm'
  · have := h.dom j x hx; exact ⟨by omega, by omega⟩
  · rcases hψ j m x hx with ⟨rfl, _, _⟩ | ⟨_, hx⟩
    · exact hidl
    · exact Nat.lt_of_lt_of_le (h.domψ j m x hx) hlen
  · intro j cs fz ext hσ b c' hp
    have hj : j ≠ id := fun e => by subst e; rw [hat] at hσ; injection hσ with hσ; cases hσ
    have hd := h.dom j _ hp
    rw [hne j hj hd.1] at hσ
    obtain ⟨cv2, tag2, fr2, m0, m1, m2, m3, m4, m5, m6⟩ := h.cel j cs fz ext hσ b c' hp
    refine ⟨cv2, tag2, fr2, (hold b hd.2).trans m0, m1, m2, m3, fun i x hx => ?_, (how b hd.2).trans m5, fun i hi1 hi2 => ?_⟩
    · obtain ⟨a, v, b', c''⟩ := m4 i x hx; exact ⟨a, v, b', c''.mono hle⟩
    · rw [hMo b i hd.2]; exact m6 i hi1 hi2
  · intro j m s' hσ b p c' hp
    by_cases e : j = id
    · subst e
      rw [hat] at hσ; injection hσ with hσ; injection hσ with e1 e2; subst e1 e2
      rcases hψ _ _ _ hp with ⟨_, _, hx⟩ | ⟨hx, _⟩
      · injection hx with e1 hx; injection hx with e2 e3; subst e1 e2 e3
        exact ⟨cv, tag, (0, 0), hnew, by omega, hn, by simp [upd], fun i hi => ⟨by simp only [Gh.tk]; rw [if_neg (by omega)]; exact hMn i, fun _ => by simp⟩⟩
      · exact absurd ⟨rfl, rfl⟩ hx
    · rcases hψ _ _ _ hp with ⟨e', _, _⟩ | ⟨_, hp'⟩
      · exact absurd e' e
      · rw [hne j e (h.domψ j _ _ hp')] at hσ
        obtain ⟨cv2, tag2, fr2, m0, m1, m2, m3, m4⟩ := h.tk j m s' hσ b p c' hp'
        have hb : b < w.heap.size := (Array.getElem?_eq_some_iff.1 m0).1
        exact ⟨cv2, tag2, fr2, (hold b hb).trans m0, m1, m2, (how b hb).trans m3, fun i hi => by rw [hMo b i hb]; exact m4 i hi⟩
  · intro j m s' hσ m' x hp
    by_cases e : j = id
    · subst e
      rw [hat] at hσ; injection hσ with hσ; injection hσ with e1 e2; subst e1 e2
      rcases hψ _ _ _ hp with ⟨_, hx, _⟩ | ⟨_, hx⟩
      · omega
      · rcases Nat.lt_or_ge m' n with hl | hl
        · omega
        · rw [hψn m' hl] at hx; cases hx
    · rcases hψ _ _ _ hp with ⟨e', _, _⟩ | ⟨_, hp'⟩
      · exact absurd e' e
      · rw [hne j e (h.domψ j _ _ hp')] at hσ
        exact h.tle j m s' hσ m' x hp'
  · intro j s2 pos hσ b c' hp
    have hj : j ≠ id := fun e => by subst e; rw [hat] at hσ; injection hσ with hσ; cases hσ
    have hd := h.dom j _ hp
    rw [hne j hj hd.1] at hσ
    obtain ⟨m0, m1⟩ := h.it j s2 pos hσ b c' hp
    exact ⟨(hold b hd.2).trans m0, (how b hd.2).trans m1⟩
  · refine ⟨hle, hs.os, hs.tape, hs.output, by omega, fun b hb ho => ⟨hold b hb, (how b hb).trans ho⟩, hlen, fun _ _ hh => hh, fun b hb _ i => (by simp [Gh.tk, Nat.ne_of_lt hb]), fun j hj hjl cs fz ext hσ => ?_⟩
    have e : j ≠ id := fun e => by subst e; rw [hat] at hσ; injection hσ with hσ; cases hσ
    rw [hne j e hjl] at hσ
    exact ⟨cs, fz, ext, hσ, fun i x hx => .inr ⟨hx, fun b c hp => cell_congr (hold b (h.dom j _ hp).2) i⟩⟩

/-- A token's next version in the block of the one before. -/
theorem HR.tokIn {bs g ow σ w w'} (h : HR g ow σ w) {id n0 n s b p c : Nat} (hσ : σ[id]? = some (.tok n0 s)) (hp : g.ψ id n0 = some (b, p, c)) (hlt : n0 < n) (hn : n ≤ c)
    {cv cv' : Array Value} {tag : TypeId} {fr : Nat × Nat} (hb : w.heap[b]? = some (.cells cv tag fr)) (hw : w'.heap = w.heap.setIfInBounds b (.cells cv' tag fr)) (hs : Same w w')
    (hsz : cv'.size = cv.size) (hkeep : ∀ i, i < p + n0 * s → cv'[i]? = cv[i]?) :
    g.le (g.tk id n b p c (p + n0 * s) (p + n * s) cv') ∧ HR (g.tk id n b p c (p + n0 * s) (p + n * s) cv') ow (σ.set id (.tok n s)) w' ∧
      St bs g ow σ w (g.tk id n b p c (p + n0 * s) (p + n * s) cv') ow (σ.set id (.tok n s)) w' := by
  obtain ⟨cv0, tag0, fr0, k0, k1, k2, k5, k6⟩ := h.tk id n0 s hσ b p c hp
  rw [hb] at k0; injection k0 with k0; injection k0 with e1 e2 e3; subst e1 e2 e3
  have hid := (List.getElem?_eq_some_iff.1 hσ).1
  have hbl : b < w.heap.size := (Array.getElem?_eq_some_iff.1 hb).1
  have hat := heap_set_at hw hbl
  have hne := heap_set hw
  have hsize : w'.heap.size = w.heap.size := by rw [hw]; simp
  have hψn : ∀ m, n ≤ m → g.ψ id m = none := fun m hm => by
    cases hg : g.ψ id m with
    | none => rfl
    | some x => have := h.tle id n0 s hσ m x hg; omega
  have hle : g.le (g.tk id n b p c (p + n0 * s) (p + n * s) cv') := ⟨fun _ _ hx => hx, fun j m x hx => by
    simp only [Gh.tk]; split
    · rename_i e; obtain ⟨rfl, rfl⟩ := e; rw [hψn _ (Nat.le_refl _)] at hx; cases hx
    · exact hx, fun b' i v hm => by
    simp only [Gh.tk]; split
    · rename_i e; obtain ⟨rfl, e1, e2⟩ := e; rw [(k6 i e1).1] at hm; cases hm
    · exact hm⟩
  have hσne : ∀ j, j ≠ id → (σ.set id (.tok n s))[j]? = σ[j]? := fun j hj => list_set_ne hj
  have hMne : ∀ b' i, b' ≠ b → (g.tk id n b p c (p + n0 * s) (p + n * s) cv').M b' i = g.M b' i := fun b' i hh => by simp [Gh.tk, hh]
  have hψ : ∀ j m x, (g.tk id n b p c (p + n0 * s) (p + n * s) cv').ψ j m = some x → (j = id ∧ m = n ∧ x = (b, p, c)) ∨ (¬ (j = id ∧ m = n) ∧ g.ψ j m = some x) := fun j m x hx => by
    simp only [Gh.tk] at hx; split at hx
    · rename_i e; injection hx with hx; exact .inl ⟨e.1, e.2, hx.symm⟩
    · exact .inr ⟨by assumption, hx⟩
  refine ⟨hle, ⟨fun b' i v hm => ?_, fun j x hx => by simp only [List.length_set, hsize]; exact h.dom j x hx, fun j m x hx => ?_, ?_, ?_, ?_, ?_⟩, ?_⟩
  · by_cases e : b' = b
    · subst e
      rw [cell_heap hat]
      simp only [Gh.tk] at hm; split at hm
      · exact hm
      · have hlow : i < p + n0 * s := by
          rcases Nat.lt_or_ge i (p + n0 * s) with hl | hl
          · exact hl
          · rw [(k6 i hl).1] at hm; cases hm
        rw [hkeep i hlow, ← cell_heap hb]; exact h.mem _ _ _ hm
    · rw [hMne b' i e] at hm; rw [cell_congr (hne b' e) i]; exact h.mem _ _ _ hm
  · rw [List.length_set]
    rcases hψ j m x hx with ⟨rfl, _, _⟩ | ⟨_, hx⟩
    · exact hid
    · exact h.domψ j m x hx
  · intro j cs fz ext hσ2 b2 c' hp2
    have hj : j ≠ id := fun e => by subst e; rw [list_set_at hid] at hσ2; injection hσ2 with hσ2; cases hσ2
    rw [hσne j hj] at hσ2
    obtain ⟨cv2, tag2, fr2, m0, m1, m2, m3, m4, m5, m6⟩ := h.cel j cs fz ext hσ2 b2 c' hp2
    have hb2 : b2 ≠ b := fun eb => by subst eb; rw [k5] at m5; injection m5 with m5; exact hj m5.symm
    refine ⟨cv2, tag2, fr2, (hne b2 hb2).trans m0, m1, m2, m3, fun i x hx => ?_, m5, fun i hi1 hi2 => ?_⟩
    · obtain ⟨a, v, b', c''⟩ := m4 i x hx; exact ⟨a, v, b', c''.mono hle⟩
    · rw [hMne b2 i hb2]; exact m6 i hi1 hi2
  · intro j m s' hσ2 b2 p2 c' hp2
    by_cases e : j = id
    · subst e
      rw [list_set_at hid] at hσ2; injection hσ2 with hσ2; injection hσ2 with e1 e2; subst e1 e2
      rcases hψ _ _ _ hp2 with ⟨_, _, hx⟩ | ⟨hx, _⟩
      · injection hx with e1 hx; injection hx with e2 e3; subst e1 e2 e3
        refine ⟨cv', tag, fr, hat, by omega, hn, k5, fun i hi => ⟨?_, fun hi2 => ?_⟩⟩
        · simp only [Gh.tk]; rw [if_neg (by omega)]; exact (k6 i (Nat.le_trans (Nat.add_le_add_left (Nat.mul_le_mul_right _ (Nat.le_of_lt hlt)) _) hi)).1
        · exact (k6 i (Nat.le_trans (Nat.add_le_add_left (Nat.mul_le_mul_right _ (Nat.le_of_lt hlt)) _) hi)).2 (by omega)
      · exact absurd ⟨rfl, rfl⟩ hx
    · rcases hψ _ _ _ hp2 with ⟨e', _, _⟩ | ⟨_, hp'⟩
      · exact absurd e' e
      · rw [hσne j e] at hσ2
        obtain ⟨cv2, tag2, fr2, m0, m1, m2, m3, m4⟩ := h.tk j m s' hσ2 b2 p2 c' hp'
        have hb2 : b2 ≠ b := fun eb => by subst eb; rw [k5] at m3; injection m3 with m3; exact e m3.symm
        exact ⟨cv2, tag2, fr2, (hne b2 hb2).trans m0, m1, m2, m3, fun i hi => by rw [hMne b2 i hb2]; exact m4 i hi⟩
  · intro j m s' hσ2 m' x hp2
    by_cases e : j = id
    · subst e
      rw [list_set_at hid] at hσ2; injection hσ2 with hσ2; injection hσ2 with e1 e2; subst e1 e2
      rcases hψ _ _ _ hp2 with ⟨_, hx, _⟩ | ⟨_, hx⟩
      · omega
      · have := h.tle j n0 s hσ m' x hx; omega
    · rcases hψ _ _ _ hp2 with ⟨e', _, _⟩ | ⟨_, hp'⟩
      · exact absurd e' e
      · rw [hσne j e] at hσ2
        exact h.tle j m s' hσ2 m' x hp'
  · intro j s2 pos hσ2 b2 c' hp2
    have hj : j ≠ id := fun e => by subst e; rw [list_set_at hid] at hσ2; injection hσ2 with hσ2; cases hσ2
    rw [hσne j hj] at hσ2
    obtain ⟨m0, m1⟩ := h.it j s2 pos hσ2 b2 c' hp2
    have hb2 : b2 ≠ b := fun eb => by subst eb; rw [k5] at m1; injection m1 with m1; exact hj m1.symm
    exact ⟨(hne b2 hb2).trans m0, m1⟩
  · refine ⟨hle, hs.os, hs.tape, hs.output, by omega, fun b' hb' ho => ⟨hne b' (fun e => by subst e; rw [k5] at ho; cases ho), ho⟩, by simp, fun _ _ hh => hh, fun b' _ ho i => (by have e : b' ≠ b := (fun e => by subst e; rw [k5] at ho; cases ho); simp [Gh.tk, e]), fun j hj hjl cs fz ext hσ2 => ?_⟩
    have e : j ≠ id := fun e => by subst e; rw [list_set_at hid] at hσ2; injection hσ2 with hσ2; cases hσ2
    rw [hσne j e] at hσ2
    refine ⟨cs, fz, ext, hσ2, fun i x hx => .inr ⟨hx, fun b2 c2 hp2 => ?_⟩⟩
    obtain ⟨cv2, tag2, fr2, m0, m1, m2, m3, m4, m5, m6⟩ := h.cel j cs fz ext hσ2 b2 c2 hp2
    have hb2 : b2 ≠ b := fun eb => by subst eb; rw [k5] at m5; injection m5 with m5; exact e m5.symm
    exact cell_congr (hne b2 hb2) i
end Go.Mach
