import Derived.Test.YtkempedphjopmaaMachH
set_option linter.unusedVariables false
set_option linter.unusedSimpArgs false
set_option linter.unnecessarySimpa false
namespace Go.Mach
open Go.RowKit

def OpOut (bs : Nat) (g : Gh) (ow : Nat → Option Nat) (σ : Heap) (w : World) (r : Result Next) (v : AV) (σ' : Heap) : Prop :=
  ∃ g' ow' w' cv, (r = .ok (.value cv) w' ∨ (r = .ok .skip w' ∧ cv = Go.undef)) ∧ VR g' v cv ∧ HR g' ow' σ' w' ∧ St bs g ow σ w g' ow' σ' w'
theorem OpOut.pure {bs g ow σ w r v cv} (h : HR g ow σ w) (hr : r = .ok (.value cv) w) (hv : VR g v cv) : OpOut bs g ow σ w r v σ :=
  ⟨g, ow, w, cv, .inl hr, hv, h, .refl ..⟩

section
variable {P : Program} {bs : Nat} {g : Gh} {ow : Nat → Option Nat} {σ : Heap} {w : World} {ρ : Regs} {a : Act}

theorem getL {α : Type} {l : List α} {i : Nat} {x : α} (h : l[i]? = some x) : i < l.length := (List.getElem?_eq_some_iff.1 h).1

/-- A new block, and what object stands for it. -/
def NewRes (g : Gh) (w : World) (r : Result Next) (mkAV : Nat → AV) (obj : AObj) : Prop :=
  ∃ w' o c cv, r = .ok (.value cv) w' ∧ w'.heap = w.heap.push o ∧ Same w w' ∧
    (∀ cs fz ext, obj = .cells cs fz ext → ∃ cvs tag fr, o = .cells cvs tag fr ∧ cs.length ≤ c ∧ c ≤ cvs.size ∧ (ext = false → c = cs.length) ∧
      (∀ (i : Nat) x, cs[i]? = some x → x.cellv = true ∧ ∃ v, cvs[i]? = some v ∧ VR g x v) ∧ (∀ i, i < cs.length → ¬ (fr.1 ≤ i ∧ i < fr.2))) ∧
    (∀ s pos, obj = .iter s pos → o = .stringIter s pos) ∧ (∀ n s, obj ≠ .tok n s) ∧
    (∀ g' id, g'.φ id = some (w.heap.size, c) → VR g' (mkAV id) cv)
theorem OpOut.ofNew (h : HR g ow σ w) {r : Result Next} {mkAV : Nat → AV} {obj : AObj} (hn : NewRes g w r mkAV obj) : OpOut bs g ow σ w r (mkAV σ.length) (σ ++ [obj]) := by
  obtain ⟨w', o, c, cv, hr, hw, hs, hc, hi, ht, hv⟩ := hn
  have hno := h.none_len (Nat.le_refl σ.length)
  refine ⟨g.put σ.length w.heap.size c, upd ow w.heap.size σ.length, w', cv, .inl hr, hv _ _ (by simp [Gh.put]), ?_, ?_⟩
  · refine h.newAt hw hno.1 (fun n s e => ?_) (by simp) (by simp) (fun j hj _ => List.getElem?_append_left hj) (fun j hj _ => h.none_len hj) c (fun cs fz ext e => ?_) (fun s pos e => ?_)
    · simp at e; exact ht n s e
    · simp at e; exact hc cs fz ext e
    · simp at e; exact hi s pos e
  · exact St.newAt h hw hs (Nat.le_refl _) (by simp) (fun j hj _ => List.getElem?_append_left hj) c
/-- A new block of cells. -/
theorem out_new {cs : List AV} {cv : Array Value} {t : TypeId} (hl : cs.length = cv.size) (hV : ∀ (i : Nat) x, cs[i]? = some x → x.cellv = true ∧ ∃ v, cv[i]? = some v ∧ VR g x v)
    {r : Result Next} {mkv : Addr → Value} {mkAV : Nat → AV} (hr : r = .ok (.value (mkv ⟨w.heap.size, 0, none⟩)) (w.alloc (.cells cv t)))
    (hv : ∀ g' id, g'.φ id = some (w.heap.size, cs.length) → VR g' (mkAV id) (mkv ⟨w.heap.size, 0, none⟩)) : NewRes g w r mkAV (.cells cs 0 false) :=
  ⟨_, _, cs.length, _, hr, rfl, ⟨rfl, rfl, rfl⟩, fun cs' fz ext e => by
    injection e with e1 e2 e3; subst e1 e2 e3
    exact ⟨cv, t, (0, 0), rfl, Nat.le_refl _, by omega, fun _ => rfl, hV, fun i _ => by simp⟩, fun s pos e => (by cases e), fun n s e => (by cases e), hv⟩

theorem s_alloc {e : TypeId} {zs : List AV} (hz : zeroT P e = some zs) :
    NewRes g w (Sem.run P (do pure (Next.value (← Instr.alloc e true (.tuple #[])))) w) (fun id => .ptr id 0) (.cells zs 0 false) := by
  obtain ⟨z, hr, hl, hv⟩ := run_zeroT hz
  refine out_new (t := e) (mkv := fun x => .pointer (some x)) hl (hv g) ?_ fun g' id hp => .ptr hp
  simp [Instr.alloc, hr, newVar, newRow]
theorem s_box {e : TypeId} {x : AV} {cv : Value} (hx : VR g x cv) (hs : x.solid = true) :
    NewRes g w (Sem.run P (do pure (Next.value (← Instr.box e cv))) w) (fun id => .ptr id 0) (.cells x.cells 0 false) := by
  obtain ⟨hl, hv⟩ := hx.cells hs
  refine out_new (t := e) (mkv := fun x => .pointer (some x)) hl (fun i y hy => ?_) ?_ fun g' id hp => .ptr hp
  · obtain ⟨a, u, hu, _, hV⟩ := hv i y hy; exact ⟨a, u, hu, hV⟩
  · simp [Instr.box, newVar, newRow]

/-- The parts of a literal. -/
theorem fill_sound (hR : RR g ρ a.tmps) {size : Nat → Option (Nat × Nat)} {place : Nat → Option (Nat × Nat)} (hpl : ∀ i, place i = size i) :
    ∀ (parts : List (Nat × Operand)) (ps : List (Nat × Nat × AX)) (zs cs : List AV) (cv : Array Value), allParts size parts = some ps → fillA ρ zs ps = some cs → zs.length = cv.size →
      (∀ (i : Nat) x, zs[i]? = some x → x.cellv = true ∧ ∃ v, cv[i]? = some v ∧ VR g x v) →
      ∃ cv', Instr.fill place cv (parts.map fun (i, x) => (i, a.eval x)) = some cv' ∧ cs.length = cv'.size ∧ ∀ (i : Nat) x, cs[i]? = some x → x.cellv = true ∧ ∃ v, cv'[i]? = some v ∧ VR g x v
  | [], ps, zs, cs, cv, hp, hf, hl, hV => by
    simp only [allParts] at hp; injection hp with hp; subst hp
    simp only [fillA] at hf; injection hf with hf; subst hf
    exact ⟨cv, rfl, hl, hV⟩
  | (i, x) :: rest, ps, zs, cs, cv, hp, hf, hl, hV => by
    simp only [allParts, Option.bind_eq_bind, Option.bind_eq_some_iff] at hp
    obtain ⟨⟨off, sz⟩, hsz, y, hy, r, hr, e⟩ := hp
    simp only at e hr hy
    injection e with e; subst e
    simp only [fillA] at hf
    split at hf
    · rename_i hc
      obtain ⟨hso, hlen, hle⟩ := hc
      have hv := ev_VR hR hy
      obtain ⟨h1, h2⟩ := hv.cells hso
      have hfold : ∀ (l : List Value) (cv : Array Value) (o : Nat), ((l.toArray.zipIdx.foldl (fun cs (c, j) => cs.setIfInBounds (o + j) c) cv)) = setRunA cv o l := by
        intro l
        suffices hg : ∀ (l : List Value) (cv : Array Value) (o k : Nat), (l.zipIdx k).foldl (fun cs (c, j) => cs.setIfInBounds (o + j) c) cv = setRunA cv (o + k) l by
          intro cv o
          rw [← Array.foldl_toList]
          have := hg l cv o 0
          simpa using this
        intro l
        induction l with
        | nil => intro cv o k; rfl
        | cons c l ih => intro cv o k; simp only [List.zipIdx_cons, List.foldl_cons, setRunA]; rw [ih, Nat.add_assoc]
      have hcv := hfold (a.eval x).cells.toList cv off
      rw [Array.toArray_toList] at hcv
      obtain ⟨cv', hfill, hl', hV'⟩ := fill_sound hR hpl rest r (setRun zs off (ev ρ y).cells) cs (setRunA cv off (a.eval x).cells.toList) hr hf (by rw [setRun_length, setRunA_size]; exact hl) (fun j z hz => by
        rw [setRun_get _ _ _ _ (by omega)] at hz
        rw [setRunA_get _ _ _ _ (by simp; omega)]
        have hsz' : (a.eval x).cells.toList.length = (ev ρ y).cells.length := by simp [h1]
        rw [hsz']
        split at hz
        · rename_i hc; rw [if_pos hc]
          obtain ⟨b1, u, hu, _, hV⟩ := h2 _ _ hz
          exact ⟨b1, u, by simpa using hu, hV⟩
        · rename_i hc; rw [if_neg hc]; exact hV j z hz)
      refine ⟨cv', ?_, hl', hV'⟩
      simp only [List.map_cons, Instr.fill, hpl, hsz]
      rw [if_neg (by simp; omega), hcv]
      exact hfill
    · cases hf
end
end Go.Mach
