import Derived.Test.YtkempedphjopmaaMachI
set_option linter.unusedVariables false
set_option linter.unusedSimpArgs false
set_option linter.unnecessarySimpa false
namespace Go.Mach
open Go.RowKit

section
variable {P : Program} {bs : Nat} {g : Gh} {ow : Nat → Option Nat} {σ σ' : Heap} {w : World} {ρ : Regs} {a : Act} {v : AV}

theorem agg_VR {cs : List AV} {cv : Array Value} (hl : cs.length = cv.size) (hV : ∀ (i : Nat) x, cs[i]? = some x → x.cellv = true ∧ ∃ v, cv[i]? = some v ∧ VR g x v) : VR g (.agg cs) (.agg cv) := by
  refine .agg hl (fun x hx => ?_) fun i x v hx hv => ?_
  · obtain ⟨i, hi, rfl⟩ := List.getElem_of_mem hx; exact (hV i _ (List.getElem?_eq_getElem hi)).1
  · obtain ⟨_, u, hu, hV'⟩ := hV i x hx; rw [hu] at hv; injection hv with hv; subst hv; exact hV'

theorem s_buildS (h : HR g ow σ w) (hR : RR g ρ a.tmps) {t : TypeId} {fs : Array Field} (ht : P.underlying t = some (.struct fs)) {sizes : List (Nat × Nat)}
    (hsz : (fs.toList.mapM fun f => (sizeT P f.type).map fun s => (f.offset, s)) = some sizes) {zs : List AV} (hz : zeroT P t = some zs) {parts : Array (Nat × Operand)} {ps : List (Nat × Nat × AX)}
    (hp : allParts (fun i => sizes[i]?) parts.toList = some ps) {cs : List AV} (hf : fillA ρ zs ps = some cs) :
    OpOut bs g ow σ w (Sem.run P (do pure (Next.value (← Instr.build t (parts.map fun (i, x) => (i, a.eval x))))) w) (.agg cs) σ := by
  obtain ⟨z, hr, hl, hv⟩ := run_zeroT hz
  have hm : ∀ (l : List Field) (sizes : List (Nat × Nat)), (l.mapM fun f => (sizeT P f.type).map fun s => (f.offset, s)) = some sizes → ∀ w, Sem.run P (l.mapM fun f => do pure (f.offset, ← sizeOf f.type)) w = .ok sizes w := by
    intro l
    induction l with
    | nil => intro s hs w; simp at hs; subst hs; simp
    | cons f l ih =>
      intro s hs w
      rw [List.mapM_cons] at hs
      simp only [Option.bind_eq_bind, Option.bind_eq_some_iff, Option.pure_def] at hs
      obtain ⟨x, hx, ys, hys, e⟩ := hs
      injection e with e; subst e
      obtain ⟨s, hs, rfl⟩ := Option.map_eq_some_iff.1 hx
      simp only [List.mapM_cons, Sem.run_bind, run_sizeT hs, Result.andThen_ok, Sem.run_pure, ih ys hys]
  have hma : ∀ w, Sem.run P (fs.mapM fun f => do pure (f.offset, ← sizeOf f.type)) w = .ok sizes.toArray w := by
    intro w
    have := hm fs.toList sizes hsz w
    rw [← Array.toList_mapM] at this
    rw [Sem.run_map] at this
    cases hx : Sem.run P (fs.mapM fun f => do pure (f.offset, ← sizeOf f.type)) w with
    | ok x w' => rw [hx] at this; simp at this; obtain ⟨rfl, rfl⟩ := this; simp
    | halt x w' => rw [hx] at this; simp at this
  obtain ⟨cv', hfill, hl', hV'⟩ := fill_sound hR (place := fun i => sizes.toArray[i]?) (by intro i; simp) parts.toList ps zs cs z.cells hp hf hl (fun i x hx => hv g i x hx)
  refine OpOut.pure h (cv := .agg cv') ?_ (agg_VR hl' hV')
  simp only [Instr.build, Sem.run_bind, hr, Result.andThen_ok, run_und ht, hma]
  simp only [List.getElem?_toArray] at hfill
  simp [hfill]
theorem s_buildA (h : HR g ow σ w) (hR : RR g ρ a.tmps) {t e : TypeId} {n s : Nat} (ht : P.underlying t = some (.array n e)) (hsz : sizeT P e = some s) {zs : List AV} (hz : zeroT P t = some zs) {parts : Array (Nat × Operand)} {ps : List (Nat × Nat × AX)}
    (hp : allParts (fun i => some (i * s, s)) parts.toList = some ps) {cs : List AV} (hf : fillA ρ zs ps = some cs) :
    OpOut bs g ow σ w (Sem.run P (do pure (Next.value (← Instr.build t (parts.map fun (i, x) => (i, a.eval x))))) w) (.agg cs) σ := by
  obtain ⟨z, hr, hl, hv⟩ := run_zeroT hz
  obtain ⟨cv', hfill, hl', hV'⟩ := fill_sound hR (place := fun i => some (i * s, s)) (by intro i; rfl) parts.toList ps zs cs z.cells hp hf hl (fun i x hx => hv g i x hx)
  refine OpOut.pure h (cv := .agg cv') ?_ (agg_VR hl' hV')
  simp only [Instr.build, Sem.run_bind, hr, Result.andThen_ok, run_und ht, run_sizeT hsz]
  simp [hfill]
theorem rep_get {zs : List AV} {s n : Nat} (hs : zs.length = s) (h0 : 0 < s) {z : Array Value} (hl : zs.length = z.size) (hV : ∀ (i : Nat) x, zs[i]? = some x → x.cellv = true ∧ ∃ v, z[i]? = some v ∧ VR g x v) :
    ((List.replicate n zs).flatten).length = n * s ∧ ∀ (i : Nat) x, ((List.replicate n zs).flatten)[i]? = some x → i < n * s ∧ x.cellv = true ∧ ∃ v, z[i % s]? = some v ∧ VR g x v := by
  have hlen : ∀ n, ((List.replicate n zs).flatten).length = n * s := fun n => by simp [hs]
  refine ⟨hlen n, ?_⟩
  induction n with
  | zero => intro i x hx; simp at hx
  | succ n ih =>
    intro i x hx
    have hi : i < (n + 1) * s := by rw [← hlen]; exact getL hx
    rw [List.replicate_succ, List.flatten_cons] at hx
    rcases Nat.lt_or_ge i zs.length with hlt | hge
    · rw [List.getElem?_append_left hlt] at hx
      rw [Nat.mod_eq_of_lt (by omega)]
      exact ⟨hi, hV i x hx⟩
    · rw [List.getElem?_append_right hge] at hx
      obtain ⟨_, h1, h2⟩ := ih _ _ hx
      refine ⟨hi, h1, ?_⟩
      rw [hs, ← Nat.mod_eq_sub_mod (by omega)] at h2; exact h2
theorem fillA_length (ρ : Regs) : ∀ (ps : List (Nat × Nat × AX)) (zs cs : List AV), fillA ρ zs ps = some cs → cs.length = zs.length
  | [], zs, cs, h => by simp only [fillA] at h; injection h with h; subst h; rfl
  | (o, s, x) :: ps, zs, cs, h => by
    simp only [fillA] at h
    split at h
    · rw [fillA_length ρ ps _ _ h, setRun_length]
    · cases h
theorem s_buildSl (hR : RR g ρ a.tmps) {t e : TypeId} {n s : Nat} {ag : Bool} (ht : P.underlying t = some (.slice e)) (hsz : sizeT P e = some s) {zs : List AV} (hz : zeroT P e = some zs) (hb : n * s ≤ 16777216)
    (hzl : zs.length = s) (h0 : 0 < s) {parts : Array (Nat × Operand)} {ps : List (Nat × Nat × AX)} (hp : allParts (fun i => some (i * s, s)) parts.toList = some ps) {cs : List AV} (hf : fillA ρ ((List.replicate n zs).flatten) ps = some cs) :
    NewRes g w (Sem.run P (do pure (Next.value (← Instr.buildSlice t n (parts.map fun (i, x) => (i, a.eval x))))) w) (fun id => .sl id 0 n s ag) (.cells cs 0 false) := by
  obtain ⟨z, hr, hl, hv⟩ := run_zeroT hz
  obtain ⟨hrl, hrv⟩ := rep_get (g := g) (n := n) hzl h0 hl (fun i x hx => hv g i x hx)
  have hget : ∀ i, i < n * s → ((Array.range (n * s)).map fun i => z.cells[i % z.cells.size]!)[i]? = z.cells[i % s]? := fun i hi => by
    have hzs : z.cells.size = s := by omega
    have : i % s < z.cells.size := by rw [hzs]; exact Nat.mod_lt _ h0
    simp [hi, hzs, getElem!_pos z.cells (i % s) this, Array.getElem?_eq_getElem this]
  obtain ⟨cv', hfill, hl', hV'⟩ := fill_sound hR (place := fun i => some (i * s, s)) (by intro i; rfl) parts.toList ps _ cs ((Array.range (n * s)).map fun i => z.cells[i % z.cells.size]!) hp hf (by rw [hrl]; simp) (fun i x hx => by
    obtain ⟨h1, h2, h3⟩ := hrv i x hx; exact ⟨h2, by rw [hget i h1]; exact h3⟩)
  have hcl : cs.length = n * s := by rw [fillA_length _ _ _ _ hf, hrl]
  refine out_new (t := e) (mkv := fun x => .slice (some x) n n) hl' hV' ?_ fun g' id hp => .sl hp (by omega) h0 (Nat.le_refl _)
  have hb' : ¬ (n * s > 2 ^ 24) := by omega
  simp only [Instr.buildSlice, Sem.run_bind, run_und ht, Result.andThen_ok, run_sizeT hsz, if_neg hb']
  by_cases h0' : n * s = 0
  · have hn0 : n = 0 := by rcases Nat.mul_eq_zero.1 h0' with h | h <;> omega
    subst hn0
    have e0 : ∀ f : Nat → Value, (Array.range 0).map f = #[] := fun f => by apply Array.ext'; simp [Array.range]
    simp only [Nat.zero_mul, e0] at hfill ⊢
    simp [hfill, newRow]
  · simp only [if_neg h0', Sem.run_bind, hr, Result.andThen_ok, Sem.run_pure]
    simp [hfill, newRow]
end
end Go.Mach
