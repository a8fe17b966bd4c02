import Derived.Test.YtkempedphjopmaaMachV
set_option linter.unusedVariables false
set_option linter.unusedSimpArgs false
set_option linter.unnecessarySimpa false
namespace Go.Mach
open Go.RowKit

/-! ### Objects that stand for nothing yet -/
theorem HR.extend {g ow σ w} (h : HR g ow σ w) (τ : List AObj) : HR g ow (σ ++ τ) w := by
  have hφ : ∀ id x, g.φ id = some x → (σ ++ τ)[id]? = σ[id]? := fun id x hx => List.getElem?_append_left (h.dom id x hx).1
  have hψ : ∀ id n x, g.ψ id n = some x → (σ ++ τ)[id]? = σ[id]? := fun id n x hx => List.getElem?_append_left (h.domψ id n x hx)
  refine ⟨h.mem, fun id x hx => ⟨by have := (h.dom id x hx).1; simp; omega, (h.dom id x hx).2⟩, fun id n x hx => by have := h.domψ id n x hx; simp; omega, ?_, ?_, ?_, ?_⟩
  · intro id cs fz ext hσ b c hp; rw [hφ id _ hp] at hσ; exact h.cel id cs fz ext hσ b c hp
  · intro id n s hσ b p c hp; rw [hψ id n _ hp] at hσ; exact h.tk id n s hσ b p c hp
  · intro id n s hσ m x hp; rw [hψ id m _ hp] at hσ; exact h.tle id n s hσ m x hp
  · intro id s pos hσ b c hp; rw [hφ id _ hp] at hσ; exact h.it id s pos hσ b c hp
theorem St.extend {bs g0 ow0 σ0 w0 g ow σ w} (s : St bs g0 ow0 σ0 w0 g ow σ w) (τ : List AObj) : St bs g0 ow0 σ0 w0 g ow (σ ++ τ) w :=
  ⟨s.gle, s.os, s.tape, s.output, s.size, s.frame, by have := s.len; simp; omega, s.nonew, s.frM, fun id hi hl cs fz ext hσ => s.disc id hi hl cs fz ext (by
    rw [List.getElem?_append_left (Nat.lt_of_lt_of_le hl s.len)] at hσ; exact hσ)⟩
/-- A block that comes late. -/
theorem St.late {bs g0 ow0 σ0 w0 g ow σ w w'} (s : St bs g0 ow0 σ0 w0 g ow σ w) (h0 : HR g0 ow0 σ0 w0) {o : Obj} (hw : w'.heap = w.heap.push o) (hs : Same w w') {id : Nat} (hid : σ0.length ≤ id) (hn : g.φ id = none) (c : Nat) :
    St bs g0 ow0 σ0 w0 (g.put id w.heap.size c) (upd ow w.heap.size id) σ w' := by
  have hold : ∀ b, b < w.heap.size → w'.heap[b]? = w.heap[b]? := fun b hb => by rw [hw, Array.getElem?_push]; simp [Nat.ne_of_lt hb]
  refine ⟨s.gle.trans (Gh.put_le hn _ _), hs.os.trans s.os, hs.tape.trans s.tape, hs.output.trans s.output, by rw [hw]; simp; have := s.size; omega, fun b hb ho => ?_, s.len, fun j hj hj' => ?_, s.frM, fun j hj hl cs fz ext hσ => ?_⟩
  · obtain ⟨e1, e2⟩ := s.frame b hb ho
    have hb' := Nat.lt_of_lt_of_le hb s.size
    exact ⟨(hold b hb').trans e1, by simp [upd, Nat.ne_of_lt hb', e2]⟩
  · simp only [Gh.put]; rw [if_neg (by omega)]; exact s.nonew j hj hj'
  · obtain ⟨cs0, fz0, ext0, h1, h2⟩ := s.disc j hj hl cs fz ext hσ
    refine ⟨cs0, fz0, ext0, h1, fun i x hx => ?_⟩
    rcases h2 i x hx with h3 | ⟨h3, h4⟩
    · exact .inl h3
    · refine .inr ⟨h3, fun b c' hp => ?_⟩
      rw [← h4 b c' hp]
      exact cell_congr (hold b (Nat.lt_of_lt_of_le (h0.dom j _ hp).2 s.size)) i

/-! ### One run, step by step -/
def StepR (call : CallF) (bs : Nat) (o : AOper) (ρ : Regs) (σ : Heap) (ρ' : Regs) (σ' : Heap) : Prop :=
  (guardA ρ o.guard = some true ∧ ∃ v, stepAll call bs ρ σ o.op = some (v, σ') ∧ chkA ρ σ σ' o.chk ∧ ρ' = setDst ρ o.dst v) ∨
  (guardA ρ o.guard = some false ∧ σ' = σ ∧ ρ' = setDst ρ o.dst (.tup []))
theorem run_steps {call : CallF} {bs : Nat} : ∀ (os : List AOper) (ρ : Regs) (σ : Heap) (ρ' : Regs) (σ' : Heap), runOps call bs os ρ σ = some (ρ', σ') →
    ∃ (R : Nat → Regs) (H : Nat → Heap), R 0 = ρ ∧ H 0 = σ ∧ R os.length = ρ' ∧ H os.length = σ' ∧ ∀ i o, os[i]? = some o → StepR call bs o (R i) (H i) (R (i + 1)) (H (i + 1))
  | [], ρ, σ, ρ', σ', h => by
    simp only [runOps] at h; injection h with h; injection h with e1 e2
    exact ⟨fun _ => ρ, fun _ => σ, rfl, rfl, e1, e2, fun i o ho => by simp at ho⟩
  | o :: os, ρ, σ, ρ', σ', h => by
    simp only [runOps] at h
    obtain ⟨b, hb, h⟩ := Option.bind_eq_some_iff.1 h
    have key : ∃ ρ1 σ1, StepR call bs o ρ σ ρ1 σ1 ∧ runOps call bs os ρ1 σ1 = some (ρ', σ') := by
      cases b with
      | true =>
        simp only at h
        obtain ⟨⟨v, σ1⟩, hr, h⟩ := Option.bind_eq_some_iff.1 h
        obtain ⟨u, hu, h⟩ := Option.bind_eq_some_iff.1 h
        exact ⟨_, _, .inl ⟨hb, v, hr, chkO_some hu, rfl⟩, h⟩
      | false => exact ⟨_, _, .inr ⟨hb, rfl, rfl⟩, h⟩
    obtain ⟨ρ1, σ1, hs, h1⟩ := key
    obtain ⟨R, H, e1, e2, e3, e4, hst⟩ := run_steps os ρ1 σ1 ρ' σ' h1
    refine ⟨fun i => match i with | 0 => ρ | i + 1 => R i, fun i => match i with | 0 => σ | i + 1 => H i, rfl, rfl, e3, e4, fun i o' ho => ?_⟩
    cases i with
    | zero => simp at ho; subst ho; simp only [e1, e2]; exact hs
    | succ i => exact hst i o' (by simpa using ho)
theorem setDst_len (ρ : Regs) (d : Option Nat) (v : AV) : (setDst ρ d v).length = ρ.length := by cases d <;> simp [setDst]
theorem setDst_ne {ρ : Regs} {d : Option Nat} {v : AV} {t : Nat} (h : d ≠ some t) : (setDst ρ d v).getD t .undef = ρ.getD t .undef := by
  cases d with
  | none => rfl
  | some d =>
    have hd : d ≠ t := fun e => h (by rw [e])
    simp [setDst, List.getElem?_set, hd]
theorem StepR.len {call : CallF} {bs : Nat} {o : AOper} {ρ σ ρ' σ'} (h : StepR call bs o ρ σ ρ' σ') : ρ'.length = ρ.length := by
  rcases h with ⟨_, v, _, _, rfl⟩ | ⟨_, _, rfl⟩ <;> exact setDst_len ..
theorem StepR.ne {call : CallF} {bs : Nat} {o : AOper} {ρ σ ρ' σ'} (h : StepR call bs o ρ σ ρ' σ') {t : Nat} (ht : o.dst ≠ some t) : ρ'.getD t .undef = ρ.getD t .undef := by
  rcases h with ⟨_, v, _, _, rfl⟩ | ⟨_, _, rfl⟩ <;> exact setDst_ne ht
theorem runOps_len {call : CallF} {bs : Nat} {os : List AOper} {ρ σ ρ' σ'} (h : runOps call bs os ρ σ = some (ρ', σ')) : ρ'.length = ρ.length := by
  obtain ⟨R, H, e1, e2, e3, e4, hst⟩ := run_steps os ρ σ ρ' σ' h
  have : ∀ i, i ≤ os.length → (R i).length = ρ.length := fun i => by
    induction i with
    | zero => intro _; rw [e1]
    | succ i ih => intro hi; rw [(hst i _ (List.getElem?_eq_getElem (by omega))).len]; exact ih (by omega)
  rw [← e3]; exact this _ (Nat.le_refl _)
end Go.Mach
