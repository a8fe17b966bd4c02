import Derived.Test.YtkempedphjopmaaMachW
set_option linter.unusedVariables false
set_option linter.unusedSimpArgs false
set_option linter.unnecessarySimpa false
namespace Go.Mach
open Go.RowKit
open Classical

/-! ### Regions whose order is drawn, by positions in one order -/
def guardT : Option (Nat × Bool) → List Nat
  | none => []
  | some (d, _) => [d]
def tmpOf : AX → List Nat
  | .t n => [n]
  | _ => []
def readsT (o : AOper) : List Nat := guardT o.guard ++ (opReads o.op).flatMap tmpOf
structure Plan (P : Program) (mt : Bool) (nt : Nat) (ops : Array Oper) (n : Nat) (ord : Nat → Nat) (anc : Nat → Nat → Prop) (ao : Nat → AOper) : Prop where
  lt : ∀ p, p < n → ord p < n
  inj : ∀ p q, p < n → q < n → ord p = ord q → p = q
  sur : ∀ j, j < n → ∃ p, p < n ∧ ord p = j
  size : ops.size = n
  comp : ∀ p o, p < n → ops[ord p]? = some o → compOp P mt o = some (ao p).op ∧ compGuard ops o.guard = some (ao p).guard ∧ (ao p).dst = o.dst
  one : ∀ p q t, p < n → q < n → (ao p).dst = some t → (ao q).dst = some t → p = q
  reads : ∀ p q t, p < n → q < n → t ∈ readsT (ao p) → (ao q).dst = some t → q = p ∨ (q < p ∧ anc q p) ∨ (p < q ∧ anc p q)
  early : ∀ p q, p < q → q < n → isE (ao p).op = true → (clsN (ao q).op = true ∨ anc p q)
  lateL : ∀ p q x, p < q → q < n → isE (ao q).op = true → clsL (ao p).op = some x → anc p q ∨ (x ∈ (ao q).chk ∧ ∀ t, x = .t t → ∀ r, p ≤ r → r < n → (ao r).dst ≠ some t)
  lateG : ∀ p q, p < q → q < n → isE (ao q).op = true → isNew (ao p).op = true → anc p q ∨ ∃ d, (ao p).dst = some d ∧ d < nt ∧ AX.t d ∈ (ao q).chk

theorem isE_N {op : AOp} (h : isE op = true) : clsN op = false := by simp [isE] at h; exact h.1.1
theorem cls_cases (op : AOp) : clsN op = true ∨ (∃ x, clsL op = some x) ∨ isNew op = true ∨ isE op = true := by
  cases h1 : clsN op
  · cases h2 : clsL op
    · cases h3 : isNew op
      · exact .inr (.inr (.inr (by simp [isE, h1, h2, h3])))
      · exact .inr (.inr (.inl rfl))
    · exact .inr (.inl ⟨_, rfl⟩)
  · exact .inl rfl
theorem L_notE {op : AOp} {x : AX} (h : clsL op = some x) : isE op = false := by simp [isE, h]
theorem G_notE {op : AOp} (h : isNew op = true) : isE op = false := by simp [isE, h]
theorem N_notE {op : AOp} (h : clsN op = true) : isE op = false := by simp [isE, h]
theorem L_notN {op : AOp} {x : AX} (h : clsL op = some x) : clsN op = false := by cases op <;> first | rfl | simp [clsL] at h
theorem G_notN {op : AOp} (h : isNew op = true) : clsN op = false := by cases op <;> first | rfl | simp [isNew] at h
theorem L_notC {op : AOp} {x : AX} (h : clsL op = some x) : isCall op = false := by cases op <;> first | rfl | simp [clsL] at h
theorem N_notC {op : AOp} (h : clsN op = true) : isCall op = false := by cases op <;> first | rfl | simp [clsN] at h
theorem G_notC {op : AOp} (h : isNew op = true) : isCall op = false := by cases op <;> first | rfl | simp [isNew] at h

section
variable {P : Program} {mt : Bool} {nt : Nat} {ops : Array Oper} {n : Nat} {ord : Nat → Nat} {anc : Nat → Nat → Prop} {ao : Nat → AOper} {call : CallF} {bs : Nat} {R : Nat → Regs} {H : Nat → Heap}

/-- What the run leaves alone. -/
theorem R_keep (hst : ∀ i, i < n → StepR call bs (ao i) (R i) (H i) (R (i + 1)) (H (i + 1))) {t i : Nat} : ∀ j, i ≤ j → j ≤ n → (∀ q, i ≤ q → q < j → (ao q).dst ≠ some t) → (R j).getD t .undef = (R i).getD t .undef := by
  intro j
  induction j with
  | zero => intro h _ _; have : i = 0 := by omega
            rw [this]
  | succ j ih =>
    intro h hn hw
    rcases Nat.lt_or_ge i (j + 1) with hlt | hge
    · rw [(hst j (by omega)).ne (hw j (by omega) (by omega))]; exact ih (by omega) (by omega) fun q h1 h2 => hw q h1 (by omega)
    · have : i = j + 1 := by omega
      rw [this]
theorem R_len (hst : ∀ i, i < n → StepR call bs (ao i) (R i) (H i) (R (i + 1)) (H (i + 1))) : ∀ i, i ≤ n → (R i).length = (R 0).length := fun i => by
  induction i with
  | zero => intro _; rfl
  | succ i ih => intro hi; rw [(hst i (by omega)).len]; exact ih (by omega)
/-- The registers when only some of the operations were carried out. -/
noncomputable def mixR (R : Nat → Regs) (n : Nat) (ao : Nat → AOper) (L : Nat → Prop) : Regs :=
  (List.range (R 0).length).map fun t => if ∃ q, q < n ∧ L q ∧ (ao q).dst = some t then (R n).getD t .undef else (R 0).getD t .undef
theorem mixR_len {L : Nat → Prop} : (mixR R n ao L).length = (R 0).length := by simp [mixR]
theorem mixR_get (hl : (R n).length = (R 0).length) {L : Nat → Prop} (t : Nat) : (mixR R n ao L).getD t .undef = if ∃ q, q < n ∧ L q ∧ (ao q).dst = some t then (R n).getD t .undef else (R 0).getD t .undef := by
  simp only [mixR, List.getD_eq_getElem?_getD, List.getElem?_map]
  rcases Nat.lt_or_ge t (R 0).length with h | h
  · rw [List.getElem?_range h]; simp
  · rw [List.getElem?_eq_none (by simpa using h), List.getElem?_eq_none (by omega), List.getElem?_eq_none h]; simp
/-- What an operation reads is the same whatever order was drawn. -/
theorem mixR_read (hP : Plan P mt nt ops n ord anc ao) (hst : ∀ i, i < n → StepR call bs (ao i) (R i) (H i) (R (i + 1)) (H (i + 1))) {L : Nat → Prop} {p : Nat} (hp : p < n) (hL : ¬ L p) (hdown : ∀ q, anc q p → L q) (hdown2 : ∀ q, q < n → anc p q → L q → L p)
    {t : Nat} (ht : t ∈ readsT (ao p)) : (mixR R n ao L).getD t .undef = (R p).getD t .undef := by
  rw [mixR_get (R_len hst n (Nat.le_refl _))]
  split
  · rename_i h
    obtain ⟨q, hq, hLq, hd⟩ := h
    rcases hP.reads p q t hp hq ht hd with rfl | ⟨h1, h2⟩ | ⟨h1, h2⟩
    · exact absurd hLq hL
    · exact R_keep hst n (by omega) (Nat.le_refl _) fun r hr1 hr2 hr => by have := hP.one q r t hq hr2 hd hr; omega
    · exact absurd (hdown2 q hq h2 hLq) hL
  · rename_i h
    refine (R_keep hst p (Nat.zero_le _) (by omega) fun r _ hr2 hr => ?_).symm
    rcases hP.reads p r t hp (by omega) ht hr with rfl | ⟨h1, h2⟩ | ⟨h1, h2⟩
    · omega
    · exact h ⟨r, by omega, hdown r h2, hr⟩
    · omega
theorem mem_reads {o : AOper} {x : AX} (hx : x ∈ opReads o.op) {t : Nat} (ht : x = .t t) : t ∈ readsT o := by
  unfold readsT; rw [List.mem_append, List.mem_flatMap]; exact .inr ⟨x, hx, by subst ht; simp [tmpOf]⟩
theorem ev_congr {ρ ρ' : Regs} {x : AX} (h : ∀ t, x = .t t → ρ.getD t .undef = ρ'.getD t .undef) : ev ρ x = ev ρ' x := by
  cases x with
  | t t => exact h t rfl
  | _ => rfl
theorem mixR_guard {o : AOper} {ρ ρ' : Regs} (h : ∀ t, t ∈ readsT o → ρ.getD t .undef = ρ'.getD t .undef) : guardA ρ o.guard = guardA ρ' o.guard := by
  cases hg : o.guard with
  | none => rfl
  | some jw => obtain ⟨d, w⟩ := jw; simp only [guardA]; rw [h d (by simp [readsT, hg, guardT])]
/-- One more is carried out. -/
theorem mixR_set (hP : Plan P mt nt ops n ord anc ao) (hst : ∀ i, i < n → StepR call bs (ao i) (R i) (H i) (R (i + 1)) (H (i + 1))) {L : Nat → Prop} {p : Nat} (hp : p < n) {v : AV} (hv : R (p + 1) = setDst (R p) (ao p).dst v) (t : Nat) :
    (mixR R n ao (fun q => L q ∨ q = p)).getD t .undef = (setDst (mixR R n ao L) (ao p).dst v).getD t .undef := by
  have hl := R_len hst n (Nat.le_refl _)
  by_cases hd : (ao p).dst = some t
  · rw [mixR_get hl, if_pos ⟨p, hp, .inr rfl, hd⟩]
    have e1 : (R n).getD t .undef = (R (p + 1)).getD t .undef := R_keep hst n (by omega) (Nat.le_refl _) fun r hr1 hr2 hr => by have := hP.one p r t hp hr2 hd hr; omega
    rw [e1, hv, hd]
    simp only [setDst, List.getD_eq_getElem?_getD, List.getElem?_set, if_true, mixR_len, R_len hst p (by omega)]
  · rw [setDst_ne hd, mixR_get hl, mixR_get hl]
    have : (∃ q, q < n ∧ (L q ∨ q = p) ∧ (ao q).dst = some t) ↔ ∃ q, q < n ∧ L q ∧ (ao q).dst = some t :=
      ⟨fun ⟨q, h1, h2, h3⟩ => ⟨q, h1, h2.resolve_right fun e => hd (e ▸ h3), h3⟩, fun ⟨q, h1, h2, h3⟩ => ⟨q, h1, .inl h2, h3⟩⟩
    simp only [this]
theorem RR.congr {g : Gh} {ρ ρ' : Regs} {tmps : Array Value} (h : RR g ρ tmps) (hl : ρ'.length = ρ.length) (he : ∀ t, ρ'.getD t .undef = ρ.getD t .undef) : RR g ρ' tmps :=
  ⟨hl.trans h.len, fun t => by rw [he]; exact h.val t⟩
end
end Go.Mach
