import Derived.Test.YtkempedphjopmaaMachX
set_option linter.unusedVariables false
set_option linter.unusedSimpArgs false
set_option linter.unnecessarySimpa false
namespace Go.Mach
open Go.RowKit
open Classical

section
variable {P : Program} {mt : Bool} {nt : Nat} {ops : Array Oper} {n : Nat} {ord : Nat → Nat} {anc : Nat → Nat → Prop} {ao : Nat → AOper} {call : CallF} {bs : Nat} {R : Nat → Regs} {H : Nat → Heap}

/-- What is no E adds objects at the most. -/
theorem notE_heap (hst : ∀ i, i < n → StepR call bs (ao i) (R i) (H i) (R (i + 1)) (H (i + 1))) {i : Nat} (hi : i < n) (hE : isE (ao i).op = false) : ∃ τ, H (i + 1) = H i ++ τ := by
  rcases hst i hi with ⟨_, v, hs, _, _⟩ | ⟨_, hs, _⟩
  · rcases cls_cases (ao i).op with h | ⟨x, h⟩ | h | h
    · rw [stepAll_nc (N_notC h)] at hs; exact ⟨[], by simp [(N_step h hs).1]⟩
    · rw [stepAll_nc (L_notC h)] at hs; exact ⟨[], by simp [(L_step h hs).1]⟩
    · rw [stepAll_nc (G_notC h)] at hs
      obtain ⟨obj, ho, _⟩ := new_obj h hs; exact ⟨[obj], ho⟩
    · rw [h] at hE; cases hE
  · exact ⟨[], by simp [hs]⟩
/-- An object that no E between may change. -/
theorem obj_keep (hst : ∀ i, i < n → StepR call bs (ao i) (R i) (H i) (R (i + 1)) (H (i + 1))) {i : Nat} {av : AV} (hv : (∀ σ2 : Heap, objOf σ2 av = none) ∨ ∃ (id : Nat) (o : AObj), (H i)[id]? = some o ∧ ∀ σ2 : Heap, objOf σ2 av = σ2[id]?) :
    ∀ k, i ≤ k → k ≤ n → (∀ q, i ≤ q → q < k → isE (ao q).op = true → guardA (R q) (ao q).guard = some true → objOf (H q) av = objOf (H (q + 1)) av) → objOf (H k) av = objOf (H i) av := by
  rcases hv with hv | ⟨id, o, ho, hv⟩
  · intro k _ _ _; rw [hv, hv]
  intro k
  induction k with
  | zero => intro h _ _; have : i = 0 := by omega
            rw [this]
  | succ k ih =>
    intro h hn hE
    rcases Nat.lt_or_ge i (k + 1) with hlt | hge
    · have e := ih (by omega) (by omega) fun q h1 h2 => hE q h1 (by omega)
      rw [← e]
      cases hek : isE (ao k).op with
      | true =>
        rcases hst k (by omega) with ⟨hg, _⟩ | ⟨_, hs, _⟩
        · exact (hE k (by omega) (by omega) hek hg).symm
        · rw [hs]
      | false =>
        obtain ⟨τ, hτ⟩ := notE_heap hst (by omega) hek
        rw [hτ, hv, hv]
        rw [hv, hv, ho] at e
        exact List.getElem?_append_left (List.getElem?_eq_some_iff.1 e).1
    · have : i = k + 1 := by omega
      rw [this]

structure At (bs : Nat) (R : Nat → Regs) (H : Nat → Heap) (n : Nat) (ao : Nat → AOper) (g0 : Gh) (ow0 : Nat → Option Nat) (w0 : World) (m : Nat) (L : Nat → Prop) (g : Gh) (ow : Nat → Option Nat) (a : Act) (w : World) : Prop where
  le : m ≤ n
  E1 : ∀ q, q < m → isE (ao q).op = true → L q
  E2 : ∀ q, m ≤ q → q < n → isE (ao q).op = true → ¬ L q
  hr : HR g ow (H m) w
  st : St bs g0 ow0 (H 0) w0 g ow (H m) w
  df : a.defers = []
  rr : RR g (mixR R n ao L) a.tmps
  mono : ∀ i j, i ≤ j → j ≤ m → (H i).length ≤ (H j).length
  fre : ∀ q, q < m → isNew (ao q).op = true → guardA (R q) (ao q).guard = some true → ¬ L q → g.φ (H q).length = none
def Inv (bs : Nat) (R : Nat → Regs) (H : Nat → Heap) (n : Nat) (ao : Nat → AOper) (g0 : Gh) (ow0 : Nat → Option Nat) (w0 : World) (L : Nat → Prop) (a : Act) (w : World) : Prop :=
  ∃ g ow k, At bs R H n ao g0 ow0 w0 k L g ow a w ∧ (k < n → isE (ao k).op = true)

theorem At.advance {g0 ow0 w0} (hst : ∀ i, i < n → StepR call bs (ao i) (R i) (H i) (R (i + 1)) (H (i + 1))) {L : Nat → Prop} {g ow a w} : ∀ (d m : Nat), n = m + d → At bs R H n ao g0 ow0 w0 m L g ow a w → Inv bs R H n ao g0 ow0 w0 L a w
  | 0, m, hd, h => ⟨g, ow, m, h, fun hlt => by omega⟩
  | d + 1, m, hd, h => by
    cases hE : isE (ao m).op with
    | true => exact ⟨g, ow, m, h, fun _ => hE⟩
    | false =>
      obtain ⟨τ, hτ⟩ := notE_heap hst (i := m) (by omega) hE
      refine At.advance hst d (m + 1) (by omega) ⟨by omega, fun q hq he => ?_, fun q h1 h2 => h.E2 q (by omega) h2, by rw [hτ]; exact h.hr.extend τ, by rw [hτ]; exact h.st.extend τ, h.df, h.rr, fun i j hij hj => ?_, fun q hq hn hg hL => ?_⟩
      · rcases Nat.lt_or_ge q m with hlt | hge
        · exact h.E1 q hlt he
        · have : q = m := by omega
          subst this; rw [hE] at he; cases he
      · rcases Nat.lt_or_ge j (m + 1) with hlt | hge
        · exact h.mono i j hij (by omega)
        · have hj' : j = m + 1 := by omega
          subst hj'
          rcases Nat.lt_or_ge i (m + 1) with hlt | hge
          · have := h.mono i m (by omega) (Nat.le_refl _); rw [hτ]; simp; omega
          · have : i = m + 1 := by omega
            rw [this]; exact Nat.le_refl _
      · rcases Nat.lt_or_ge q m with hlt | hge
        · exact h.fre q hlt hn hg hL
        · have : q = m := by omega
          subst this; exact (h.hr.none_len (Nat.le_refl _)).1

theorem inv_start {g0 ow0 w0} {ρ : Regs} (hst : ∀ i, i < n → StepR call bs (ao i) (R i) (H i) (R (i + 1)) (H (i + 1))) (h0 : HR g0 ow0 (H 0) w0) (hR0 : R 0 = ρ) {a : Act} {w : World} (hw : Same w0 w) (hh : w.heap = w0.heap) (hR : RR g0 ρ a.tmps) (hd : a.defers = []) :
    Inv bs R H n ao g0 ow0 w0 (fun _ => False) a w := by
  refine At.advance hst n 0 (by omega) ⟨Nat.zero_le _, fun q hq => by omega, fun q _ _ _ h => h, h0.congr hh, St.congr hw hh, hd, ?_, fun i j h1 h2 => ?_, fun q hq => by omega⟩
  · refine hR.congr (by rw [mixR_len, hR0]) fun t => ?_
    rw [mixR_get (R_len hst n (Nat.le_refl _)), if_neg (fun ⟨q, _, h, _⟩ => h), hR0]
  · have : i = j := by omega
    rw [this]; exact Nat.le_refl _
end
end Go.Mach
