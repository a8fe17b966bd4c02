import Derived.Test.YtkempedphjopmaaMachY
set_option linter.unusedVariables false
set_option linter.unusedSimpArgs false
set_option linter.unnecessarySimpa false
namespace Go.Mach
open Go.RowKit
open Classical

section
variable {P : Program} {mt : Bool} {nt : Nat} {ops : Array Oper} {n : Nat} {ord : Nat → Nat} {anc : Nat → Nat → Prop} {ao : Nat → AOper} {call : CallF} {bs : Nat} {R : Nat → Regs} {H : Nat → Heap}
variable {g0 : Gh} {ow0 : Nat → Option Nat} {w0 : World} {L : Nat → Prop} {a : Act} {w : World} {Q : Exit → Act → World → Prop}

theorem put_RR2 (hP : Plan P mt nt ops n ord anc ao) (hst : ∀ i, i < n → StepR call bs (ao i) (R i) (H i) (R (i + 1)) (H (i + 1))) {p : Nat} (hp : p < n) {v : AV} (hv : R (p + 1) = setDst (R p) (ao p).dst v)
    {g : Gh} (hR : RR g (mixR R n ao L) a.tmps) {cv : Value} (hV : VR g v cv) : RR g (mixR R n ao (fun q => L q ∨ q = p)) (a.put (ao p).dst cv).tmps :=
  (put_RR hR hV).congr (by rw [setDst_len, mixR_len, mixR_len]) fun t => mixR_set hP hst hp hv t

/-- After one that is no E. -/
theorem At.same (hP : Plan P mt nt ops n ord anc ao) (hst : ∀ i, i < n → StepR call bs (ao i) (R i) (H i) (R (i + 1)) (H (i + 1))) {g ow} {k p : Nat} (h : At bs R H n ao g0 ow0 w0 k L g ow a w) (hp : p < n) (hE : isE (ao p).op = false)
    {v : AV} (hv : R (p + 1) = setDst (R p) (ao p).dst v) {g' ow' w' cv} (hV : VR g' v cv) (hH : HR g' ow' (H k) w') (hS : St bs g0 ow0 (H 0) w0 g' ow' (H k) w') (hle : g.le g')
    (hnone : ∀ q, q < k → isNew (ao q).op = true → guardA (R q) (ao q).guard = some true → ¬ L q → q ≠ p → g'.φ (H q).length = none) :
    At bs R H n ao g0 ow0 w0 k (fun q => L q ∨ q = p) g' ow' (a.put (ao p).dst cv) w' :=
  ⟨h.le, fun q h1 h2 => .inl (h.E1 q h1 h2), fun q h1 h2 h3 h4 => h4.elim (h.E2 q h1 h2 h3) (fun e => by subst e; rw [hE] at h3; cases h3), hH, hS, by rw [put_defers]; exact h.df,
    put_RR2 hP hst hp hv (h.rr.mono hle) hV, h.mono, fun q h1 h2 h3 h4 => hnone q h1 h2 h3 (fun e => h4 (.inl e)) (fun e => h4 (.inr e))⟩
theorem new_lt {call : CallF} {σ σ' : Heap} {ρ : Regs} {op : AOp} {v : AV} (hn : isNew op = true) (hs : stepAll call bs ρ σ op = some (v, σ')) : σ'.length = σ.length + 1 := by
  rw [stepAll_nc (G_notC hn)] at hs
  obtain ⟨obj, rfl, _⟩ := new_obj hn hs; simp
theorem At.none_step (hst : ∀ i, i < n → StepR call bs (ao i) (R i) (H i) (R (i + 1)) (H (i + 1))) {g ow} {k : Nat} (h : At bs R H n ao g0 ow0 w0 k L g ow a w) {q : Nat} (hq : q < k) (hn : isNew (ao q).op = true) (hg : guardA (R q) (ao q).guard = some true) :
    (H q).length + 1 = (H (q + 1)).length ∧ (H q).length < (H k).length := by
  have hle := h.le
  rcases hst q (by omega) with ⟨_, v, hs, _, _⟩ | ⟨hg', _⟩
  · have e := new_lt hn hs
    have := h.mono (q + 1) k (by omega) (Nat.le_refl _)
    omega
  · rw [hg] at hg'; cases hg'

theorem step_any (hP : Plan P mt nt ops n ord anc ao) (hcall : CallOK P call) (hst : ∀ i, i < n → StepR call bs (ao i) (R i) (H i) (R (i + 1)) (H (i + 1))) (h0 : HR g0 ow0 (H 0) w0) (hbs : bs ≤ (H 0).length) (hnt : nt ≤ (R 0).length)
    {p : Nat} (hp : p < n) (hL : ¬ L p) (hdown : ∀ q, anc q p → L q) (hdown2 : ∀ q r, q < n → r < n → anc q r → L r → L q) (hI : Inv bs R H n ao g0 ow0 w0 L a w) :
    wpOp P ops Q (ord p) (fun a' w' => Inv bs R H n ao g0 ow0 w0 (fun q => L q ∨ q = p) a' w') a w := by
  obtain ⟨g, ow, k, h, hk⟩ := hI
  have hop : ord p < ops.size := by rw [hP.size]; exact hP.lt p hp
  obtain ⟨o, ho⟩ : ∃ o, ops[ord p]? = some o := ⟨_, Array.getElem?_eq_getElem hop⟩
  obtain ⟨hc, hgd, hdst⟩ := hP.comp p o hp ho
  have hread : ∀ t, t ∈ readsT (ao p) → (mixR R n ao L).getD t .undef = (R p).getD t .undef := fun t ht => mixR_read hP hst hp hL hdown (fun q hq ha hLq => hdown2 p q hp hq ha hLq) ht
  have hev : ∀ x ∈ opReads (ao p).op, ev (mixR R n ao L) x = ev (R p) x := fun x hx => ev_congr fun t ht => hread t (mem_reads hx ht)
  have hrun : ∀ σ : Heap, stepAll call bs (mixR R n ao L) σ (ao p).op = stepAll call bs (R p) σ (ao p).op := fun σ => reads_congr hev
  have hgu : guardA (mixR R n ao L) (ao p).guard = guardA (R p) (ao p).guard := mixR_guard hread
  have hkE : k ≤ p → p < n → (isE (ao p).op = true ∧ p = k) ∨ clsN (ao p).op = true := fun h1 h2 => by
    rcases Nat.lt_or_ge k p with hlt | hge
    · rcases hP.early k p hlt h2 (hk (by omega)) with h3 | h3
      · exact .inr h3
      · exact absurd (hdown k h3) (h.E2 k (Nat.le_refl _) (by omega) (hk (by omega)))
    · have : k = p := by omega
      subst this; exact .inl ⟨hk h2, rfl⟩
  have hbsk : bs ≤ (H k).length := Nat.le_trans hbs (h.mono 0 k (Nat.zero_le _) (Nat.le_refl _))
  have hnoneS : ∀ {g' ow' w'}, St bs g ow (H k) w g' ow' (H k) w' → ∀ q, q < k → isNew (ao q).op = true → guardA (R q) (ao q).guard = some true → ¬ L q → q ≠ p → g'.φ (H q).length = none := fun hS q h1 h2 h3 h4 _ =>
    hS.nonew _ (h.none_step hst h1 h2 h3).2 (h.fre q h1 h2 h3 h4)
  unfold wpOp
  simp only [ho]
  rcases hst p hp with ⟨hg, v, hs, hchk, hv⟩ | ⟨hg, hsame, hv⟩
  · have hw := guard_sound (b := true) hgd h.rr (by rw [hgu, hg])
    rw [hw]
    simp only [if_true]
    left
    rcases cls_cases (ao p).op with hN | ⟨x, hLd⟩ | hG | hE
    · -- N
      have hs2 : stepAll call bs (mixR R n ao L) (H k) (ao p).op = some (v, H k) := by
        rw [hrun]; rw [stepAll_nc (N_notC hN)] at hs ⊢; exact (N_step hN hs).2 _
      refine step_sound hcall h.hr hbsk h.rr hc hs2 fun g' ow' w' cv hV hH hS => ?_
      rw [← hdst]
      exact ⟨g', ow', k, h.same hP hst hp (N_notE hN) hv hV hH (h.st.trans hS) hS.gle (hnoneS hS), hk⟩
    · -- L
      have hpk : p < k := by
        rcases Nat.lt_or_ge p k with hlt | hge
        · exact hlt
        · rcases hkE hge hp with ⟨he, _⟩ | he
          · rw [L_notE hLd] at he; cases he
          · rw [L_notN hLd] at he; cases he
      have hs1 := hs
      rw [stepAll_nc (L_notC hLd)] at hs1
      obtain ⟨e1, hobj, hany⟩ := L_step hLd hs1
      have hkeep := obj_keep hst hobj k (by omega) h.le fun q h1 h2 h3 h4 => by
        have hqp : p ≠ q := fun e => by subst e; rw [L_notE hLd] at h3; cases h3
        have hkn := h.le
        rcases hP.lateL p q x (by omega) (by omega) h3 hLd with h5 | ⟨h5, h6⟩
        · exact absurd (hdown2 p q hp (by omega) h5 (h.E1 q h2 h3)) hL
        · rcases hst q (by omega) with ⟨_, v', _, hc', _⟩ | ⟨hg', _⟩
          · have := hc' x h5
            have hx : ev (R q) x = ev (R p) x := ev_congr fun t ht => R_keep hst q (by omega) (by omega) fun r hr1 hr2 => h6 t ht r hr1 (by omega)
            rw [hx] at this; exact this
          · rw [h4] at hg'; cases hg'
      have hs2 : stepAll call bs (mixR R n ao L) (H k) (ao p).op = some (v, H k) := by
        rw [hrun, stepAll_nc (L_notC hLd)]; exact hany _ hkeep
      refine step_sound hcall h.hr hbsk h.rr hc hs2 fun g' ow' w' cv hV hH hS => ?_
      rw [← hdst]
      exact ⟨g', ow', k, h.same hP hst hp (L_notE hLd) hv hV hH (h.st.trans hS) hS.gle (hnoneS hS), hk⟩
    · -- G
      have hpk : p < k := by
        rcases Nat.lt_or_ge p k with hlt | hge
        · exact hlt
        · rcases hkE hge hp with ⟨he, _⟩ | he
          · rw [G_notE hG] at he; cases he
          · rw [G_notN hG] at he; cases he
      have hs1 := hs
      rw [stepAll_nc (G_notC hG)] at hs1
      obtain ⟨obj, hobj, hpt⟩ := new_obj hG hs1
      have hfree := h.fre p hpk hG hg hL
      obtain ⟨hlen1, hlen2⟩ := h.none_step hst hpk hG hg
      have hat : (H (p + 1))[(H p).length]? = some obj := by rw [hobj]; simp
      have hkn := h.le
      have hkeep := obj_keep (av := v) (i := p + 1) hst (.inr ⟨_, obj, hat, hpt⟩) k (by omega) h.le fun q h1 h2 h3 h4 => by
        rcases hP.lateG p q (by omega) (by omega) h3 hG with h5 | ⟨d, h5, h6, h7⟩
        · exact absurd (hdown2 p q hp (by omega) h5 (h.E1 q h2 h3)) hL
        · rcases hst q (by omega) with ⟨_, v', _, hc', _⟩ | ⟨hg', _⟩
          · have := hc' _ h7
            have hx : ev (R q) (.t d) = v := by
              have e1 : (R q).getD d .undef = (R (p + 1)).getD d .undef := R_keep hst q (by omega) (by omega) fun r hr1 hr2 hr => by have := hP.one p r d hp (by omega) h5 hr; omega
              simp only [ev]
              rw [e1, hv, h5]
              have hl := R_len hst p (by omega)
              simp [setDst, List.getElem?_set, show d < (R p).length by omega]
            rw [hx] at this; exact this
          · rw [h4] at hg'; cases hg'
      rw [hpt, hpt, hat] at hkeep
      have hs2 : stepOp bs (mixR R n ao L) (H p) (ao p).op = some (v, H (p + 1)) := by
        have := hrun (H p); rw [stepAll_nc (G_notC hG), stepAll_nc (G_notC hG)] at this; rw [this, hs1]
      obtain ⟨mkAV, obj', e1, e2, _, hres⟩ := op_new (w := w) h.rr hc hG hs2
      have : obj' = obj := by
        have h3 := hobj.symm.trans e2
        have := List.append_cancel_left h3
        simpa using this.symm
      subst this
      obtain ⟨w', o', c, cv, hr, hwp, hsm, hcs, hi, ht, hvr⟩ := hres
      unfold Oper.wp
      rw [hr, Oper.upon_value]
      rw [← hdst]
      have hH : HR (g.put (H p).length w.heap.size c) (upd ow w.heap.size (H p).length) (H k) w' :=
        h.hr.newAt hwp hfree (fun n s e => by rw [hkeep] at e; injection e with e; exact ht n s e) (Nat.le_refl _) hlen2 (fun j _ _ => rfl) (fun j hj _ => h.hr.none_len hj) c
          (fun cs fz ext e => by rw [hkeep] at e; injection e with e; exact hcs cs fz ext e) (fun s pos e => by rw [hkeep] at e; injection e with e; exact hi s pos e)
      refine ⟨_, _, k, h.same hP hst hp (G_notE hG) hv (e1 ▸ hvr _ (H p).length (by simp [Gh.put])) hH (h.st.late h0 hwp hsm (h.mono 0 p (Nat.zero_le _) (by omega)) hfree c) (Gh.put_le hfree _ _) (fun q h1 h2 h3 h4 hqp => ?_), hk⟩
      · have hne : (H q).length ≠ (H p).length := by
          obtain ⟨hq1, _⟩ := h.none_step hst h1 h2 h3
          rcases Nat.lt_or_ge q p with hlt | hge
          · have := h.mono (q + 1) p (by omega) (by omega); omega
          · have := h.mono (p + 1) q (by omega) (by omega); omega
        simp only [Gh.put]; rw [if_neg hne]; exact h.fre q h1 h2 h3 h4
    · -- E
      have hpk : p = k := by
        rcases Nat.lt_or_ge p k with hlt | hge
        · exact absurd (h.E1 p hlt hE) hL
        · rcases hkE hge hp with ⟨_, he⟩ | he
          · exact he
          · rw [isE_N hE] at he; cases he
      subst hpk
      have hs2 : stepAll call bs (mixR R n ao L) (H p) (ao p).op = some (v, H (p + 1)) := by rw [hrun, hs]
      refine step_sound hcall h.hr hbsk h.rr hc hs2 fun g' ow' w' cv hV hH hS => ?_
      rw [← hdst]
      refine At.advance hst (n - (p + 1)) (p + 1) (by omega) ⟨by omega, fun q h1 h2 => ?_, fun q h1 h2 h3 h4 => ?_, hH, h.st.trans hS, by rw [put_defers]; exact h.df, put_RR2 hP hst hp hv (h.rr.mono hS.gle) hV, fun i j hij hj => ?_, fun q h1 h2 h3 h4 => ?_⟩
      · rcases Nat.lt_or_ge q p with hlt | hge
        · exact .inl (h.E1 q hlt h2)
        · exact .inr (by omega)
      · rcases h4 with h4 | h4
        · exact h.E2 q (by omega) h2 h3 h4
        · omega
      · rcases Nat.lt_or_ge j (p + 1) with hlt | hge
        · exact h.mono i j hij (by omega)
        · have hj' : j = p + 1 := by omega
          subst hj'
          rcases Nat.lt_or_ge i (p + 1) with hlt | hge
          · exact Nat.le_trans (h.mono i p (by omega) (Nat.le_refl _)) hS.len
          · have : i = p + 1 := by omega
            rw [this]; exact Nat.le_refl _
      · have hq : q ≠ p := fun e => h4 (.inr e)
        exact hS.nonew _ (h.none_step hst (by omega) h2 h3).2 (h.fre q (by omega) h2 h3 fun e => h4 (.inl e))
  · have hw := guard_sound (b := false) hgd h.rr (by rw [hgu, hg])
    rw [hw]
    simp only [Bool.false_eq_true, if_false]
    have hV : VR g (.tup []) undef := .tup rfl fun i x v hx => by simp at hx
    rw [← hdst]
    cases hE : isE (ao p).op with
    | false => exact ⟨g, ow, k, h.same hP hst hp hE hv hV h.hr h.st (.refl _) (fun q h1 h2 h3 h4 _ => h.fre q h1 h2 h3 h4), hk⟩
    | true =>
      have hpk : p = k := by
        rcases Nat.lt_or_ge p k with hlt | hge
        · exact absurd (h.E1 p hlt hE) hL
        · rcases hkE hge hp with ⟨_, he⟩ | he
          · exact he
          · rw [isE_N hE] at he; cases he
      subst hpk
      refine At.advance hst (n - (p + 1)) (p + 1) (by omega) ⟨by omega, fun q h1 h2 => ?_, fun q h1 h2 h3 h4 => ?_, by rw [hsame]; exact h.hr, by rw [hsame]; exact h.st, by rw [put_defers]; exact h.df, put_RR2 hP hst hp hv h.rr hV, fun i j hij hj => ?_, fun q h1 h2 h3 h4 => ?_⟩
      · rcases Nat.lt_or_ge q p with hlt | hge
        · exact .inl (h.E1 q hlt h2)
        · exact .inr (by omega)
      · rcases h4 with h4 | h4
        · exact h.E2 q (by omega) h2 h3 h4
        · omega
      · rcases Nat.lt_or_ge j (p + 1) with hlt | hge
        · exact h.mono i j hij (by omega)
        · have hj' : j = p + 1 := by omega
          subst hj'
          rcases Nat.lt_or_ge i (p + 1) with hlt | hge
          · rw [hsame]; exact h.mono i p (by omega) (Nat.le_refl _)
          · have : i = p + 1 := by omega
            rw [this]; exact Nat.le_refl _
      · have hq : q ≠ p := fun e => h4 (.inr e)
        exact h.fre q (by omega) h2 h3 fun e => h4 (.inl e)
end
end Go.Mach
