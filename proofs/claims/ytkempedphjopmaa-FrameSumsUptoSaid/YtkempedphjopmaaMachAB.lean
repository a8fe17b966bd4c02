import Derived.Test.YtkempedphjopmaaMachAA
set_option linter.unusedVariables false
set_option linter.unusedSimpArgs false
set_option linter.unnecessarySimpa false
namespace Go.Mach
open Go.RowKit
open Classical

section
variable {P : Program} {mt : Bool} {nt : Nat} {ops : Array Oper} {call : CallF} {bs : Nat}

theorem getD_false_true {l : Array Bool} {j : Nat} (hj : j < l.size) : l.getD j false = l.getD j true := by simp [Array.getD_eq_getD_getElem?, hj]
/-- What a listed or ready operation stands on. -/
theorem anc_listed {ops : Array Oper} (hE : okEdges 0 ops.toList = true) {listed : Array Bool}
    (hcl : ∀ (j : Nat) o, ops[j]? = some o → listed.getD j false = true → ∀ e ∈ o.after, Region.binds .any e = true → listed.getD e.on false = true) :
    ∀ (j : Nat) o, ops[j]? = some o → (∀ e ∈ o.after, Region.binds .any e = true → listed.getD e.on false = true) → ∀ i, ((masks ops.toList []).getD j 0).testBit i = true → listed.getD i false = true := by
  intro j
  induction j using Nat.strongRecOn with
  | ind j ih =>
    intro o ho hr i hi
    have ho' : ops.toList[j]? = some o := by simpa using ho
    have hm := masks_get ops.toList [] (by simpa using hE) j o ho'
    simp only [List.length_nil, Nat.zero_add] at hm
    rw [hm] at hi
    obtain ⟨e, he, hb, h1⟩ := maskOf_bit hi
    have hl := hr e he hb
    rcases h1 with rfl | h1
    · exact hl
    · have hlt := okEdges_get _ _ hE j o ho' e he hb
      rw [Nat.zero_add] at hlt
      have hsz : j < ops.size := (Array.getElem?_eq_some_iff.1 ho).1
      have ho2 : ops[e.on]? = some ops[e.on] := Array.getElem?_eq_getElem (by omega)
      exact ih e.on hlt _ ho2 (fun e' he' hb' => hcl _ _ ho2 hl e' he' hb') i h1

def Lp (z : List (Nat × AOper)) (n : Nat) (listed : Array Bool) (p : Nat) : Prop := p < n ∧ listed.getD (zord z p) false = true
noncomputable def unl (n : Nat) (listed : Array Bool) : List Nat := (List.range n).filter fun j => !listed.getD j false

theorem any_loop {g0 : Gh} {ow0 : Nat → Option Nat} {w0 : World} {R : Nat → Regs} {H : Nat → Heap} {Q : Exit → Act → World → Prop} {z : List (Nat × AOper)}
    (hP : Plan P mt nt ops ops.size (zord z) (zanc ops.size (masks ops.toList []) z) (zao z)) (hE : okEdges 0 ops.toList = true) (hcall : CallOK P call)
    (hst : ∀ i, i < ops.size → StepR call bs (zao z i) (R i) (H i) (R (i + 1)) (H (i + 1))) (h0 : HR g0 ow0 (H 0) w0) (hbs : bs ≤ (H 0).length) (hnt : nt ≤ (R 0).length)
    (hQ : ∀ g' ow' a' w', RR g' (R ops.size) a'.tmps → a'.defers = [] → HR g' ow' (H ops.size) w' → St bs g0 ow0 (H 0) w0 g' ow' (H ops.size) w' → Q .normal a' w') :
    ∀ (fuel : Nat) (listed : Array Bool) (a : Act) (w : World), listed.size = ops.size → (unl ops.size listed).length ≤ fuel →
      (∀ (j : Nat) o, ops[j]? = some o → listed.getD j false = true → ∀ e ∈ o.after, Region.binds .any e = true → listed.getD e.on false = true) →
      Inv bs R H ops.size (zao z) g0 ow0 w0 (Lp z ops.size listed) a w → wpAny P .any ops Q fuel listed a w := by
  have hend : ∀ (listed : Array Bool) (a : Act) (w : World), listed.size = ops.size → Region.ready .any ops listed = [] →
      Inv bs R H ops.size (zao z) g0 ow0 w0 (Lp z ops.size listed) a w → Q .normal a w := by
    intro listed a w hs hr hI
    have hall : ∀ j, j < ops.size → listed.getD j false = true := by
      intro j
      induction j using Nat.strongRecOn with
      | ind j ih =>
        intro hj
        cases hl : listed.getD j false with
        | true => rfl
        | false =>
          have : j ∈ Region.ready .any ops listed := mem_ready.2 ⟨by rw [← getD_false_true (by omega)]; exact hl, _, Array.getElem?_eq_getElem hj, fun e he hb => by
            have hlt := okEdges_get _ _ hE j _ (by simpa using (Array.getElem?_eq_getElem hj)) e he hb
            rw [Nat.zero_add] at hlt
            exact ih e.on hlt (by omega)⟩
          rw [hr] at this; cases this
    obtain ⟨g, ow, k, h, hk⟩ := hI
    have hkn : k = ops.size := by
      rcases Nat.lt_or_ge k ops.size with hlt | hge
      · exact absurd ⟨hlt, hall _ (hP.lt k hlt)⟩ (h.E2 k (Nat.le_refl _) hlt (hk hlt))
      · have := h.le; omega
    subst hkn
    have hl := R_len hst _ (Nat.le_refl _)
    refine hQ g ow a w (h.rr.congr (by rw [mixR_len, hl]) fun t => ?_) h.df h.hr h.st
    rw [mixR_get hl]
    split
    · rfl
    · rename_i hn
      exact R_keep hst _ (Nat.zero_le _) (Nat.le_refl _) fun q _ hq hd => hn ⟨q, hq, ⟨hq, hall _ (hP.lt q hq)⟩, hd⟩
  intro fuel
  induction fuel with
  | zero =>
    intro listed a w hs hf hcl hI
    have hr : Region.ready .any ops listed = [] := by
      cases hr : Region.ready .any ops listed with
      | nil => rfl
      | cons j l =>
        have hj : j ∈ Region.ready .any ops listed := by rw [hr]; exact List.mem_cons_self
        obtain ⟨h1, o, ho, _⟩ := mem_ready.1 hj
        have hjn : j < ops.size := (Array.getElem?_eq_some_iff.1 ho).1
        have : j ∈ unl ops.size listed := List.mem_filter.2 ⟨by simpa using hjn, by rw [getD_false_true (by omega), h1]; rfl⟩
        have hz : unl ops.size listed = [] := List.eq_nil_of_length_eq_zero (by omega)
        rw [hz] at this; cases this
    exact ⟨hr, hend listed a w hs hr hI⟩
  | succ fuel ih =>
    intro listed a w hs hf hcl hI
    refine ⟨fun hr => hend listed a w hs hr hI, fun j hj => ?_⟩
    obtain ⟨h1, o, ho, hready⟩ := mem_ready.1 hj
    have hjn : j < ops.size := (Array.getElem?_eq_some_iff.1 ho).1
    have h1' : listed.getD j false = false := by rw [getD_false_true (by omega)]; exact h1
    obtain ⟨p, hp, rfl⟩ := hP.sur j hjn
    have hset : ∀ i, (listed.setIfInBounds (zord z p) true).getD i false = (decide (i = zord z p) || listed.getD i false) := fun i => by
      by_cases hi : i = zord z p
      · subst hi; simp [Array.getD_eq_getD_getElem?, hs, hjn]
      · rw [getD_set_ne false (Ne.symm hi)]; simp [hi]
    have hLeq : (fun q => Lp z ops.size listed q ∨ q = p) = Lp z ops.size (listed.setIfInBounds (zord z p) true) := by
      funext q
      apply propext
      simp only [Lp, hset, Bool.or_eq_true, decide_eq_true_eq]
      constructor
      · rintro (⟨h2, h3⟩ | rfl)
        · exact ⟨h2, .inr h3⟩
        · exact ⟨hp, .inl rfl⟩
      · rintro ⟨h2, h3 | h3⟩
        · exact .inr (hP.inj q p h2 hp h3)
        · exact .inl ⟨h2, h3⟩
    refine wpOp_mono (fun a' w' hI' => ?_) (step_any (L := Lp z ops.size listed) hP hcall hst h0 hbs hnt hp (fun h2 => by rw [h2.2] at h1'; cases h1') (fun q hq => ?_) (fun q r hq hr ha hLr => ?_) hI)
    · refine ih _ a' w' (by simpa using hs) ?_ ?_ (by rw [← hLeq]; exact hI')
      · have : (unl ops.size (listed.setIfInBounds (zord z p) true)).length < (unl ops.size listed).length := by
          have e : unl ops.size (listed.setIfInBounds (zord z p) true) = (unl ops.size listed).filter fun i => !decide (i = zord z p) := by
            unfold unl
            rw [List.filter_filter]
            congr 1; funext i
            rw [hset, Bool.not_or]
          rw [e]
          have hle := List.length_filter_le (fun i => !decide (i = zord z p)) (unl ops.size listed)
          rcases Nat.lt_or_ge ((unl ops.size listed).filter fun i => !decide (i = zord z p)).length (unl ops.size listed).length with hlt | hge
          · exact hlt
          · have := List.length_filter_eq_length_iff.1 (Nat.le_antisymm hle hge) (zord z p) (List.mem_filter.2 ⟨by simpa using hjn, by rw [h1']; rfl⟩)
            simp at this
        omega
      · intro i o' ho' hl e he hb
        rw [hset, Bool.or_eq_true] at hl ⊢
        refine .inr ?_
        rcases hl with hl | hl
        · have : i = zord z p := by simpa using hl
          subst this
          rw [ho] at ho'; injection ho' with ho'; subst ho'
          exact hready e he hb
        · exact hcl i o' ho' hl e he hb
    · exact ⟨hq.1, anc_listed hE hcl _ o ho hready _ hq.2⟩
    · have hlt := hP.lt r hr
      have ho2 : ops[zord z r]? = some ops[zord z r] := Array.getElem?_eq_getElem hlt
      exact ⟨hq, anc_listed hE hcl _ _ ho2 (fun e he hb => hcl _ _ ho2 hLr.2 e he hb) _ ha.2⟩

/-- A region whose order is drawn. -/
theorem region_any (hm : P.follows .mixedOrders = true) (hcall : CallOK P call) {as : List AOper} (hc : compD P mt nt ops = some as) {ρ ρ' : Regs} {σ σ' : Heap} (hx : runOps call bs as ρ σ = some (ρ', σ'))
    {g : Gh} {ow : Nat → Option Nat} {a : Act} {w : World} (h : HR g ow σ w) (hbs : bs ≤ σ.length) (hR : RR g ρ a.tmps) (hd : a.defers = []) (hnt : nt ≤ ρ.length) {Q : Exit → Act → World → Prop} {id : Nat}
    (hQ : ∀ g' ow' a' w', RR g' ρ' a'.tmps → a'.defers = [] → HR g' ow' σ' w' → St bs g ow σ w g' ow' σ' w' → Q .normal a' w') :
    (Code.region id ops true).wp P Q a w := by
  unfold compD at hc
  obtain ⟨as0, ha, hc⟩ := Option.bind_eq_some_iff.1 hc
  split at hc
  · rename_i hE
    obtain ⟨z, hz, rfl⟩ := Option.map_eq_some_iff.1 hc
    obtain ⟨hlen, hP⟩ := plan_of ha hz
    obtain ⟨R, H, e1, e2, e3, e4, hst⟩ := run_steps _ _ _ _ _ hx
    have hst' : ∀ i, i < ops.size → StepR call bs (zao z i) (R i) (H i) (R (i + 1)) (H (i + 1)) := fun i hi => hst i _ (by
      rw [List.getElem?_map]; unfold zao; rw [List.getD_eq_getElem?_getD, List.getElem?_eq_getElem (by omega)]; rfl)
    rw [List.length_map, hlen] at e3 e4
    refine wp_region_any hm (any_loop (g0 := g) (ow0 := ow) (w0 := w) hP hE hcall hst' (by rw [e2]; exact h) (by rw [e2]; exact hbs) (by rw [e1]; exact hnt)
      (fun g' ow' a' w' => by rw [e2, e3, e4]; exact hQ g' ow' a' w') ops.size _ a _ (by simp) ?_ ?_ ?_)
    · unfold unl
      exact Nat.le_trans (List.length_filter_le _ _) (by simp)
    · intro j o ho hl
      simp [Array.getD_eq_getD_getElem?] at hl
      rcases Nat.lt_or_ge j ops.size with h1 | h1
      · simp [h1] at hl
      · simp [Nat.not_lt.2 h1] at hl
    · have : Lp z ops.size (Array.replicate ops.size false) = fun _ => False := by
        funext p; apply propext
        simp only [Lp, iff_false]
        rintro ⟨_, hl⟩
        simp only [Array.getD_eq_getD_getElem?, Array.getElem?_replicate] at hl
        split at hl <;> simp at hl
      rw [this]
      exact inv_start hst' (by rw [e2]; exact h) e1 ⟨rfl, rfl, rfl⟩ rfl hR hd
  · cases hc
end
end Go.Mach
