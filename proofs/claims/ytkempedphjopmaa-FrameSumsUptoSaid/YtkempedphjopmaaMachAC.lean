import Derived.Test.YtkempedphjopmaaMachAB
set_option linter.unusedVariables false
set_option linter.unusedSimpArgs false
set_option linter.unnecessarySimpa false
namespace Go.Mach
open Go.RowKit

/-! ### Code -/
def compC (P : Program) (mt : Bool) (nt : Nat) : Code → Option ACode
  | .skip => some .skip
  | .label _ => some .skip
  | .region _ ops draw => if draw then (compD P mt nt ops).map .region else (ops.toList.mapM (compOper P mt ops)).map .region
  | .seq a b => (compC P mt nt a).bind fun x => (compC P mt nt b).map fun y => .seq x y
  | .cond c a b => (cx c).bind fun z => (compC P mt nt a).bind fun x => (compC P mt nt b).map fun y => .cond z x y
  | .block id b => (compC P mt nt b).map (.block id)
  | .loop b => (compC P mt nt b).map .loop
  | .exit id => some (.exit id)
  | .ret => some .ret
  | _ => none
def toExit : AExit → Exit
  | .normal => .normal
  | .exit id => .exit id
  | .ret => .ret
def Post (bs : Nat) (g : Gh) (ow : Nat → Option Nat) (σ : Heap) (w : World) (r : St3) (ex : Exit) (a' : Act) (w' : World) : Prop :=
  ex = toExit r.1 ∧ ∃ g' ow', RR g' r.2.1 a'.tmps ∧ a'.defers = [] ∧ HR g' ow' r.2.2 w' ∧ St bs g ow σ w g' ow' r.2.2 w'
theorem Post.after {bs g ow σ w g1 ow1 σ1 w1 r ex a' w'} (s : St bs g ow σ w g1 ow1 σ1 w1) (h : Post bs g1 ow1 σ1 w1 r ex a' w') : Post bs g ow σ w r ex a' w' := by
  obtain ⟨h1, g', ow', h2, h3, h4, h5⟩ := h
  exact ⟨h1, g', ow', h2, h3, h4, s.trans h5⟩

section
variable {P : Program} {mt : Bool} {nt : Nat} {call : CallF} {bs k : Nat}
/-- What is said of code: every run of ours is one of the program's. -/
def CodeOK (P : Program) (call : CallF) (k bs nt : Nat) (c : Code) (ac : ACode) : Prop := ∀ ρ σ r, exec call k bs ac ρ σ = some r → ∀ g ow a w, HR g ow σ w → bs ≤ σ.length → RR g ρ a.tmps → a.defers = [] → nt ≤ ρ.length →
  r.2.1.length = ρ.length ∧ c.wp P (Post bs g ow σ w r) a w

theorem loop_at {c : Code} {ac : ACode} (h : CodeOK P call k bs nt c ac) : ∀ (n : Nat) ρ σ r, loopN (exec call k bs ac) n ρ σ = some r → ∀ g ow a w, HR g ow σ w → bs ≤ σ.length → RR g ρ a.tmps → a.defers = [] → nt ≤ ρ.length →
    r.2.1.length = ρ.length ∧ ∀ (b : Frame) (fk : List Item) (cs : List Frame), ∃ e a' w', Post bs g ow σ w r e a' w' ∧ Arrives P (lone (b.at a (.code c :: .inLoop c :: fk)) cs w) b fk cs e a' w'
  | 0, ρ, σ, r, hx, _, _, _, _, _, _, _, _, _ => by simp [loopN] at hx
  | n + 1, ρ, σ, r, hx, g, ow, a, w, h1, h2, h3, h4, h5 => by
    simp only [loopN] at hx
    obtain ⟨⟨e, ρ1, σ1⟩, hr, hx⟩ := Option.bind_eq_some_iff.1 hx
    obtain ⟨hl, hwp⟩ := h _ _ _ hr g ow a w h1 h2 h3 h4 h5
    cases e with
    | normal =>
      simp only at hx hl
      have key : ∀ g1 ow1 a1 w1, RR g1 ρ1 a1.tmps → a1.defers = [] → HR g1 ow1 σ1 w1 → bs ≤ σ1.length → r.2.1.length = ρ1.length ∧ ∀ (b : Frame) (fk : List Item) (cs : List Frame), ∃ e a' w', Post bs g1 ow1 σ1 w1 r e a' w' ∧ Arrives P (lone (b.at a1 (.code c :: .inLoop c :: fk)) cs w1) b fk cs e a' w' :=
        fun g1 ow1 a1 w1 k1 k2 k3 k4 => loop_at h n ρ1 σ1 r hx g1 ow1 a1 w1 k3 k4 k1 k2 (by omega)
      have hlen : r.2.1.length = ρ.length := by
        obtain ⟨e, a1, w1, ⟨_, g1, ow1, k1, k2, k3, k4⟩, _⟩ := hwp default [] []
        rw [← hl]; exact (key g1 ow1 a1 w1 k1 k2 k3 (Nat.le_trans h2 k4.len)).1
      refine ⟨hlen, fun b fk cs => ?_⟩
      obtain ⟨e, a1, w1, ⟨he, g1, ow1, k1, k2, k3, k4⟩, harr⟩ := hwp b (.inLoop c :: fk) cs
      simp only [toExit] at he; subst he
      obtain ⟨e2, a2, w2, hq, harr2⟩ := (key g1 ow1 a1 w1 k1 k2 k3 (Nat.le_trans h2 k4.len)).2 b fk cs
      exact ⟨e2, a2, w2, hq.after k4, .of_steps (Steps.trans harr (.one step_inLoop)) harr2⟩
    | exit id =>
      simp only at hx; injection hx with hx; subst hx
      refine ⟨hl, fun b fk cs => ?_⟩
      obtain ⟨e, a1, w1, hq, harr⟩ := hwp b (.inLoop c :: fk) cs
      have he := hq.1; simp only [toExit] at he; subst he
      exact ⟨_, a1, w1, hq, .pass (x := .inLoop c) rfl (fun _ _ => .inl (by simp)) harr⟩
    | ret =>
      simp only at hx; injection hx with hx; subst hx
      refine ⟨hl, fun b fk cs => ?_⟩
      obtain ⟨e, a1, w1, hq, harr⟩ := hwp b (.inLoop c :: fk) cs
      have he := hq.1; simp only [toExit] at he; subst he
      exact ⟨_, a1, w1, hq, .pass (x := .inLoop c) rfl (fun _ _ => .inl (by simp)) harr⟩

theorem exec_sound (hm : P.follows .mixedOrders = true) (hcall : CallOK P call) : ∀ (c : Code) (ac : ACode), compC P mt nt c = some ac → CodeOK P call k bs nt c ac
  | .skip, ac, hc => by
    simp only [compC] at hc; injection hc with hc; subst hc
    intro ρ σ r hx g ow a w h1 h2 h3 h4 h5
    simp only [exec] at hx; injection hx with hx; subst hx
    exact ⟨rfl, wp_skip ⟨rfl, g, ow, h3, h4, h1, .refl ..⟩⟩
  | .label _, ac, hc => by
    simp only [compC] at hc; injection hc with hc; subst hc
    intro ρ σ r hx g ow a w h1 h2 h3 h4 h5
    simp only [exec] at hx; injection hx with hx; subst hx
    exact ⟨rfl, wp_label ⟨rfl, g, ow, h3, h4, h1, .refl ..⟩⟩
  | .exit id, ac, hc => by
    simp only [compC] at hc; injection hc with hc; subst hc
    intro ρ σ r hx g ow a w h1 h2 h3 h4 h5
    simp only [exec] at hx; injection hx with hx; subst hx
    exact ⟨rfl, wp_exit ⟨rfl, g, ow, h3, h4, h1, .refl ..⟩⟩
  | .ret, ac, hc => by
    simp only [compC] at hc; injection hc with hc; subst hc
    intro ρ σ r hx g ow a w h1 h2 h3 h4 h5
    simp only [exec] at hx; injection hx with hx; subst hx
    exact ⟨rfl, wp_ret ⟨rfl, g, ow, h3, h4, h1, .refl ..⟩⟩
  | .region id ops draw, ac, hc => by
    intro ρ σ r hx g ow a w h1 h2 h3 h4 h5
    cases draw with
    | true =>
      simp only [compC, if_true] at hc
      obtain ⟨as, has, rfl⟩ := Option.map_eq_some_iff.1 hc
      simp only [exec] at hx
      obtain ⟨⟨ρ', σ'⟩, hr, rfl⟩ := Option.map_eq_some_iff.1 hx
      exact ⟨runOps_len hr, region_any hm hcall has hr h1 h2 h3 h4 h5 fun g' ow' a' w' k1 k2 k3 k4 => ⟨rfl, g', ow', k1, k2, k3, k4⟩⟩
    | false =>
      simp only [compC, Bool.false_eq_true, if_false] at hc
      obtain ⟨as, has, rfl⟩ := Option.map_eq_some_iff.1 hc
      simp only [exec] at hx
      obtain ⟨⟨ρ', σ'⟩, hr, rfl⟩ := Option.map_eq_some_iff.1 hx
      refine ⟨runOps_len hr, wp_region ?_⟩
      have := ops_sound (P := P) (mt := mt) (ops := ops) hcall ops.toList as 0 ρ σ g ow a w (fun j => by simp) has hr h1 h2 h3 h4 (Q := Post bs g ow σ w (.normal, ρ', σ')) fun g' ow' a' w' k1 k2 k3 k4 => ⟨rfl, g', ow', k1, k2, k3, k4⟩
      simpa using this
  | .seq x y, ac, hc => by
    simp only [compC] at hc
    obtain ⟨ax, hx', hc⟩ := Option.bind_eq_some_iff.1 hc
    obtain ⟨ay, hy', rfl⟩ := Option.map_eq_some_iff.1 hc
    have ihx := exec_sound hm hcall x ax hx'
    have ihy := exec_sound hm hcall y ay hy'
    intro ρ σ r hx g ow a w h1 h2 h3 h4 h5
    simp only [exec] at hx
    obtain ⟨⟨e, ρ1, σ1⟩, hr, hx⟩ := Option.bind_eq_some_iff.1 hx
    obtain ⟨hl, hwp⟩ := ihx _ _ _ hr g ow a w h1 h2 h3 h4 h5
    simp only at hl
    cases e with
    | normal =>
      simp only [onNormal] at hx
      have key := fun g1 ow1 a1 w1 k1 k2 k3 k4 => ihy ρ1 σ1 r hx g1 ow1 a1 w1 k1 k2 k3 k4 (by omega)
      refine ⟨?_, wp_seq (wp_mono hwp ?_)⟩
      · obtain ⟨e, a1, w1, ⟨_, g1, ow1, k1, k2, k3, k4⟩, _⟩ := hwp default [] []
        rw [← hl]; exact (key g1 ow1 a1 w1 k3 (Nat.le_trans h2 k4.len) k1 k2).1
      · rintro e a1 w1 ⟨he, g1, ow1, k1, k2, k3, k4⟩
        simp only [toExit] at he; subst he
        exact wp_mono (key g1 ow1 a1 w1 k3 (Nat.le_trans h2 k4.len) k1 k2).2 fun e a2 w2 hq => hq.after k4
    | exit id =>
      simp only [onNormal] at hx; injection hx with hx; subst hx
      refine ⟨hl, wp_seq (wp_mono hwp ?_)⟩
      intro e a1 w1 hq
      have he := hq.1; simp only [toExit] at he; subst he
      exact hq
    | ret =>
      simp only [onNormal] at hx; injection hx with hx; subst hx
      refine ⟨hl, wp_seq (wp_mono hwp ?_)⟩
      intro e a1 w1 hq
      have he := hq.1; simp only [toExit] at he; subst he
      exact hq
  | .cond c x y, ac, hc => by
    simp only [compC] at hc
    obtain ⟨z, hz, hc⟩ := Option.bind_eq_some_iff.1 hc
    obtain ⟨ax, hx', hc⟩ := Option.bind_eq_some_iff.1 hc
    obtain ⟨ay, hy', rfl⟩ := Option.map_eq_some_iff.1 hc
    have ihx := exec_sound hm hcall x ax hx'
    have ihy := exec_sound hm hcall y ay hy'
    intro ρ σ r hx g ow a w h1 h2 h3 h4 h5
    simp only [exec] at hx
    have hv := ev_VR h3 hz
    split at hx
    · rename_i e0; rw [e0] at hv
      obtain ⟨hl, hwp⟩ := ihx _ _ _ hx g ow a w h1 h2 h3 h4 h5
      exact ⟨hl, wp_cond_true hv.boolv hwp⟩
    · rename_i e0; rw [e0] at hv
      obtain ⟨hl, hwp⟩ := ihy _ _ _ hx g ow a w h1 h2 h3 h4 h5
      exact ⟨hl, wp_cond_false hv.boolv hwp⟩
    · cases hx
  | .block id c, ac, hc => by
    simp only [compC] at hc
    obtain ⟨ax, hx', rfl⟩ := Option.map_eq_some_iff.1 hc
    have ih := exec_sound hm hcall c ax hx'
    intro ρ σ r hx g ow a w h1 h2 h3 h4 h5
    simp only [exec] at hx
    obtain ⟨⟨e, ρ1, σ1⟩, hr, rfl⟩ := Option.map_eq_some_iff.1 hx
    obtain ⟨hl, hwp⟩ := ih _ _ _ hr g ow a w h1 h2 h3 h4 h5
    simp only at hl
    refine ⟨by cases e <;> simp only [outBlock] <;> first | exact hl | (split <;> exact hl), wp_block (wp_mono hwp ?_)⟩
    rintro e' a1 w1 ⟨he, hq⟩
    subst he
    cases e with
    | normal => exact ⟨rfl, hq⟩
    | ret => exact ⟨rfl, hq⟩
    | exit id' =>
      simp only [toExit, Exit.inBlock, outBlock]
      split
      · exact ⟨rfl, hq⟩
      · exact ⟨rfl, hq⟩
  | .loop c, ac, hc => by
    simp only [compC] at hc
    obtain ⟨ax, hx', rfl⟩ := Option.map_eq_some_iff.1 hc
    have ih := exec_sound hm hcall c ax hx'
    intro ρ σ r hx g ow a w h1 h2 h3 h4 h5
    simp only [exec] at hx
    obtain ⟨hl, harr⟩ := loop_at ih k ρ σ r hx g ow a w h1 h2 h3 h4 h5
    refine ⟨hl, fun b fk cs => ?_⟩
    obtain ⟨e, a', w', hq, h6⟩ := harr b fk cs
    exact ⟨e, a', w', hq, .of_steps (.one step_loop) h6⟩
  | .rangeFunc _ _ _ _, _, hc => by simp [compC] at hc
  | .scope _, _, hc => by simp [compC] at hc
  | .goto _, _, hc => by simp [compC] at hc
  | .refuse _, _, hc => by simp [compC] at hc
end
end Go.Mach
