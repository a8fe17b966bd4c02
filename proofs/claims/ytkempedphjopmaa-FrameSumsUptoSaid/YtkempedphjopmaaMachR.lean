import Derived.Test.YtkempedphjopmaaMachQ
set_option linter.unusedVariables false
set_option linter.unusedSimpArgs false
set_option linter.unnecessarySimpa false
namespace Go.Mach
open Go.RowKit

section
variable {P : Program} {bs : Nat} {g : Gh} {ow : Nat → Option Nat} {σ σ' : Heap} {w : World} {ρ : Regs} {a : Act} {v : AV} {mt : Bool}

theorem VR.intv {k : IntKind} {n : Int} {c : Value} (h : VR g (.int k n) c) : c = .int k n := by cases h; rfl
theorem VR.strv {s : ByteArray} {c : Value} (h : VR g (.str s) c) : c = .string s := by cases h; rfl
theorem VR.boolv {b : Bool} {c : Value} (h : VR g (.bool b) c) : c = .bool b := by cases h; rfl

theorem isSl_ns {x : AV} (h : ¬ (isSl x = false)) : ∀ s, x ≠ .str s := fun s e => by subst e; exact h rfl
theorem bin_sound (h : HR g ow σ w) (hR : RR g ρ a.tmps) {op : BinOp} {t t' : TypeId} {x y : Operand} {ao : AOp} (hc : compBin P op t x y = some ao) (hs : stepOp bs ρ σ ao = some (v, σ')) :
    OpOut bs g ow σ w (Sem.run P (do pure (Next.value (← (do eqGuard op t x y (a.eval x) (a.eval y); binOp op t (a.eval x) (a.eval y))))) w) v σ' := by
  unfold compBin at hc
  split at hc
  · simp only [Option.bind_eq_bind, Option.bind_eq_some_iff] at hc
    obtain ⟨ax, hx, ay, hy, e⟩ := hc
    injection e with e; subst e
    simp only [stepOp] at hs
    obtain ⟨u, hu, e⟩ := Option.map_eq_some_iff.1 hs
    injection e with e1 e2; subst e1 e2
    exact s_bin h (ev_VR hR hx) (ev_VR hR hy) hu
  · simp only [Option.bind_eq_bind, Option.bind_eq_some_iff] at hc
    obtain ⟨ax, hx, ay, hy, e⟩ := hc
    injection e with e; subst e
    simp only [stepOp] at hs
    obtain ⟨u, hu, e⟩ := Option.map_eq_some_iff.1 hs
    injection e with e1 e2; subst e1 e2
    exact s_bin h (ev_VR hR hx) (ev_VR hR hy) hu
  · rename_i ht
    have hgo : ∀ neg (hop : op = if neg then BinOp.neq else .eql), (cx x >>= fun ax => cx y >>= fun ay => some (AOp.eqb neg ax ay)) = some ao → OpOut bs g ow σ w (Sem.run P (do pure (Next.value (← (do eqGuard op t x y (a.eval x) (a.eval y); binOp op t (a.eval x) (a.eval y))))) w) v σ' := by
      intro neg hop hc
      simp only [Option.bind_eq_bind, Option.bind_eq_some_iff] at hc
      obtain ⟨ax, hx, ay, hy, e⟩ := hc
      injection e with e; subst e
      simp only [stepOp] at hs
      have hvx := ev_VR hR hx
      have hvy := ev_VR hR hy
      split at hs
      · rename_i b1 b2 e1 e2
        injection hs with hs; injection hs with e3 e4; subst e3 e4
        rw [e1] at hvx; rw [e2] at hvy
        rw [hvx.boolv, hvy.boolv]
        exact s_eqb h hop ht
      · cases hs
    split at hc
    · exact hgo false rfl hc
    · exact hgo true rfl hc
    · cases hc
  · rename_i e ht
    have hgo : ∀ neg (hop : op = if neg then BinOp.neq else .eql), y = .const (.slice none 0 0) → (cx x >>= fun ax => some (AOp.eqnil neg ax)) = some ao → OpOut bs g ow σ w (Sem.run P (do pure (Next.value (← (do eqGuard op t x y (a.eval x) (a.eval y); binOp op t (a.eval x) (a.eval y))))) w) v σ' := by
      intro neg hop hy hcc
      clear hc
      subst hy
      simp only [Option.bind_eq_bind, Option.bind_eq_some_iff] at hcc
      obtain ⟨ax, hx, e'⟩ := hcc
      injection e' with e'; subst e'
      simp only [stepOp] at hs
      have hvx := ev_VR hR hx
      split at hs
      · rename_i hq
        injection hs with hs; injection hs with e3 e4; subst e3 e4
        exact s_eqnil h hop ht hvx hq
      · cases hs
    split at hc
    · exact hgo false rfl rfl hc
    · exact hgo true rfl rfl hc
    · cases hc
  · cases hc

theorem conv_sound (h : HR g ow σ w) (hR : RR g ρ a.tmps) {src dst : TypeId} {x : Operand} {ao : AOp} (hc : compConv P src dst x = some ao) (hs : stepOp bs ρ σ ao = some (v, σ')) (hnew : ∀ x, ao ≠ .s2b x) :
    OpOut bs g ow σ w (Sem.run P (do pure (Next.value (← convert src dst (a.eval x)))) w) v σ' := by
  unfold compConv at hc
  split at hc
  · rename_i h1 h2
    simp only [Option.bind_eq_bind, Option.bind_eq_some_iff] at hc
    obtain ⟨ax, hx, e⟩ := hc
    injection e with e; subst e
    simp only [stepOp] at hs
    have hvx := ev_VR hR hx
    split at hs
    · rename_i e1
      injection hs with hs; injection hs with e3 e4; subst e3 e4
      rw [e1] at hvx; rw [hvx.intv]
      exact s_conv h h1 h2
    · cases hs
  · rename_i h1 h2
    simp only [Option.bind_eq_bind, Option.bind_eq_some_iff] at hc
    obtain ⟨ax, hx, e⟩ := hc
    injection e with e; subst e
    simp only [stepOp] at hs
    have hvx := ev_VR hR hx
    split at hs
    · rename_i s e1
      injection hs with hs; injection hs with e3 e4; subst e3 e4
      rw [e1] at hvx
      exact s_convS h h1 h2 hvx ⟨s, rfl⟩
    · cases hs
  · rename_i e h1 h2
    split at hc
    · rename_i h3
      simp only [Option.bind_eq_bind, Option.bind_eq_some_iff] at hc
      obtain ⟨ax, hx, e⟩ := hc
      injection e with e; subst e
      exact absurd rfl (hnew _)
    · cases hc
  · rename_i e h1 h2
    split at hc
    · rename_i h3
      simp only [Option.bind_eq_bind, Option.bind_eq_some_iff] at hc
      obtain ⟨ax, hx, e⟩ := hc
      injection e with e; subst e
      simp only [stepOp] at hs
      split at hs
      · cases hs
      rename_i hsl
      obtain ⟨es, h4, hs⟩ := Option.bind_eq_some_iff.1 hs
      obtain ⟨s, h5, e⟩ := Option.map_eq_some_iff.1 hs
      injection e with e3 e4; subst e3 e4
      exact s_b2s h h1 (isU8_und h3) h2 (ev_VR hR hx) (isSl_ns hsl) h4 h5
    · cases hc
  · cases hc
end
end Go.Mach
