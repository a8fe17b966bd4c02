import Derived.Test.YtkempedphjopmaaMachJ
set_option linter.unusedVariables false
set_option linter.unusedSimpArgs false
set_option linter.unnecessarySimpa false
namespace Go.Mach
open Go.RowKit

section
variable {P : Program} {bs : Nat} {g : Gh} {ow : Nat → Option Nat} {σ σ' : Heap} {w : World} {v : AV}

theorem s_store (h : HR g ow σ w) {t : TypeId} {sz : Nat} (hsz : sizeT P t = some sz) {x y : AV} {ca cv : Value} (hx : VR g x ca) (hy : VR g y cv) (hs : storeA bs σ sz y x = some σ') :
    OpOut bs g ow σ w (Sem.run P (do Instr.storeAt t ca cv; pure Next.skip) w) .undef σ' := by
  cases hx <;> simp only [storeA] at hs <;> try (cases hs; done)
  rename_i id off b c hp
  split at hs
  · rename_i cs fz ext hσ
    split at hs
    · rename_i hc
      obtain ⟨h1, h2, h3, h4, h5⟩ := hc
      injection hs with hs; subst hs
      obtain ⟨cw, tag, fr, k0, k1, k2, k3, k4, k5, k6⟩ := h.cel id cs fz ext hσ b c hp
      obtain ⟨hl, hv⟩ := hy.cells h3
      have hvl : cv.cells.toList.length = sz := by rw [Array.length_toList, ← hl, h4]
      obtain ⟨w', hr, hh, hsm⟩ := run_storeCells (P := P) b off tag fr cv.cells.toList 0 cw w k0 (fun u hu => by
          obtain ⟨i, hi, rfl⟩ := List.getElem_of_mem hu
          have hi' : i < y.cells.length := by rw [hl]; simpa using hi
          obtain ⟨_, u', hu', ho, _⟩ := hv i _ (List.getElem?_eq_getElem hi')
          have : cv.cells[i]? = some (cv.cells.toList[i]) := by simp at hi ⊢
          rw [this] at hu'; injection hu' with hu'; rw [hu']; exact ho) (by omega) (fun j hj1 hj2 => (k6 j (by omega) (by omega)).2)
      rw [Nat.add_zero] at hh
      have hget : ∀ i, (setRunA cw off cv.cells.toList)[i]? = if off ≤ i ∧ i < off + sz then cv.cells[i - off]? else cw[i]? := fun i => by
        rw [setRunA_get _ _ _ _ (by omega), hvl]; simp
      have hgetA : ∀ i, (setRun cs off y.cells)[i]? = if off ≤ i ∧ i < off + sz then y.cells[i - off]? else cs[i]? := fun i => by
        rw [setRun_get _ _ _ _ (by omega), h4]
      obtain ⟨hH, hS⟩ := h.write (bs := bs) hσ hp k0 hh hsm (cs' := setRun cs off y.cells) (setRun_length ..) (setRunA_size ..) (fun i z hz => by
          rw [hgetA] at hz; rw [hget]
          split at hz
          · rename_i hc; rw [if_pos hc]
            obtain ⟨a1, u, hu, _, hV⟩ := hv _ z hz; exact ⟨a1, u, hu, hV⟩
          · rename_i hc; rw [if_neg hc]; exact k4 i z hz) (fun i hi => by rw [hget, if_neg (by omega)]) (by
          rcases h5 with h5 | h5
          · exact .inl h5
          · refine .inr fun i z hz => ?_
            rw [hgetA] at hz; rw [hget]
            split at hz
            · exact .inl (List.all_eq_true.1 h5 z (List.mem_of_getElem? hz))
            · rename_i hc; rw [if_neg hc]; exact .inr ⟨hz, rfl⟩)
      refine ⟨g, ow, w', Go.undef, .inr ⟨?_, rfl⟩, .undef _, hH, hS⟩
      have hne : ¬ (cv.cells.size ≠ sz) := by rw [← hl]; simpa using h4
      simp [Instr.storeAt, Instr.sureAddr, storeVar, run_sizeT hsz, hne, hr]
    · cases hs
  · cases hs

theorem s_bin (h : HR g ow σ w) {op : BinOp} {t : TypeId} {ox oy : Operand} {x y : AV} {cx cy : Value} (hx : VR g x cx) (hy : VR g y cy) (hs : binA op x y = some v) :
    OpOut bs g ow σ w (Sem.run P (do pure (Next.value (← (do eqGuard op t ox oy cx cy; binOp op t cx cy)))) w) v σ := by
  have hguard : ∀ w, (eqGuard op t ox oy cx cy).run P w = .ok () w := by
    intro w
    cases hx <;> first | (simp [binA] at hs; done) | skip
    · cases hy <;> first | (simp [binA] at hs; done) | (simp only [eqGuard]; split <;> rfl)
    · cases hy <;> first | (simp [binA] at hs; done) | (simp only [eqGuard]; split <;> rfl)
  cases hx <;> first | (simp [binA] at hs; done) | skip
  · rename_i k n
    cases hy <;> first | (simp [binA] at hs; done) | skip
    rename_i k' m
    have hex : ∃ cv, (binOp op t (.int k n) (.int k' m)).run P w = .ok cv w ∧ VR g v cv := by
      cases op <;> simp only [binA] at hs
      case shl => split at hs
                  · injection hs with hs; subst hs; rename_i hb; exact ⟨_, by simp [binOp, Op.shift, show ¬ m < 0 by omega], .int ..⟩
                  · cases hs
      case shr => split at hs
                  · injection hs with hs; subst hs; rename_i hb; exact ⟨_, by simp [binOp, Op.shift, show ¬ m < 0 by omega], .int ..⟩
                  · cases hs
      all_goals (split at hs)
      all_goals (try (cases hs; done))
      all_goals (rename_i hk; subst hk)
      case quo => split at hs
                  · cases hs
                  · rename_i hm; injection hs with hs; subst hs; exact ⟨_, by simp [binOp, Op.intDiv, hm], .int ..⟩
      case rem => split at hs
                  · cases hs
                  · rename_i hm; injection hs with hs; subst hs; exact ⟨_, by simp [binOp, Op.intDiv, hm], .int ..⟩
      case add | sub | mul => injection hs with hs; subst hs; exact ⟨_, by simp [binOp, Op.intArith], .int ..⟩
      case and | or | xor => injection hs with hs; subst hs; exact ⟨_, by simp [binOp, Op.intBits], .int ..⟩
      case eql | neq | lss | leq | gtr | geq => injection hs with hs; subst hs; exact ⟨_, by simp [binOp, Op.intCmp], .bool ..⟩
    obtain ⟨cv, hr, hV⟩ := hex
    exact OpOut.pure h (by simp only [Sem.run_bind, hguard, Result.andThen_ok, hr, Sem.run_pure]) hV
  · rename_i s
    cases hy <;> first | (simp [binA] at hs; done) | skip
    rename_i s'
    have hex : ∃ cv, (binOp op t (.string s) (.string s')).run P w = .ok cv w ∧ VR g v cv := by
      cases op <;> simp only [binA] at hs <;> try (cases hs; done)
      case add => split at hs
                  · rename_i hb; injection hs with hs; subst hs
                    refine ⟨_, ?_, .str _⟩
                    have : ¬ (((s.size + s'.size : Nat) : Int) > IntKind.i64.max) := by omega
                    simp only [binOp, Op.stringOp, if_neg this]; rfl
                  · cases hs
      all_goals (injection hs with hs; subst hs; exact ⟨_, by simp only [binOp, Op.stringOp]; rfl, .bool ..⟩)
    obtain ⟨cv, hr, hV⟩ := hex
    exact OpOut.pure h (by simp only [Sem.run_bind, hguard, Result.andThen_ok, hr, Sem.run_pure]) hV
theorem s_eqb (h : HR g ow σ w) {neg : Bool} {op : BinOp} (hop : op = if neg then .neq else .eql) {t : TypeId} (ht : P.underlying t = some .bool) {ox oy : Operand} {x y : Bool} :
    OpOut bs g ow σ w (Sem.run P (do pure (Next.value (← (do eqGuard op t ox oy (.bool x) (.bool y); binOp op t (.bool x) (.bool y))))) w) (.bool (neg != (x == y))) σ := by
  have hguard : ∀ w, (eqGuard op t ox oy (.bool x) (.bool y)).run P w = .ok () w := by
    intro w; simp only [eqGuard]; split <;> rfl
  have heq : ∀ w, (Op.equal t (.bool x) (.bool y)).run P w = .ok (x == y) w := by
    intro w
    have hd : ∀ d, (Op.equalIn (d + 1) t (.bool x) (.bool y)).run P w = .ok (x == y) w := fun d => by simp [Op.equalIn, run_und ht]
    exact hd 9999
  refine OpOut.pure h (cv := .bool (neg != (x == y))) ?_ (.bool _)
  cases neg <;> simp at hop <;> subst hop <;> simp [hguard, binOp, heq]
theorem s_eqnil (h : HR g ow σ w) {neg : Bool} {op : BinOp} (hop : op = if neg then .neq else .eql) {t e : TypeId} (ht : P.underlying t = some (.slice e)) {ox oy : Operand} {x : AV} {cx : Value} (hx : VR g x cx)
    (hs : notNil x = true) :
    OpOut bs g ow σ w (Sem.run P (do pure (Next.value (← (do eqGuard op t ox oy cx (.slice none 0 0); binOp op t cx (.slice none 0 0))))) w) (.bool neg) σ := by
  obtain ⟨ad, n, c, rfl⟩ : ∃ ad n c, cx = .slice (some ad) n c := by
    cases hx <;> first | (simp [notNil] at hs; done) | skip
    · rename_i es cap0 a c b p s vs hc h0 ha hcap hn hM hV
      rcases ha with rfl | rfl
      · simp [notNil] at hs
      · exact ⟨_, _, _, rfl⟩
    · exact ⟨_, _, _, rfl⟩
    · exact ⟨_, _, _, rfl⟩
  have hguard : ∀ w, (eqGuard op t ox oy (.slice (some ad) n c) (.slice none 0 0)).run P w = .ok () w := by
    intro w; simp only [eqGuard]; split <;> rfl
  have heq : ∀ w, (Op.equal t (.slice (some ad) n c) (.slice none 0 0)).run P w = .ok false w := by
    intro w
    have hd : ∀ d, (Op.equalIn (d + 1) t (.slice (some ad) n c) (.slice none 0 0)).run P w = .ok false w := fun d => by simp [Op.equalIn, run_und ht]
    exact hd 9999
  refine OpOut.pure h (cv := .bool neg) ?_ (.bool _)
  cases neg <;> simp at hop <;> subst hop <;> simp [hguard, binOp, heq]
theorem s_un (h : HR g ow σ w) {op : UnOp} {x : AV} {cx : Value} (hx : VR g x cx) (hs : unA op x = some v) : OpOut bs g ow σ w (Sem.run P (do pure (Next.value (← Op.unary op cx))) w) v σ := by
  cases hx <;> simp only [unA] at hs <;> try (cases hs; done)
  · split at hs
    · injection hs with hs; subst hs; exact OpOut.pure h (by simp [Op.unary, Op.intArith]) (.int ..)
    · cases hs
  · split at hs
    · injection hs with hs; subst hs; exact OpOut.pure h (by simp [Op.unary]) (.bool ..)
    · cases hs
end
end Go.Mach
