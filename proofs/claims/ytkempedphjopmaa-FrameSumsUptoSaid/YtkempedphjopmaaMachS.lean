import Derived.Test.YtkempedphjopmaaMachR
set_option linter.unusedVariables false
set_option linter.unusedSimpArgs false
set_option linter.unnecessarySimpa false
namespace Go.Mach
open Go.RowKit

section
variable {P : Program} {bs : Nat} {g : Gh} {ow : Nat → Option Nat} {σ σ' : Heap} {w : World} {ρ : Regs} {a : Act} {v : AV} {mt : Bool}

theorem OpOut.val {bs g ow σ w v cv σ'} {r : Result Next} (hr : r = .ok (.value cv) w) (h : HR g ow σ w) (hv : VR g v cv) (hσ : σ' = σ) : OpOut bs g ow σ w r v σ' := by subst hσ; exact .pure h hr hv

def isCall : AOp → Bool
  | .call _ _ | .callv _ _ => true
  | _ => false

theorem all_of {α : Type} {p : α → Bool} {x : Option α} {a : α} (h : x = some a) (hp : x.all p = true) : p a = true := by subst h; simpa using hp
theorem bind_all {α β : Type} {p : β → Bool} {x : Option α} {f : α → Option β} (h : ∀ a, (f a).all p = true) : (x >>= f).all p = true := by
  cases x with
  | none => rfl
  | some a => exact h a
def isNew : AOp → Bool
  | .alloc _ | .box _ | .buildSl _ _ _ _ _ | .s2b _ | .mksl _ _ _ _ _ _ | .rng _ => true
  | _ => false
theorem op_new (hR : RR g ρ a.tmps) {o : Oper} {ao : AOp} (hc : compOp P mt o = some ao) (hn : isNew ao = true) (hs : stepOp bs ρ σ ao = some (v, σ')) :
    ∃ mkAV obj, v = mkAV σ.length ∧ σ' = σ ++ [obj] ∧ (∀ σ2 : Heap, stepOp bs ρ σ2 ao = some (mkAV σ2.length, σ2 ++ [obj])) ∧ NewRes g w ((execOp a.eval o).run P w) mkAV obj := by
  unfold compOp at hc
  unfold execOp
  generalize hop : o.op = op at hc ⊢
  cases op <;> simp only at hc ⊢ <;> try (cases hc; done)
  case alloc e =>
    simp only [Option.bind_eq_bind, Option.bind_eq_some_iff] at hc
    obtain ⟨zs, hz, e⟩ := hc; injection e with e; subst e
    simp only [stepOp] at hs ⊢; injection hs with hs; injection hs with e1 e2; subst e1 e2
    exact ⟨_, _, rfl, rfl, fun _ => rfl, s_alloc hz⟩
  case box e x =>
    simp only [Option.bind_eq_bind, Option.bind_eq_some_iff] at hc
    obtain ⟨ax, hx, e⟩ := hc; injection e with e; subst e
    simp only [stepOp] at hs ⊢
    split at hs
    · rename_i hso; injection hs with hs; injection hs with e1 e2; subst e1 e2
      exact ⟨_, _, rfl, rfl, fun _ => by rw [if_pos hso], s_box (ev_VR hR hx) hso⟩
    · cases hs
  case buildSlice t n parts =>
    split at hc
    · rename_i e ht
      simp only [Option.bind_eq_bind, Option.bind_eq_some_iff] at hc
      obtain ⟨s, hsz, zs, hz, hc⟩ := hc
      split at hc
      · rename_i hcond
        simp only [Option.bind_eq_some_iff] at hc
        obtain ⟨ag, hag, ps, hp, e⟩ := hc; injection e with e; subst e
        simp only [stepOp] at hs ⊢
        obtain ⟨cs, hf, e⟩ := Option.map_eq_some_iff.1 hs
        injection e with e1 e2; subst e1 e2
        exact ⟨_, _, rfl, rfl, fun _ => by rw [hf]; rfl, s_buildSl hR ht hsz hz hcond.1 hcond.2.1 hcond.2.2 hp hf⟩
      · cases hc
    · cases hc
  case convert src dst x =>
    unfold compConv at hc
    split at hc
    · simp only [Option.bind_eq_bind, Option.bind_eq_some_iff] at hc
      obtain ⟨ax, hx, e⟩ := hc; injection e with e; subst e; simp [isNew] at hn
    · simp only [Option.bind_eq_bind, Option.bind_eq_some_iff] at hc
      obtain ⟨ax, hx, e⟩ := hc; injection e with e; subst e; simp [isNew] at hn
    · rename_i e h1 h2
      split at hc
      · rename_i h3
        simp only [Option.bind_eq_bind, Option.bind_eq_some_iff] at hc
        obtain ⟨ax, hx, e⟩ := hc
        injection e with e; subst e
        simp only [stepOp] at hs ⊢
        have hvx := ev_VR hR hx
        split at hs
        · rename_i e1
          injection hs with hs; injection hs with e3 e4; subst e3 e4
          rw [e1] at hvx; rw [hvx.strv]
          exact ⟨_, _, rfl, rfl, fun _ => rfl, s_s2b h1 h2 (isU8_und h3)⟩
        · cases hs
      · cases hc
    · split at hc
      · simp only [Option.bind_eq_bind, Option.bind_eq_some_iff] at hc
        obtain ⟨ax, hx, e⟩ := hc; injection e with e; subst e; simp [isNew] at hn
      · cases hc
    · cases hc
  case makeSlice t l c =>
    split at hc
    · rename_i e ht
      simp only [Option.bind_eq_bind, Option.bind_eq_some_iff] at hc
      obtain ⟨s, hsz, zs, hz, hc⟩ := hc
      split at hc
      · rename_i hcond
        simp only [Option.bind_eq_some_iff] at hc
        obtain ⟨ag, hag, by', hby, al, hl, ac, hcc, e⟩ := hc; injection e with e; subst e
        simp only [stepOp] at hs ⊢
        have hvl := ev_VR hR hl
        have hvc := ev_VR hR hcc
        split at hs
        · rename_i n m e1 e2
          split at hs
          · rename_i hcond2
            have hcond3 := hcond2
            obtain ⟨rfl, h1, h2, h3⟩ := hcond2
            injection hs with hs; injection hs with e3 e4; subst e3 e4
            rw [e1] at hvl; rw [e2] at hvc
            rw [hvl.intv, hvc.intv]
            exact ⟨_, _, rfl, rfl, fun _ => by rw [if_pos hcond3], s_mksl ht hsz hz hby hcond.1 hcond.2 h1 h2 h3⟩
          · cases hs
        · cases hs
      · cases hc
    · cases hc
  case range t x =>
    split at hc
    · rename_i ht
      simp only [Option.bind_eq_bind, Option.bind_eq_some_iff] at hc
      obtain ⟨ax, hx, e⟩ := hc; injection e with e; subst e
      simp only [stepOp] at hs ⊢
      have hv := ev_VR hR hx
      split at hs
      · rename_i s e0
        injection hs with hs; injection hs with e1 e2; subst e1 e2
        rw [e0] at hv; rw [hv.strv]
        exact ⟨_, _, rfl, rfl, fun _ => rfl, s_rng ht⟩
      · cases hs
    · cases hc
  case makeFunc fn first caps =>
    cases fn <;> simp only at hc <;> try (cases hc; done)
    exact absurd (all_of (p := fun ao => !isNew ao) hc (by repeat (first | rfl | (refine bind_all fun _ => ?_) | split))) (by simp [hn])
  case next x b =>
    cases b <;> simp only at hc <;> try (cases hc; done)
    exact absurd (all_of (p := fun ao => !isNew ao) hc (by repeat (first | rfl | (refine bind_all fun _ => ?_) | split))) (by simp [hn])
  all_goals (try unfold compBin at hc)
  all_goals (try unfold compCall at hc)
  all_goals exact absurd (all_of (p := fun ao => !isNew ao) hc (by repeat (first | rfl | (refine bind_all fun _ => ?_) | split))) (by simp [hn])

theorem op_sound (h : HR g ow σ w) (hR : RR g ρ a.tmps) {o : Oper} {ao : AOp} (hc : compOp P mt o = some ao) (hnc : isCall ao = false) (hs : stepOp bs ρ σ ao = some (v, σ')) :
    OpOut bs g ow σ w ((execOp a.eval o).run P w) v σ' := by
  by_cases hnew : isNew ao = true
  · obtain ⟨mkAV, obj, rfl, rfl, _, hN⟩ := op_new (g := g) (w := w) hR hc hnew hs
    exact .ofNew h hN
  unfold compOp at hc
  unfold execOp
  generalize hop : o.op = op at hc ⊢
  cases op <;> simp only at hc ⊢ <;> try (cases hc; done)
  case move x =>
    simp only [Option.bind_eq_bind, Option.bind_eq_some_iff] at hc
    obtain ⟨ax, hx, e⟩ := hc; injection e with e; subst e
    simp only [stepOp] at hs; injection hs with hs; injection hs with e1 e2; subst e1 e2
    exact OpOut.pure h rfl (ev_VR hR hx)
  case assign x =>
    simp only [Option.bind_eq_bind, Option.bind_eq_some_iff] at hc
    obtain ⟨ax, hx, e⟩ := hc; injection e with e; subst e
    simp only [stepOp] at hs; injection hs with hs; injection hs with e1 e2; subst e1 e2
    exact OpOut.pure h rfl (ev_VR hR hx)
  case pick c x y =>
    simp only [Option.bind_eq_bind, Option.bind_eq_some_iff] at hc
    obtain ⟨ac, hac, ax, hx, ay, hy, e⟩ := hc; injection e with e; subst e
    simp only [stepOp] at hs
    have hv := ev_VR hR hac
    split at hs
    · rename_i e0; injection hs with hs; injection hs with e1 e2; subst e1 e2
      rw [e0] at hv; rw [hv.boolv]
      exact OpOut.pure h (by simp [asBool]) (ev_VR hR hx)
    · rename_i e0; injection hs with hs; injection hs with e1 e2; subst e1 e2
      rw [e0] at hv; rw [hv.boolv]
      exact OpOut.pure h (by simp [asBool]) (ev_VR hR hy)
    · cases hs
  case alloc e =>
    exact absurd (all_of (p := fun ao => isNew ao) hc (by repeat (first | rfl | (refine bind_all fun _ => ?_) | split))) (by simp [hnew])
  case box e x =>
    exact absurd (all_of (p := fun ao => isNew ao) hc (by repeat (first | rfl | (refine bind_all fun _ => ?_) | split))) (by simp [hnew])
  case build t parts =>
    split at hc
    · rename_i fs ht
      simp only [Option.bind_eq_bind, Option.bind_eq_some_iff] at hc
      obtain ⟨sizes, hsz, zs, hz, ps, hp, e⟩ := hc; injection e with e; subst e
      simp only [stepOp] at hs
      obtain ⟨cs, hf, e⟩ := Option.map_eq_some_iff.1 hs
      injection e with e1 e2; subst e1 e2
      exact s_buildS h hR ht hsz hz hp hf
    · rename_i n e ht
      simp only [Option.bind_eq_bind, Option.bind_eq_some_iff] at hc
      obtain ⟨s, hsz, zs, hz, ps, hp, e⟩ := hc; injection e with e; subst e
      simp only [stepOp] at hs
      obtain ⟨cs, hf, e⟩ := Option.map_eq_some_iff.1 hs
      injection e with e1 e2; subst e1 e2
      exact s_buildA h hR ht hsz hz hp hf
    · cases hc
  case buildSlice t n parts =>
    exact absurd (all_of (p := fun ao => isNew ao) hc (by repeat (first | rfl | (refine bind_all fun _ => ?_) | split))) (by simp [hnew])
  case load t x =>
    simp only [Option.bind_eq_bind, Option.bind_eq_some_iff] at hc
    obtain ⟨sz, hsz, ag, hag, ax, hx, e⟩ := hc; injection e with e; subst e
    simp only [stepOp] at hs
    obtain ⟨u, hu, e⟩ := Option.map_eq_some_iff.1 hs
    injection e with e1 e2; subst e1 e2
    obtain ⟨cu, hr, hV⟩ := loadA_sound (P := P) h hsz hag (ev_VR hR hx) hu
    exact OpOut.pure h (by simp only [Sem.run_bind, hr, Result.andThen_ok, Sem.run_pure]) hV
  case store t x y =>
    simp only [Option.bind_eq_bind, Option.bind_eq_some_iff] at hc
    obtain ⟨sz, hsz, ax, hx, ay, hy, e⟩ := hc; injection e with e; subst e
    simp only [stepOp] at hs
    obtain ⟨u, hu, e⟩ := Option.map_eq_some_iff.1 hs
    injection e with e1 e2; subst e1 e2
    exact s_store h hsz (ev_VR hR hx) (ev_VR hR hy) hu
  case nilCheck x =>
    simp only [Option.bind_eq_bind, Option.bind_eq_some_iff] at hc
    obtain ⟨ax, hx, e⟩ := hc; injection e with e; subst e
    simp only [stepOp] at hs
    have hv := ev_VR hR hx
    split at hs
    · rename_i id off e0; injection hs with hs; injection hs with e1 e2; subst e1 e2
      rw [e0] at hv
      cases hcx : a.eval x <;> rw [hcx] at hv <;> cases hv
      exact OpOut.pure h rfl (.ptr (by assumption))
    · rename_i cs off e0; injection hs with hs; injection hs with e1 e2; subst e1 e2
      rw [e0] at hv
      generalize hcx : a.eval x = cx at hv ⊢
      cases hv with
      | iptr vs hc hM hV => exact OpOut.pure h rfl (.iptr vs hc hM hV)
    · rename_i f caps e0; injection hs with hs; injection hs with e1 e2; subst e1 e2
      rw [e0] at hv
      generalize hcx : a.eval x = cx at hv ⊢
      cases hv with
      | func hl hV => exact OpOut.pure h rfl (.func hl hV)
    · cases hs
  case binOp op t x y t' => exact bin_sound h hR (t' := t') hc hs
  case unOp op t x =>
    simp only [Option.bind_eq_bind, Option.bind_eq_some_iff] at hc
    obtain ⟨ax, hx, e⟩ := hc; injection e with e; subst e
    simp only [stepOp] at hs
    obtain ⟨u, hu, e⟩ := Option.map_eq_some_iff.1 hs
    injection e with e1 e2; subst e1 e2
    exact s_un h (ev_VR hR hx) hu
  case convert src dst x => exact conv_sound h hR hc hs (fun x e => by subst e; exact hnew rfl)
  case makeFunc fn first caps =>
    cases fn <;> simp only at hc <;> try (cases hc; done)
    split at hc
    · rename_i hf
      simp only [Option.bind_eq_bind, Option.bind_eq_some_iff] at hc
      obtain ⟨xs, hx, e⟩ := hc; injection e with e; subst e
      simp only [stepOp] at hs; injection hs with hs; injection hs with e1 e2; subst e1 e2
      have e0 : first.map a.eval = #[] := by rw [Array.eq_empty_of_size_eq_zero hf]; simp
      have e1 : caps.map a.eval = (caps.toList.map a.eval).toArray := by apply Array.ext'; simp
      rw [e0, e1]
      exact s_mkfn h hR hx
    · cases hc
  case makeSlice t l c =>
    exact absurd (all_of (p := fun ao => isNew ao) hc (by repeat (first | rfl | (refine bind_all fun _ => ?_) | split))) (by simp [hnew])
  case slice t x lo hi mx =>
    split at hc
    · rename_i ht
      cases mx with
      | some m => cases hc
      | none =>
        simp only [Option.bind_eq_bind, Option.bind_eq_some_iff] at hc
        obtain ⟨ax, hx, al, hl, ah, hh, e⟩ := hc; injection e with e; subst e
        simp only [stepOp] at hs
        have hv := ev_VR hR hx
        split at hs
        · rename_i s e0
          obtain ⟨hn, e1, hs⟩ := Option.bind_eq_some_iff.1 hs
          obtain ⟨ln, e2, e⟩ := Option.map_eq_some_iff.1 hs
          injection e with e3 e4; subst e3 e4
          rw [e0] at hv; rw [hv.strv]
          exact s_strSl h hR ht hl hh e1 e2
        · cases hs
    · rename_i e ht
      cases mx with
      | none =>
        simp only [Option.bind_eq_bind, Option.bind_eq_some_iff] at hc
        obtain ⟨sz, hsz, ax, hx, al, hl, ah, hh, e⟩ := hc; injection e with e; subst e
        simp only [stepOp] at hs
        split at hs
        · cases hs
        rename_i hsl
        obtain ⟨n, hn, hs⟩ := Option.bind_eq_some_iff.1 hs
        obtain ⟨hn', e1, hs⟩ := Option.bind_eq_some_iff.1 hs
        obtain ⟨ln, e2, hs⟩ := Option.bind_eq_some_iff.1 hs
        obtain ⟨u, hu, e⟩ := Option.map_eq_some_iff.1 hs
        injection e with e3 e4; subst e3 e4
        exact s_slSl h hR ht hsz (ev_VR hR hx) hn (isSl_ns hsl) hl hh e1 e2 hu
      | some m =>
        cases lo with
        | none => cases hc
        | some lo =>
          cases hi with
          | none => cases hc
          | some hi =>
            simp only [Option.bind_eq_bind, Option.bind_eq_some_iff] at hc
            obtain ⟨sz, hsz, ax, hx, al, hl, ah, hh, am, hm, e⟩ := hc; injection e with e; subst e
            simp only [stepOp] at hs
            obtain ⟨n, hn, hs1⟩ := Option.bind_eq_some_iff.1 hs
            clear hs
            obtain ⟨m', e0, hs2⟩ := Option.bind_eq_some_iff.1 hs1
            clear hs1
            obtain ⟨hn', e1, hs3⟩ := Option.bind_eq_some_iff.1 hs2
            clear hs2
            obtain ⟨ln, e2, hs⟩ := Option.bind_eq_some_iff.1 hs3
            clear hs3
            have hv := ev_VR hR hx
            split at hs
            · rename_i hcond
              obtain ⟨rfl, rfl⟩ := hcond
              split at hs
              · rename_i es cap0 e5
                injection hs with hs; injection hs with e3 e4; subst e3 e4
                rw [e5] at hv hn
                simp only [lenA] at hn; injection hn with hn; subst hn
                exact s_slCl h hR ht hsz hv hl hh hm e0 e1 e2 rfl
              · cases hs
            · cases hs
    · rename_i n e ht
      cases mx with
      | some m => cases hc
      | none =>
        simp only [Option.bind_eq_bind, Option.bind_eq_some_iff] at hc
        obtain ⟨sz, hsz, ag, hag, ax, hx, al, hl, ah, hh, e⟩ := hc; injection e with e; subst e
        simp only [stepOp] at hs
        have hv := ev_VR hR hx
        split at hs
        · rename_i id off e0
          split at hs
          · rename_i cs fz hσ
            obtain ⟨hn, e1, hs⟩ := Option.bind_eq_some_iff.1 hs
            obtain ⟨ln, e2, hs⟩ := Option.bind_eq_some_iff.1 hs
            split at hs
            · rename_i hcond
              injection hs with hs; injection hs with e3 e4; subst e3 e4
              rw [e0] at hv
              exact s_arrSl h hR ht hsz hv hσ hl hh e1 e2 hcond.1 hcond.2.1 hcond.2.2
            · cases hs
          · cases hs
        · cases hs
    · cases hc
  case fieldAddr t x f =>
    split at hc
    · rename_i fs ht
      split at hc
      · rename_i fd hf
        split at hc
        · rename_i s hsz
          simp only [Option.bind_eq_bind, Option.bind_eq_some_iff] at hc
          obtain ⟨ax, hx, e⟩ := hc; injection e with e; subst e
          simp only [stepOp] at hs
          have hv := ev_VR hR hx
          split at hs
          · rename_i e0; injection hs with hs; injection hs with e3 e4; subst e3 e4
            rw [e0] at hv; exact s_faddr h ht hf hsz hv rfl
          · rename_i e0; injection hs with hs; injection hs with e3 e4; subst e3 e4
            rw [e0] at hv; exact s_faddr h ht hf hsz hv rfl
          · cases hs
        · cases hc
      · cases hc
    · cases hc
  case field t x f =>
    split at hc
    · rename_i fs ht
      split at hc
      · rename_i fd hf
        simp only [Option.bind_eq_bind, Option.bind_eq_some_iff] at hc
        obtain ⟨sz, hsz, ag, hag, ax, hx, e⟩ := hc; injection e with e; subst e
        simp only [stepOp] at hs
        have hv := ev_VR hR hx
        split at hs
        · rename_i cs e0
          obtain ⟨u, hu, e⟩ := Option.map_eq_some_iff.1 hs
          injection e with e1 e2; subst e1 e2
          obtain ⟨win, hw, hm⟩ := Option.bind_eq_some_iff.1 hu
          rw [e0] at hv
          exact s_field h ht hf hsz hag hv hw hm
        · cases hs
      · cases hc
    · cases hc
  case indexAddr t x i =>
    split at hc
    · rename_i e ht
      simp only [Option.bind_eq_bind, Option.bind_eq_some_iff] at hc
      obtain ⟨sz, hsz, ax, hx, ai, hi, e⟩ := hc; injection e with e; subst e
      simp only [stepOp] at hs
      have hv := ev_VR hR hx
      have hvi := ev_VR hR hi
      split at hs
      · rename_i k m ei
        rw [ei] at hvi; rw [hvi.intv]
        split at hs
        · rename_i h0
          split at hs
          · rename_i es cap0 e0
            rw [e0] at hv
            obtain ⟨el, hel, hs'⟩ := Option.bind_eq_some_iff.1 hs
            split at hs'
            · rename_i hl
              injection hs' with hs'; injection hs' with e1 e2; subst e1 e2
              exact s_iaddrS h ht hsz hv h0 (by simp [hel, hl])
            · cases hs'
          · rename_i id es e0
            rw [e0] at hv
            obtain ⟨el, hel, hs'⟩ := Option.bind_eq_some_iff.1 hs
            split at hs'
            · rename_i hl
              injection hs' with hs'; injection hs' with e1 e2; subst e1 e2
              exact s_iaddrS h ht hsz hv h0 (by simp [hel, hl])
            · cases hs'
          · rename_i id off len sz' ag e0
            rw [e0] at hv
            split at hs
            · rename_i hl
              injection hs with hs'; injection hs' with e1 e2; subst e1 e2
              exact s_iaddrS h ht hsz hv h0 (by simp only [hl, and_self, if_true])
            · cases hs
          · cases hs
        · cases hs
      · cases hs
    · rename_i n e ht
      simp only [Option.bind_eq_bind, Option.bind_eq_some_iff] at hc
      obtain ⟨sz, hsz, ax, hx, ai, hi, e⟩ := hc; injection e with e; subst e
      simp only [stepOp] at hs
      have hv := ev_VR hR hx
      have hvi := ev_VR hR hi
      split at hs
      · rename_i id off k m e0 ei
        split at hs
        · rename_i hcond
          injection hs with hs; injection hs with e1 e2; subst e1 e2
          rw [ei] at hvi; rw [hvi.intv]
          rw [e0] at hv
          exact s_iaddrA h ht hsz hv hcond.1 hcond.2
        · cases hs
      · cases hs
    · cases hc
  case index t x i =>
    split at hc
    · rename_i ht
      simp only [Option.bind_eq_bind, Option.bind_eq_some_iff] at hc
      obtain ⟨ax, hx, ai, hi, e⟩ := hc; injection e with e; subst e
      simp only [stepOp] at hs
      have hv := ev_VR hR hx
      have hvi := ev_VR hR hi
      split at hs
      · rename_i s k m e0 ei
        split at hs
        · rename_i h0
          obtain ⟨b, hb, e⟩ := Option.map_eq_some_iff.1 hs
          injection e with e1 e2; subst e1 e2
          rw [ei] at hvi; rw [hvi.intv]
          rw [e0] at hv; rw [hv.strv]
          exact s_idxStr h ht h0 hb
        · cases hs
      · cases hs
    · rename_i n e ht
      simp only [Option.bind_eq_bind, Option.bind_eq_some_iff] at hc
      obtain ⟨sz, hsz, ag, hag, ax, hx, ai, hi, e⟩ := hc; injection e with e; subst e
      simp only [stepOp] at hs
      have hv := ev_VR hR hx
      have hvi := ev_VR hR hi
      split at hs
      · rename_i cs k m e0 ei
        split at hs
        · rename_i hcond
          obtain ⟨u, hu, e⟩ := Option.map_eq_some_iff.1 hs
          injection e with e1 e2; subst e1 e2
          obtain ⟨win, hw, hm⟩ := Option.bind_eq_some_iff.1 hu
          rw [ei] at hvi; rw [hvi.intv]
          rw [e0] at hv
          exact s_idxArr h ht hsz hag hv hcond.1 hcond.2 hw hm
        · cases hs
      · cases hs
    · cases hc
  case range t x =>
    exact absurd (all_of (p := fun ao => isNew ao) hc (by repeat (first | rfl | (refine bind_all fun _ => ?_) | split))) (by simp [hnew])
  case next x b =>
    cases b with
    | false => cases hc
    | true =>
      simp only [Option.bind_eq_bind, Option.bind_eq_some_iff] at hc
      obtain ⟨ax, hx, e⟩ := hc; injection e with e; subst e
      simp only [stepOp] at hs
      have hv := ev_VR hR hx
      split at hs
      · rename_i id e0
        rw [e0] at hv
        split at hs
        · rename_i s pos hσ
          have := s_nxt (P := P) (bs := bs) h hv hσ (ty := o.type)
          split at hs
          · rename_i hlt
            injection hs with hs; injection hs with e1 e2; subst e1 e2
            simpa only [if_pos hlt] using this
          · rename_i hlt
            injection hs with hs; injection hs with e1 e2; subst e1 e2
            simpa only [if_neg hlt] using this
        · cases hs
      · cases hs
  case extract x i =>
    simp only [Option.bind_eq_bind, Option.bind_eq_some_iff] at hc
    obtain ⟨ax, hx, e⟩ := hc; injection e with e; subst e
    simp only [stepOp] at hs
    have hv := ev_VR hR hx
    split at hs
    · rename_i vs e0
      obtain ⟨u, hu, e⟩ := Option.map_eq_some_iff.1 hs
      injection e with e1 e2; subst e1 e2
      rw [e0] at hv
      exact s_extract h hv hu
    · cases hs
  case call c =>
    unfold compCall at hc
    split at hc
    · simp only [Option.bind_eq_bind, Option.bind_eq_some_iff] at hc
      obtain ⟨xs, hx, e⟩ := hc; injection e with e; subst e; simp [isCall] at hnc
    · simp only [Option.bind_eq_bind, Option.bind_eq_some_iff] at hc
      obtain ⟨ax, hx, xs, hxs, e⟩ := hc; injection e with e; subst e; simp [isCall] at hnc
    · -- len
      rename_i hcal
      split at hc
      · rename_i t x hat har
        have hat' : c.argTypes = #[t] := by rw [← Array.toArray_toList (xs := c.argTypes), hat]
        have har' : c.args = #[x] := by rw [← Array.toArray_toList (xs := c.args), har]
        split at hc
        · rename_i ht
          simp only [Option.bind_eq_bind, Option.bind_eq_some_iff] at hc
          obtain ⟨ax, hx, e⟩ := hc; injection e with e; subst e
          simp only [stepOp] at hs
          split at hs
          · cases hs
          rename_i hst
          obtain ⟨n, hn, e⟩ := Option.map_eq_some_iff.1 hs
          injection e with e1 e2; subst e1 e2
          have := s_len (P := P) (bs := bs) h (ev_VR hR hx) hst hn (t := t) (ty := o.type) (.inl ⟨rfl, ht⟩)
          simpa [resolve, hcal, invoke, builtin, hat', har'] using this
        · rename_i e ht
          simp only [Option.bind_eq_bind, Option.bind_eq_some_iff] at hc
          obtain ⟨ax, hx, e'⟩ := hc; injection e' with e'; subst e'
          simp only [stepOp] at hs
          split at hs
          · cases hs
          rename_i hst
          obtain ⟨n, hn, e'⟩ := Option.map_eq_some_iff.1 hs
          injection e' with e1 e2; subst e1 e2
          have := s_len (P := P) (bs := bs) h (ev_VR hR hx) hst hn (t := t) (ty := o.type) (.inr ⟨rfl, e, ht⟩)
          simpa [resolve, hcal, invoke, builtin, hat', har'] using this
        · cases hc
      · cases hc
    · -- append
      rename_i hcal
      split at hc
      · rename_i t u s x hat har
        have hat' : c.argTypes = #[t, u] := by rw [← Array.toArray_toList (xs := c.argTypes), hat]
        have har' : c.args = #[s, x] := by rw [← Array.toArray_toList (xs := c.args), har]
        have hgo : ∀ e, P.underlying t = some (.slice e) → (P.underlying u = some .string ∨ ∃ e', P.underlying u = some (.slice e')) →
            (do let sz ← sizeT P e; let zs ← zeroT P e; if zs.length = sz then some (AOp.append sz (← aggT P e) (← (P.info? e).map (·.bytes)) mt (← cx s) (← cx x)) else none) = some ao →
            OpOut bs g ow σ w (Sem.run P (do let d ← resolve a.eval c o.type; invoke d.target d.args) w) v σ' := by
          intro e ht hu hc'
          simp only [Option.bind_eq_bind, Option.bind_eq_some_iff] at hc'
          obtain ⟨sz, hsz, zs, hz, hc'⟩ := hc'
          split at hc'
          · rename_i hzl
            simp only [Option.bind_eq_some_iff] at hc'
            obtain ⟨ag, hag, by', hby, as, hs', ax, hx, e0⟩ := hc'; injection e0 with e0; subst e0
            simp only [stepOp] at hs
            obtain ⟨i, hi, rfl⟩ := Option.map_eq_some_iff.1 hby
            obtain ⟨i', hi', rfl⟩ := Option.map_eq_some_iff.1 hsz
            rw [hi] at hi'; injection hi' with hi'; subst hi'
            have := s_append (P := P) (bs := bs) (ty := o.type) h ht hu hi rfl hz hzl (ev_VR hR hs') (ev_VR hR hx) hs
            simpa [resolve, hcal, invoke, builtin, hat', har'] using this
          · cases hc'
        split at hc
        · rename_i e e' ht hu; exact hgo e ht (.inr ⟨e', hu⟩) hc
        · rename_i e ht hu; exact hgo e ht (.inl hu) hc
        · cases hc
      · cases hc
    · -- min
      rename_i hcal
      split at hc
      · rename_i x y har
        have har' : c.args = #[x, y] := by rw [← Array.toArray_toList (xs := c.args), har]
        simp only [Option.bind_eq_bind, Option.bind_eq_some_iff] at hc
        obtain ⟨ax, hx, ay, hy, e⟩ := hc; injection e with e; subst e
        simp only [stepOp] at hs
        have hvx := ev_VR hR hx
        have hvy := ev_VR hR hy
        split at hs
        · rename_i k n k' m e1 e2
          injection hs with hs; injection hs with e3 e4; subst e3 e4
          rw [e1] at hvx; rw [e2] at hvy
          have hx' := hvx.intv
          have hy' := hvy.intv
          have := s_min2 (P := P) (bs := bs) h (t := c.argTypes) (ty := o.type) (k := k) (k' := k') (x := n) (y := m)
          simpa [resolve, hcal, invoke, builtin, har', hx', hy'] using this
        · cases hs
      · cases hc
    · cases hc
end
end Go.Mach
