import Derived.Test.YtkempedphjopmaaMachAC
set_option linter.unusedVariables false
set_option linter.unusedSimpArgs false
set_option linter.unnecessarySimpa false
namespace Go.Mach
open Go.RowKit

section
variable {P : Program} {bs : Nat} {g : Gh} {ow : Nat → Option Nat} {σ σ1 : Heap} {w : World}

/-! ### Closed data out of data on objects -/
def ClOut (bs : Nat) (g : Gh) (ow : Nat → Option Nat) (σ : Heap) (w : World) (σ1 : Heap) (g1 : Gh) : Prop :=
  HR g1 ow σ1 w ∧ St bs g ow σ w g1 ow σ1 w ∧ σ1.length = σ.length
theorem ClOut.refl (h : HR g ow σ w) : ClOut bs g ow σ w σ g := ⟨h, .refl .., rfl⟩
theorem ClOut.trans {g1 g2 : Gh} {σ2 : Heap} (h : ClOut bs g ow σ w σ1 g1) (k : ClOut bs g1 ow σ1 w σ2 g2) : ClOut bs g ow σ w σ2 g2 := ⟨k.1, h.2.1.trans k.2.1, k.2.2.trans h.2.2⟩
theorem close1_sound (h : HR g ow σ w) {x y : AV} {c : Value} (hx : VR g x c) (hc : close1 σ x = some (y, σ1)) : ∃ g1, ClOut bs g ow σ w σ1 g1 ∧ VR g1 y c ∧ (x.cellv = true → y.cellv = true) := by
  cases hx with
  | isl vs hcl hs ha hcap hn hM hV =>
    simp only [close1] at hc; injection hc with hc; injection hc with e1 e2; subst e1 e2
    exact ⟨g, .refl h, .isl vs hcl hs ha (fun h => by cases h) hn hM hV, fun _ => rfl⟩
  | own vs hcl hs hp hn hM hV =>
    simp only [close1] at hc; injection hc with hc; injection hc with e1 e2; subst e1 e2
    exact ⟨g, .refl h, .isl vs hcl hs (.inr rfl) (fun h => by cases h) hn hM hV, fun _ => rfl⟩
  | @sl id off len sz ag b c cc hp hcc hs hl =>
    simp only [close1] at hc
    split at hc
    · rename_i h0
      injection hc with hc; injection hc with e1 e2; subst e1 e2 h0
      exact ⟨g, .refl h, by exact isl_VR (es := []) (b := 0) (p := 0) (s := 1) (by simp) (by omega) (.inl rfl) (fun hh => by cases hh) (Nat.zero_le _) (by simp [flat]), fun _ => rfl⟩
    · split at hc
      · rename_i cs fz ext hσ
        obtain ⟨win, hw, hc⟩ := Option.bind_eq_some_iff.1 hc
        split at hc
        · rename_i hall
          obtain ⟨es, hch, e⟩ := Option.map_eq_some_iff.1 hc
          injection e with e1 e2; subst e1 e2
          obtain ⟨cv, tag, fr, hb, k1, k2, k3, k4, k5, k6⟩ := h.cel id cs fz ext hσ b c hp
          obtain ⟨hH, hS⟩ := h.freeze (bs := bs) hσ hp hb (lo := off) (hi := off + len * sz)
          obtain ⟨hr, hlen⟩ := (Rd.cel hH (list_set_at (h.dom id _ hp).1) hp).win hw
          rw [Nat.zero_add] at hr
          have hcl1 : ∀ x ∈ win, x.clo1 = true := fun x hx => List.all_eq_true.1 hall x hx
          obtain ⟨i1, i2, i3⟩ := chunk_flat (fun x hx => clo1_cellv (hcl1 x hx)) hch hlen
          refine ⟨_, ⟨by simpa only [frz, hσ] using hH, by simpa only [frz, hσ] using hS, by simp [frz, hσ]⟩, ?_, fun _ => rfl⟩
          have hgo : VR (g.fz b off (off + len * sz) cv) (.isl es false) (.slice (some ⟨b, off, none⟩) es.length cc) := ?_
          · rw [i2] at hgo; exact hgo
          refine isl_VR (b := b) (p := off) (s := sz) (fun e he => ?_) hs (.inr rfl) (fun hh => by cases hh) (by omega) fun i x hx => ?_
          · obtain ⟨j1, j2⟩ := i3 e he
            refine ⟨?_, j1⟩
            have hsub : ∀ x ∈ e.cells, x.clo1 = true := fun x hx => hcl1 x (by rw [← i1]; exact List.mem_flatMap.2 ⟨e, he, hx⟩)
            cases ag with
            | true =>
              simp only [if_true] at j2
              obtain ⟨cs', rfl⟩ := j2
              exact List.all_eq_true.2 hsub
            | false =>
              simp only [Bool.false_eq_true, if_false] at j2
              have h1 := hsub e (by rw [AV.cells_of_cellv j2]; simp)
              cases e <;> simp [AV.clo, AV.clo1, AV.cellv] at h1 j2 ⊢
          · rw [i1] at hx
            obtain ⟨_, v, hv, hV⟩ := hr i x hx
            refine ⟨v, ?_, hV⟩
            have hi : i < win.length := (List.getElem?_eq_some_iff.1 hx).1
            rw [cell_heap hb] at hv
            show (if b = b ∧ off ≤ off + i ∧ off + i < off + len * sz then cv[off + i]? else g.M b (off + i)) = some v
            rw [if_pos ⟨rfl, by omega, by omega⟩]; exact hv
        · cases hc
      · cases hc
  | undef => simp only [close1] at hc; injection hc with hc; injection hc with e1 e2; subst e1 e2; exact ⟨g, .refl h, .undef _, id⟩
  | int k n => simp only [close1] at hc; injection hc with hc; injection hc with e1 e2; subst e1 e2; exact ⟨g, .refl h, .int k n, id⟩
  | bool b => simp only [close1] at hc; injection hc with hc; injection hc with e1 e2; subst e1 e2; exact ⟨g, .refl h, .bool b, id⟩
  | str s => simp only [close1] at hc; injection hc with hc; injection hc with e1 e2; subst e1 e2; exact ⟨g, .refl h, .str s, id⟩
  | nilptr => simp only [close1] at hc; injection hc with hc; injection hc with e1 e2; subst e1 e2; exact ⟨g, .refl h, .nilptr, id⟩
  | nilfunc => simp only [close1] at hc; injection hc with hc; injection hc with e1 e2; subst e1 e2; exact ⟨g, .refl h, .nilfunc, id⟩
  | ptr hp => simp only [close1] at hc; injection hc with hc; injection hc with e1 e2; subst e1 e2; exact ⟨g, .refl h, .ptr hp, id⟩
  | iptr vs a b c => simp only [close1] at hc; injection hc with hc; injection hc with e1 e2; subst e1 e2; exact ⟨g, .refl h, .iptr vs a b c, id⟩
  | func a b => simp only [close1] at hc; injection hc with hc; injection hc with e1 e2; subst e1 e2; exact ⟨g, .refl h, .func a b, id⟩
  | agg a b c => simp only [close1] at hc; injection hc with hc; injection hc with e1 e2; subst e1 e2; exact ⟨g, .refl h, .agg a b c, id⟩
  | tup a b => simp only [close1] at hc; injection hc with hc; injection hc with e1 e2; subst e1 e2; exact ⟨g, .refl h, .tup a b, id⟩

/-- Lists of values, pairwise. -/
structure VRs (g : Gh) (xs : List AV) (cs : List Value) : Prop where
  len : xs.length = cs.length
  val : ∀ (i : Nat) x c, xs[i]? = some x → cs[i]? = some c → VR g x c
theorem VRs.mono {g g' : Gh} (hg : g.le g') {xs cs} (h : VRs g xs cs) : VRs g' xs cs := ⟨h.len, fun i x c hx hc => (h.val i x c hx hc).mono hg⟩
theorem VRs.cons {x c xs cs} (hx : VR g x c) (h : VRs g xs cs) : VRs g (x :: xs) (c :: cs) := by
  refine ⟨by simp [h.len], fun i y d hy hd => ?_⟩
  cases i with
  | zero => simp at hy hd; subst hy hd; exact hx
  | succ i => simp at hy hd; exact h.val i y d hy hd
theorem VRs.uncons {x xs cs} (h : VRs g (x :: xs) cs) : ∃ c cs', cs = c :: cs' ∧ VR g x c ∧ VRs g xs cs' := by
  cases cs with
  | nil => have := h.len; simp at this
  | cons c cs => exact ⟨c, cs, rfl, h.val 0 x c rfl rfl, by have := h.len; simpa using this, fun i y d hy hd => h.val (i + 1) y d (by simpa using hy) (by simpa using hd)⟩
theorem VRs.nil_left {cs} (h : VRs g [] cs) : cs = [] := by cases cs with
  | nil => rfl
  | cons c cs => have := h.len; simp at this

theorem closeL_sound : ∀ (xs : List AV) {g : Gh} {σ σ1 : Heap} {ys : List AV} {cs : List Value}, HR g ow σ w → VRs g xs cs → closeL σ xs = some (ys, σ1) →
    ∃ g1, ClOut bs g ow σ w σ1 g1 ∧ VRs g1 ys cs ∧ ((∀ x ∈ xs, x.cellv = true) → ∀ y ∈ ys, y.cellv = true)
  | [], g, σ, σ1, ys, cs, h, hx, hc => by
    simp only [closeL] at hc; injection hc with hc; injection hc with e1 e2; subst e1 e2
    exact ⟨g, .refl h, hx, fun _ y hy => by simp at hy⟩
  | x :: xs, g, σ, σ1, ys, cs, h, hx, hc => by
    simp only [closeL] at hc
    obtain ⟨⟨y, σa⟩, h1, hc⟩ := Option.bind_eq_some_iff.1 hc
    obtain ⟨⟨ys', σb⟩, h2, e⟩ := Option.map_eq_some_iff.1 hc
    injection e with e1 e2; subst e1 e2
    obtain ⟨c, cs', rfl, hxc, hxs⟩ := hx.uncons
    obtain ⟨ga, ka, va, la⟩ := close1_sound (bs := bs) h hxc h1
    obtain ⟨gb, kb, vb, lb⟩ := closeL_sound xs ka.1 (hxs.mono ka.2.1.gle) h2
    refine ⟨gb, ka.trans kb, .cons (va.mono kb.2.1.gle) vb, fun hcv z hz => ?_⟩
    rcases List.mem_cons.1 hz with rfl | hz
    · exact la (hcv x (by simp))
    · exact lb (fun u hu => hcv u (by simp [hu])) z hz
theorem closeA_sound (h : HR g ow σ w) {x y : AV} {c : Value} (hx : VR g x c) (hc : closeA σ x = some (y, σ1)) : ∃ g1, ClOut bs g ow σ w σ1 g1 ∧ VR g1 y c := by
  unfold closeA at hc
  split at hc
  · rename_i cs
    obtain ⟨⟨xs, σ2⟩, h1, e⟩ := Option.map_eq_some_iff.1 hc
    injection e with e1 e2; subst e1 e2
    cases hx with
    | @agg _ vs hl hcv hV =>
      obtain ⟨g1, k1, v1, l1⟩ := closeL_sound (bs := bs) cs (cs := vs.toList) h ⟨by simpa using hl, fun i x v hx hv => hV i x v hx (by simpa using hv)⟩ h1
      exact ⟨g1, k1, .agg (by have := v1.len; simpa using this) (l1 hcv) fun i x v hx hv => v1.val i x v hx (by simpa using hv)⟩
  · obtain ⟨g1, k1, v1, _⟩ := close1_sound (bs := bs) h hx hc
    exact ⟨g1, k1, v1⟩
theorem closeT_sound : ∀ (xs : List AV) {g : Gh} {σ σ1 : Heap} {ys : List AV} {cs : List Value}, HR g ow σ w → VRs g xs cs → closeT σ xs = some (ys, σ1) →
    ∃ g1, ClOut bs g ow σ w σ1 g1 ∧ VRs g1 ys cs
  | [], g, σ, σ1, ys, cs, h, hx, hc => by
    simp only [closeT] at hc; injection hc with hc; injection hc with e1 e2; subst e1 e2
    exact ⟨g, .refl h, hx⟩
  | x :: xs, g, σ, σ1, ys, cs, h, hx, hc => by
    simp only [closeT] at hc
    obtain ⟨⟨y, σa⟩, h1, hc⟩ := Option.bind_eq_some_iff.1 hc
    obtain ⟨⟨ys', σb⟩, h2, e⟩ := Option.map_eq_some_iff.1 hc
    injection e with e1 e2; subst e1 e2
    obtain ⟨c, cs', rfl, hxc, hxs⟩ := hx.uncons
    obtain ⟨ga, ka, va⟩ := closeA_sound (bs := bs) h hxc h1
    obtain ⟨gb, kb, vb⟩ := closeT_sound xs ka.1 (hxs.mono ka.2.1.gle) h2
    exact ⟨gb, ka.trans kb, .cons (va.mono kb.2.1.gle) vb⟩
theorem closeR_sound (h : HR g ow σ w) {x y : AV} {c : Value} (hx : VR g x c) (hc : closeR σ x = some (y, σ1)) : ∃ g1, ClOut bs g ow σ w σ1 g1 ∧ VR g1 y c := by
  unfold closeR at hc
  split at hc
  · rename_i cs
    obtain ⟨⟨xs, σ2⟩, h1, e⟩ := Option.map_eq_some_iff.1 hc
    injection e with e1 e2; subst e1 e2
    cases hx with
    | @tup _ vs hl hV =>
      obtain ⟨g1, k1, v1⟩ := closeT_sound (bs := bs) cs (cs := vs.toList) h ⟨by simpa using hl, fun i x v hx hv => hV i x v hx (by simpa using hv)⟩ h1
      exact ⟨g1, k1, .tup (by have := v1.len; simpa using this) fun i x v hx hv => v1.val i x v hx (by simpa using hv)⟩
  · exact closeA_sound h hx hc

/-! ### What hangs on old objects alone -/
theorem refLt0_VR {n : Nat} {x : AV} {c : Value} (h : VR g x c) (hr : refLt0 n x = true) : VR (g.res n) x c := by
  cases h with
  | undef => exact .undef _
  | int k n => exact .int k n
  | bool b => exact .bool b
  | str s => exact .str s
  | nilptr => exact .nilptr
  | nilfunc => exact .nilfunc
  | ptr hp => simp only [refLt0, decide_eq_true_eq] at hr; exact .ptr (by simp only [Gh.res]; rw [if_pos hr]; exact hp)
  | iptr vs hc hM hV => exact .iptr vs hc hM fun i x hx => (hV i x hx).closed (g := g) (g' := g.res n) (fun _ _ _ h => h) (hc x (List.mem_of_getElem? hx))
  | isl vs hc hs ha hcap hn hM hV => exact .isl vs hc hs ha hcap hn hM fun i x hx => (hV i x hx).closed (g := g) (g' := g.res n) (fun _ _ _ h => h) (flat_clo1 hc (List.mem_of_getElem? hx))
  | own vs hc hs hp hn hM hV =>
    simp only [refLt0, decide_eq_true_eq] at hr
    exact .own vs hc hs (by simp only [Gh.res]; rw [if_pos hr]; exact hp) hn hM fun i x hx => (hV i x hx).closed (g := g) (g' := g.res n) (fun _ _ _ h => h) (flat_clo1 hc (List.mem_of_getElem? hx))
  | sl hp hc hs hl => simp only [refLt0, decide_eq_true_eq] at hr; exact .sl (by simp only [Gh.res]; rw [if_pos hr]; exact hp) hc hs hl
  | func a b => simp [refLt0] at hr
  | agg a b c => simp [refLt0] at hr
  | tup a b => simp [refLt0] at hr
theorem refLt1_VR {n : Nat} {x : AV} {c : Value} (h : VR g x c) (hr : refLt1 n x = true) : VR (g.res n) x c := by
  unfold refLt1 at hr
  split at hr
  · cases h with
    | func hl hV => exact .func hl fun i x v hx hv => refLt0_VR (hV i x v hx hv) (List.all_eq_true.1 hr x (List.mem_of_getElem? hx))
  · exact refLt0_VR h hr
theorem refLt2_VR {n : Nat} {x : AV} {c : Value} (h : VR g x c) (hr : refLt2 n x = true) : VR (g.res n) x c := by
  unfold refLt2 at hr
  split at hr
  · cases h with
    | agg hl hc hV => exact .agg hl hc fun i x v hx hv => refLt1_VR (hV i x v hx hv) (List.all_eq_true.1 hr x (List.mem_of_getElem? hx))
  · exact refLt1_VR h hr
theorem refLt_VR {n : Nat} {x : AV} {c : Value} (h : VR g x c) (hr : refLt n x = true) : VR (g.res n) x c := by
  unfold refLt at hr
  split at hr
  · cases h with
    | tup hl hV => exact .tup hl fun i x v hx hv => refLt2_VR (hV i x v hx hv) (List.all_eq_true.1 hr x (List.mem_of_getElem? hx))
  · exact refLt2_VR h hr

/-! ### Functions -/
def compRes (P : Program) : ResultVar → Option ARes
  | .tmp t => some (.tmp t)
  | .cell a t => (sizeT P t).bind fun s => (aggT P t).map fun ag => .cell a s ag
structure Pol where
  mt : Bool := false
  mode : Mode := .pure
  clArgs : Bool := true
  clRes : Bool := true
def compF (P : Program) (pol : Pol) (fn : Func) : Option AFunc :=
  if fn.name == "runtime.NumGoroutine" then none else
  fn.body.bind fun c => (compC P pol.mt fn.ntmps c).bind fun ac => (fn.results.toList.mapM (compRes P)).map fun rs => ⟨fn.ntmps, rs, ac, pol.mode, pol.clArgs, pol.clRes⟩

def resRun (tmps : Array Value) : ResultVar → Sem Value
  | .tmp t => pure (tmps.getD t undef)
  | .cell a t => do loadVar t (← asAddr (tmps.getD a undef))
theorem run_results (h : HR g ow σ w) {ρ : Regs} {a : Act} (hR : RR g ρ a.tmps) : ∀ (l : List ResultVar) (rs : List ARes) (vs : List AV), l.mapM (compRes P) = some rs → resA ρ σ rs = some vs →
    ∃ cs : List Value, (l.mapM (resRun a.tmps)).run P w = .ok cs w ∧ VRs g vs cs
  | [], rs, vs, hc, hv => by
    simp at hc; subst hc
    simp only [resA] at hv; injection hv with hv; subst hv
    exact ⟨[], by simp, rfl, fun i x c hx => by simp at hx⟩
  | r :: l, rs, vs, hc, hv => by
    rw [List.mapM_cons] at hc
    simp only [Option.bind_eq_bind, Option.bind_eq_some_iff, Option.pure_def] at hc
    obtain ⟨ar, har, rs', hrs, e⟩ := hc
    injection e with e; subst e
    have hhead : ∃ v vs' c, vs = v :: vs' ∧ resA ρ σ rs' = some vs' ∧ (resRun a.tmps r).run P w = .ok c w ∧ VR g v c := by
      cases r with
      | tmp t =>
        simp only [compRes] at har; injection har with har; subst har
        simp only [resA] at hv
        obtain ⟨vs', hvs, rfl⟩ := Option.map_eq_some_iff.1 hv
        exact ⟨_, vs', _, rfl, hvs, rfl, hR.val t⟩
      | cell x t =>
        simp only [compRes] at har
        obtain ⟨s, hs, har⟩ := Option.bind_eq_some_iff.1 har
        obtain ⟨ag, hag, rfl⟩ := Option.map_eq_some_iff.1 har
        simp only [resA] at hv
        obtain ⟨v, hl, hv⟩ := Option.bind_eq_some_iff.1 hv
        obtain ⟨vs', hvs, rfl⟩ := Option.map_eq_some_iff.1 hv
        obtain ⟨u, hu, hU⟩ := loadA_sound h hs hag (hR.val x) hl
        refine ⟨v, vs', u, rfl, hvs, ?_, hU⟩
        have hval := hR.val x
        simp only [resRun]
        revert hval hu hl
        generalize a.tmps.getD x undef = cv
        generalize ρ.getD x .undef = av
        intro hl hu hval
        cases hval <;> simp only [loadA] at hl <;> try (cases hl; done)
        · simpa [Instr.loadAt, Instr.sureAddr, asAddr] using hu
        · simpa [Instr.loadAt, Instr.sureAddr, asAddr] using hu
    obtain ⟨v, vs', c, rfl, hvs, hc, hV⟩ := hhead
    obtain ⟨cs, hr, hVs⟩ := run_results h hR l rs' vs' hrs hvs
    refine ⟨c :: cs, ?_, .cons hV hVs⟩
    rw [List.mapM_cons]
    simp only [Sem.run_bind, hc, Result.andThen_ok, hr, Sem.run_pure]
theorem results_eq (fn : Func) (tmps : Array Value) : results fn tmps = (fn.results.mapM (resRun tmps) >>= fun vs => pure (if h : vs.size = 1 then vs[0] else .tuple vs)) := rfl
theorem results_sound (h : HR g ow σ w) {ρ : Regs} {a : Act} (hR : RR g ρ a.tmps) {fn : Func} {rs : List ARes} {vs : List AV} (hc : fn.results.toList.mapM (compRes P) = some rs) (hv : resA ρ σ rs = some vs) :
    ∃ c, (results fn a.tmps).run P w = .ok c w ∧ VR g (res1 vs) c := by
  obtain ⟨cs, hr, hV⟩ := run_results h hR _ _ _ hc hv
  rw [results_eq, Array.mapM_eq_mapM_toList]
  refine ⟨if h : cs.toArray.size = 1 then cs.toArray[0] else .tuple cs.toArray, by simp [hr], ?_⟩
  match vs, cs, hV with
  | [], [], _ => exact .tup rfl fun i x v hx => by simp at hx
  | [v], [c], hV => exact hV.val 0 v c rfl rfl
  | x :: y :: l, c :: d :: l', hV => exact .tup (by have := hV.len; simpa [res1] using this) fun i x v hx hv => hV.val i x v hx (by simpa using hv)
  | [], _ :: _, hV => exact absurd hV.len (by simp)
  | _ :: _, [], hV => exact absurd hV.len (by simp)
  | [_], _ :: _ :: _, hV => exact absurd hV.len (by simp)
  | _ :: _ :: _, [_], hV => exact absurd hV.len (by simp)

/-! ### Calls -/
/-- What is asked of a function that is told and not walked. -/
def PrimOK (P : Program) (f : Nat) (p : List AV → Nat → Heap → Option (AV × Heap)) : Prop := ∀ args bs σ v σ', p args bs σ = some (v, σ') → bs ≤ σ.length → Enters P f ∧
  ∀ g ow w cargs, HR g ow σ w → Args g args cargs → Calls P f cargs w (CallPost bs g ow σ w v σ')
structure TabOK (P : Program) (T : Tab) : Prop where
  mixed : P.follows .mixedOrders = true
  fn : ∀ f af, T.fn f = some af → ∃ fn pol, P.funcs[f]? = some fn ∧ compF P pol fn = some af
  pr : ∀ f p, T.pr f = some p → PrimOK P f p
theorem Args.VRs {args : List AV} {cargs : Array Value} (h : Args g args cargs) : VRs g args cargs.toList := ⟨by simpa using h.len, fun i x c hx hc => h.val i x c hx (by simpa using hc)⟩
theorem start_RR {args : List AV} {cargs : Array Value} (h : VRs g args cargs.toList) (n : Nat) : RR g (args ++ List.replicate (n - args.length) .undef) (cargs ++ Array.replicate (n - cargs.size) undef) := by
  have hl : args.length = cargs.size := by simpa using h.len
  refine ⟨by simp [hl], fun t => ?_⟩
  simp only [List.getD_eq_getElem?_getD, Array.getD_eq_getD_getElem?]
  rcases Nat.lt_or_ge t args.length with ht | ht
  · rw [List.getElem?_append_left ht, Array.getElem?_append_left (by omega)]
    have h1 : args[t]? = some args[t] := List.getElem?_eq_getElem ht
    have h2 : cargs[t]? = some (cargs[t]'(by omega)) := Array.getElem?_eq_getElem (by omega)
    rw [h1, h2]
    exact h.val t _ _ h1 (by simp)
  · rw [List.getElem?_append_right ht, Array.getElem?_append_right (by omega), List.getElem?_replicate, Array.getElem?_replicate]
    split <;> (split <;> exact .undef _)

theorem dat_VR {g g' : Gh} (hg : ∀ b i v, g.M b i = some v → g'.M b i = some v) {x : AV} {v : Value} (h : VR g x v) (hd : x.dat = true) : VR g' x v := by
  cases h with
  | agg hl hc hV => exact .agg hl hc fun i y u hy hu => (hV i y u hy hu).closed hg (List.all_eq_true.1 hd y (List.mem_of_getElem? hy))
  | func hl hV => exact .func hl fun i y u hy hu => (hV i y u hy hu).closed hg (List.all_eq_true.1 hd y (List.mem_of_getElem? hy))
  | undef => simp [AV.dat, AV.clo1] at hd
  | int k n => exact .int k n
  | bool b => exact .bool b
  | str s => exact .str s
  | nilptr => exact .nilptr
  | nilfunc => exact .nilfunc
  | ptr hp => simp [AV.dat, AV.clo1] at hd
  | iptr vs a b c => simp [AV.dat, AV.clo1] at hd
  | isl vs a b c d e f k => exact VR.closed hg (.isl vs a b c d e f k) hd
  | own vs a b c d e f => simp [AV.dat, AV.clo1] at hd
  | sl a b c d => simp [AV.dat, AV.clo1] at hd
  | tup a b => simp [AV.dat, AV.clo1] at hd
theorem datR_VR {g g' : Gh} (hg : ∀ b i v, g.M b i = some v → g'.M b i = some v) {x : AV} {v : Value} (h : VR g x v) (hd : x.datR = true) : VR g' x v := by
  unfold AV.datR at hd
  split at hd
  · cases h with
    | tup hl hV => exact .tup hl fun i y u hy hu => dat_VR hg (hV i y u hy hu) (List.all_eq_true.1 hd y (List.mem_of_getElem? hy))
  · exact dat_VR hg h hd
theorem HR.bare (h : HR g ow σ w) : HR (g.res 0) (fun _ => none) [] w :=
  ⟨h.mem, fun id x hx => by simp [Gh.res] at hx, fun id n x hx => by simp [Gh.res] at hx, fun id cs fz ext hσ => by simp at hσ, fun id n s hσ => by simp at hσ, fun id n s hσ => by simp at hσ, fun id s pos hσ => by simp at hσ⟩
/-- What a call that saw no object leaves. -/
theorem HR.back {g' : Gh} {ow' : Nat → Option Nat} {σ' : Heap} {w' : World} (h : HR g ow σ w) (s : St 0 (g.res 0) (fun _ => none) [] w g' ow' σ' w') (h' : HR g' ow' σ' w') :
    HR ⟨g.φ, g.ψ, g'.M⟩ ow σ w' ∧ St bs g ow σ w ⟨g.φ, g.ψ, g'.M⟩ ow σ w' := by
  have hle : g.le ⟨g.φ, g.ψ, g'.M⟩ := ⟨fun _ _ h => h, fun _ _ _ h => h, fun b i v hm => s.gle.M b i v hm⟩
  have hheap : ∀ b, b < w.heap.size → w'.heap[b]? = w.heap[b]? := fun b hb => (s.frame b hb rfl).1
  have hM : ∀ b, b < w.heap.size → ∀ i, g'.M b i = g.M b i := fun b hb i => s.frM b hb rfl i
  refine ⟨⟨h'.mem, fun id x hx => ⟨(h.dom id x hx).1, Nat.lt_of_lt_of_le (h.dom id x hx).2 s.size⟩, h.domψ, ?_, ?_, h.tle, ?_⟩, ?_⟩
  · intro id cs fz ext hσ b c hp
    have hb := (h.dom id _ hp).2
    obtain ⟨cv, tag, fr, k0, k1, k2, k3, k4, k5, k6⟩ := h.cel id cs fz ext hσ b c hp
    refine ⟨cv, tag, fr, (hheap b hb).trans k0, k1, k2, k3, fun i x hx => ?_, k5, fun i h1 h2 => ?_⟩
    · obtain ⟨a, v, b', c'⟩ := k4 i x hx; exact ⟨a, v, b', c'.mono hle⟩
    · have := k6 i h1 h2; exact ⟨(hM b hb i).trans this.1, this.2⟩
  · intro id n s' hσ b p c hp
    obtain ⟨cv, tag, fr, k0, k1, k2, k3, k4⟩ := h.tk id n s' hσ b p c hp
    have hb : b < w.heap.size := (Array.getElem?_eq_some_iff.1 k0).1
    exact ⟨cv, tag, fr, (hheap b hb).trans k0, k1, k2, k3, fun i hi => ⟨(hM b hb i).trans (k4 i hi).1, (k4 i hi).2⟩⟩
  · intro id s' pos hσ b c hp
    obtain ⟨k0, k1⟩ := h.it id s' pos hσ b c hp
    exact ⟨(hheap b (h.dom id _ hp).2).trans k0, k1⟩
  · refine ⟨hle, s.os, s.tape, s.output, s.size, fun b hb ho => ⟨hheap b hb, ho⟩, Nat.le_refl _, fun _ _ hh => hh, fun b hb _ i => hM b hb i, fun id _ hl cs fz ext hσ => ⟨cs, fz, ext, hσ, fun i x hx => .inr ⟨hx, fun b c hp => cell_congr (hheap b (h.dom id _ hp).2) i⟩⟩⟩

theorem eval_sound {T : Tab} (hT : TabOK P T) : ∀ k, CallOK P (evalFn T k)
  | 0 => fun f args bs σ v σ' hx => by simp [evalFn] at hx
  | k + 1 => fun f args bs σ v σ' hx hbs => by
    have ih := eval_sound hT k
    simp only [evalFn] at hx
    split at hx
    · rename_i p hp
      exact hT.pr f p hp args bs σ v σ' hx hbs
    · obtain ⟨af, haf, hx⟩ := Option.bind_eq_some_iff.1 hx
      obtain ⟨fn, pol, hfn, hcf⟩ := hT.fn f af haf
      unfold compF at hcf
      split at hcf
      · cases hcf
      · rename_i hname
        obtain ⟨c, hbody, hcf⟩ := Option.bind_eq_some_iff.1 hcf
        obtain ⟨ac, hac, hcf⟩ := Option.bind_eq_some_iff.1 hcf
        obtain ⟨rs, hrs, rfl⟩ := Option.map_eq_some_iff.1 hcf
        refine ⟨⟨fn, hfn, by rw [hbody]; rfl, by simpa using hname⟩, fun g ow w cargs hH hA => calls_of_wp hfn hbody ?_⟩
        split at hx
        · -- it sees no object
          obtain ⟨⟨args', σa⟩, hcl, hx⟩ := Option.bind_eq_some_iff.1 hx
          simp only at hx
          split at hx
          · rename_i hdat
            obtain ⟨u, hx', e⟩ := Option.map_eq_some_iff.1 hx
            injection e with e1 e2; subst e1 e2
            obtain ⟨⟨e, ρ, σb⟩, hex, hfin⟩ := Option.bind_eq_some_iff.1 hx'
            obtain ⟨ga, ⟨hHa, hSa, hla⟩, hVa⟩ := closeT_sound (bs := bs) args hH hA.VRs hcl
            have hV0 : VRs (ga.res 0) args' cargs.toList := ⟨hVa.len, fun i x c hx hc => dat_VR (g := ga) (g' := ga.res 0) (fun _ _ _ h => h) (hVa.val i x c hx hc) (List.all_eq_true.1 hdat x (List.mem_of_getElem? hx))⟩
            have hwp := (exec_sound (P := P) (mt := pol.mt) (nt := fn.ntmps) hT.mixed ih c ac hac _ _ _ hex (ga.res 0) (fun _ => none)
              { tmps := cargs ++ Array.replicate (fn.ntmps - cargs.size) undef, defers := [] } w hHa.bare (Nat.le_refl 0) (start_RR hV0 _) rfl (by simp only [startA, List.length_append, List.length_replicate]; omega)).2
            refine wp_mono hwp ?_
            rintro ex a' w' ⟨he, g', ow', hR', hd', hH', hS'⟩
            simp only at he hR' hH' hS'
            have hgo : ∀ {e'}, finP ⟨fn.ntmps, rs, ac, pol.mode, pol.clArgs, pol.clRes⟩ (e', ρ, σb) = some u → (∀ id, e' ≠ .exit id) →
                a'.defers = [] ∧ ∃ cv, (results fn a'.tmps).run P w' = .ok cv w' ∧ CallPost bs g ow σ w u σa (.returned cv) w' := by
              intro e' hf hne
              refine ⟨hd', ?_⟩
              have hf' : ((resA ρ σb rs).bind fun vs => (closeR σb (res1 vs)).bind fun x => if x.1.datR = true then some x.1 else none) = some u := by
                cases e' with
                | exit id => exact absurd rfl (hne id)
                | normal => exact hf
                | ret => exact hf
              obtain ⟨vs, hvs, hf'⟩ := Option.bind_eq_some_iff.1 hf'
              obtain ⟨⟨u', σc⟩, hcr, hdr⟩ := Option.bind_eq_some_iff.1 hf'
              simp only at hdr
              split at hdr
              · rename_i hdu
                injection hdr with hdr; subst hdr
                obtain ⟨cv, hrun, hV⟩ := results_sound hH' hR' hrs hvs
                obtain ⟨gc, ⟨hHc, hSc, hlc⟩, hVc⟩ := closeR_sound (bs := 0) hH' hV hcr
                obtain ⟨hB, hSB⟩ := HR.back (bs := bs) hHa (hS'.trans hSc) hHc
                exact ⟨cv, hrun, cv, _, ow, rfl, datR_VR (g := gc) (g' := ⟨ga.φ, ga.ψ, gc.M⟩) (fun _ _ _ h => h) hVc hdu, hB, hSa.trans hSB⟩
              · cases hdr
            cases e with
            | exit id => simp [finP] at hfin
            | normal =>
              simp only [toExit] at he; subst he
              exact hgo hfin (fun id h => by cases h)
            | ret =>
              simp only [toExit] at he; subst he
              exact hgo hfin (fun id h => by cases h)
          · cases hx
        · rename_i hmode
          obtain ⟨⟨args', σa⟩, hcl, hx⟩ := Option.bind_eq_some_iff.1 hx
          obtain ⟨⟨e, ρ, σb⟩, hex, hfin⟩ := Option.bind_eq_some_iff.1 hx
          simp only at hcl hex hfin
          have hca : ∃ ga, ClOut bs g ow σ w σa ga ∧ VRs ga args' cargs.toList := by
            unfold closeArgs at hcl
            split at hcl
            · exact closeT_sound args hH hA.VRs hcl
            · injection hcl with hcl; injection hcl with e1 e2; subst e1 e2; exact ⟨g, .refl hH, hA.VRs⟩
          obtain ⟨ga, ⟨hHa, hSa, hla⟩, hVa⟩ := hca
          have hb : baseA ⟨fn.ntmps, rs, ac, pol.mode, pol.clArgs, pol.clRes⟩ bs σa.length ≤ σa.length := by
            unfold baseA; split
            · omega
            · exact Nat.le_refl _
          have hwp := (exec_sound (P := P) (mt := pol.mt) (nt := fn.ntmps) hT.mixed ih c ac hac _ _ _ hex ga ow
            { tmps := cargs ++ Array.replicate (fn.ntmps - cargs.size) undef, defers := [] } w hHa hb (start_RR hVa _) rfl (by simp only [startA, List.length_append, List.length_replicate]; omega)).2
          refine wp_mono hwp ?_
          rintro ex a' w' ⟨he, g', ow', hR', hd', hH', hS'⟩
          simp only at he hR' hH' hS'
          have hgo : ∀ {e'}, finA ⟨fn.ntmps, rs, ac, pol.mode, pol.clArgs, pol.clRes⟩ σa.length (e', ρ, σb) = some (v, σ') → (∀ id, e' ≠ .exit id) →
              a'.defers = [] ∧ ∃ cv, (results fn a'.tmps).run P w' = .ok cv w' ∧ CallPost bs g ow σ w v σ' (.returned cv) w' := by
            intro e' hf hne
            refine ⟨hd', ?_⟩
            have hf' : ((resA ρ σb rs).bind fun vs => (closeRes pol.clRes σb (res1 vs)).bind (dropA pol.mode σa.length)) = some (v, σ') := by
              cases e' with
              | exit id => exact absurd rfl (hne id)
              | normal => exact hf
              | ret => exact hf
            obtain ⟨vs, hvs, hf'⟩ := Option.bind_eq_some_iff.1 hf'
            obtain ⟨⟨u, σc⟩, hcr, hdr⟩ := Option.bind_eq_some_iff.1 hf'
            obtain ⟨cv, hrun, hV⟩ := results_sound hH' hR' hrs hvs
            refine ⟨cv, hrun, ?_⟩
            have hcc : ∃ gc, ClOut (baseA ⟨fn.ntmps, rs, ac, pol.mode, pol.clArgs, pol.clRes⟩ bs σa.length) g' ow' σb w' σc gc ∧ VR gc u cv := by
              unfold closeRes at hcr
              split at hcr
              · exact closeR_sound hH' hV hcr
              · injection hcr with hcr; injection hcr with e1 e2; subst e1 e2; exact ⟨g', .refl hH', hV⟩
            obtain ⟨gc, ⟨hHc, hSc, hlc⟩, hVc⟩ := hcc
            have hS2 := hS'.trans hSc
            have hdrop : pol.mode ≠ .raw → dropA pol.mode σa.length (u, σc) = (if refLt σa.length u = true then some (u, σc.take σa.length) else none) := fun h => by
              unfold dropA; split
              · rename_i e; exact absurd e h
              · rfl
            by_cases hm : pol.mode = .raw
            · rw [hm] at hdr
              simp only [dropA] at hdr
              injection hdr with hdr; injection hdr with e1 e2; subst e1 e2
              simp only [baseA, hm] at hS2
              exact ⟨cv, gc, ow', rfl, hVc, hHc, hSa.trans hS2⟩
            · rw [hdrop hm] at hdr
              split at hdr
              · rename_i hlt
                injection hdr with hdr; injection hdr with e1 e2; subst e1 e2
                have hbase : baseA ⟨fn.ntmps, rs, ac, pol.mode, pol.clArgs, pol.clRes⟩ bs σa.length = σa.length := by
                  unfold baseA; split
                  · rename_i e; exact absurd e hm
                  · rfl
                rw [hbase] at hS2
                obtain ⟨hHd, hSd⟩ := hHa.gc hS2 hHc
                exact ⟨cv, _, ow', rfl, refLt_VR hVc hlt, hHd, hSa.trans (hSd.base (by omega))⟩
              · cases hdr
          cases e with
          | exit id => simp [finA] at hfin
          | normal =>
            simp only [toExit] at he; subst he
            exact hgo hfin (fun id h => by cases h)
          | ret =>
            simp only [toExit] at he; subst he
            exact hgo hfin (fun id h => by cases h)

/-- What our calls tell, the program does. -/
theorem callT_sound {T : Tab} (hT : TabOK P T) {f : Nat} {args : List AV} {v : AV} {σ' : Heap} (hx : callT T f args bs σ = some (v, σ')) (hbs : bs ≤ σ.length) (hH : HR g ow σ w) {cargs : Array Value} (hA : Args g args cargs) :
    Calls P f cargs w (CallPost bs g ow σ w v σ') := by
  obtain ⟨k, hk⟩ := lim_some hx
  exact (eval_sound hT k f args bs σ v σ' hk hbs).2 g ow w cargs hH hA
end
end Go.Mach
