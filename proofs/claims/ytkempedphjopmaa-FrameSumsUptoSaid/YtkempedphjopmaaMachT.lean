import Derived.Test.YtkempedphjopmaaMachS
set_option linter.unusedVariables false
set_option linter.unusedSimpArgs false
set_option linter.unnecessarySimpa false
namespace Go.Mach
open Go.RowKit

/-! ### The interpreter -/
inductive AExit where
  | normal
  | exit (id : Nat)
  | ret
  deriving DecidableEq, Inhabited
abbrev St3 := AExit × Regs × Heap
abbrev CallF := Nat → List AV → Nat → Heap → Option (AV × Heap)

def guardA (ρ : Regs) : Option (Nat × Bool) → Option Bool
  | none => some true
  | some (d, want) => match ρ.getD d .undef with
    | .bool b => some (b == want)
    | .tup _ => some false
    | _ => none
def setDst (ρ : Regs) (dst : Option Nat) (v : AV) : Regs := match dst with
  | some d => ρ.set d v
  | none => ρ
/-- The object that a value leads to. -/
def objOf (σ : Heap) : AV → Option AObj
  | .ptr id _ => σ[id]?
  | .sl id _ _ _ _ => σ[id]?
  | _ => none
def chkA (ρ : Regs) (σ σ' : Heap) (l : List AX) : Prop := ∀ x ∈ l, objOf σ (ev ρ x) = objOf σ' (ev ρ x)
def stepAll (call : CallF) (bs : Nat) (ρ : Regs) (σ : Heap) : AOp → Option (AV × Heap)
  | .call f args => call f (args.map (ev ρ)) bs σ
  | .callv x args => match ev ρ x with
    | .func f caps => call f (args.map (ev ρ) ++ caps) bs σ
    | _ => none
  | op => stepOp bs ρ σ op
mutual
def AV.same : AV → AV → Bool
  | .undef, .undef => true
  | .int k n, .int k' n' => decide (k = k') && decide (n = n')
  | .bool a, .bool b => decide (a = b)
  | .str s, .str s' => decide (s = s')
  | .nilptr, .nilptr => true
  | .nilfunc, .nilfunc => true
  | .ptr a b, .ptr a' b' => decide (a = a') && decide (b = b')
  | .iptr cs o, .iptr cs' o' => sameL cs cs' && decide (o = o')
  | .isl cs o, .isl cs' o' => sameL cs cs' && decide (o = o')
  | .own i cs, .own i' cs' => decide (i = i') && sameL cs cs'
  | .sl a b c d e, .sl a' b' c' d' e' => decide (a = a') && decide (b = b') && decide (c = c') && decide (d = d') && decide (e = e')
  | .func f cs, .func f' cs' => decide (f = f') && sameL cs cs'
  | .agg cs, .agg cs' => sameL cs cs'
  | .tup cs, .tup cs' => sameL cs cs'
  | _, _ => false
def sameL : List AV → List AV → Bool
  | [], [] => true
  | x :: xs, y :: ys => x.same y && sameL xs ys
  | _, _ => false
end
def AObj.same : AObj → AObj → Bool
  | .cells cs f e, .cells cs' f' e' => sameL cs cs' && decide (f = f') && decide (e = e')
  | .tok n s, .tok n' s' => decide (n = n') && decide (s = s')
  | .iter s p, .iter s' p' => decide (s = s') && decide (p = p')
  | _, _ => false
def sameO : Option AObj → Option AObj → Bool
  | none, none => true
  | some a, some b => a.same b
  | _, _ => false
mutual
theorem AV.same_eq : ∀ a b : AV, a.same b = true → a = b
  | .undef, b => by cases b <;> simp [AV.same]
  | .int k n, b => by cases b <;> simp [AV.same] <;> intros <;> simp [*]
  | .bool a, b => by cases b <;> simp [AV.same]
  | .str s, b => by cases b <;> simp [AV.same]
  | .nilptr, b => by cases b <;> simp [AV.same]
  | .nilfunc, b => by cases b <;> simp [AV.same]
  | .ptr a c, b => by cases b <;> simp [AV.same] <;> intros <;> simp [*]
  | .iptr cs o, b => by
    cases b <;> simp [AV.same]
    intro h1 h2; exact ⟨sameL_eq _ _ h1, h2⟩
  | .isl cs o, b => by
    cases b <;> simp [AV.same]
    intro h1 h2; exact ⟨sameL_eq _ _ h1, h2⟩
  | .own i cs, b => by
    cases b <;> simp [AV.same]
    intro h1 h2; exact ⟨h1, sameL_eq _ _ h2⟩
  | .sl a c d e f, b => by cases b <;> simp [AV.same] <;> intros <;> simp [*]
  | .func f cs, b => by
    cases b <;> simp [AV.same]
    intro h1 h2; exact ⟨h1, sameL_eq _ _ h2⟩
  | .agg cs, b => by
    cases b <;> simp [AV.same]
    intro h1; exact sameL_eq _ _ h1
  | .tup cs, b => by
    cases b <;> simp [AV.same]
    intro h1; exact sameL_eq _ _ h1
theorem sameL_eq : ∀ a b : List AV, sameL a b = true → a = b
  | [], b => by cases b <;> simp [sameL]
  | x :: xs, b => by
    cases b <;> simp [sameL]
    intro h1 h2; exact ⟨AV.same_eq _ _ h1, sameL_eq _ _ h2⟩
end
mutual
theorem AV.same_refl : ∀ a : AV, a.same a = true
  | .undef | .int _ _ | .bool _ | .str _ | .nilptr | .nilfunc | .ptr _ _ | .sl _ _ _ _ _ => by simp [AV.same]
  | .iptr cs _ | .isl cs _ | .own _ cs | .func _ cs | .agg cs | .tup cs => by simp [AV.same, sameL_refl cs]
theorem sameL_refl : ∀ a : List AV, sameL a a = true
  | [] => by simp [sameL]
  | x :: xs => by simp [sameL, AV.same_refl x, sameL_refl xs]
end
theorem sameO_iff (a b : Option AObj) : sameO a b = true ↔ a = b := by
  constructor
  · intro h
    cases a with
    | none => cases b with
      | none => rfl
      | some y => simp [sameO] at h
    | some x => cases b with
      | none => simp [sameO] at h
      | some y =>
        simp only [sameO] at h
        cases x <;> cases y <;> simp [AObj.same] at h
        · obtain ⟨⟨h1, h2⟩, h3⟩ := h; rw [sameL_eq _ _ h1, h2, h3]
        · simp [h]
        · simp [h]
  · rintro rfl
    cases a with
    | none => rfl
    | some x => cases x <;> simp [sameO, AObj.same, sameL_refl]
def chkO (ρ : Regs) (σ σ' : Heap) (l : List AX) : Option Unit := if l.all (fun x => sameO (objOf σ (ev ρ x)) (objOf σ' (ev ρ x))) = true then some () else none
theorem chkO_some {ρ : Regs} {σ σ' : Heap} {l : List AX} {u : Unit} (h : chkO ρ σ σ' l = some u) : chkA ρ σ σ' l := by
  unfold chkO at h
  split at h
  · rename_i hl
    intro x hx
    exact (sameO_iff _ _).1 (List.all_eq_true.1 hl x hx)
  · cases h
theorem chkO_nil (ρ : Regs) (σ σ' : Heap) : chkO ρ σ σ' [] = some () := rfl
theorem chkO_cons (ρ : Regs) (σ σ' : Heap) (x : AX) (l : List AX) (h : objOf σ (ev ρ x) = objOf σ' (ev ρ x)) : chkO ρ σ σ' (x :: l) = chkO ρ σ σ' l := by
  simp [chkO, (sameO_iff _ _).2 h]
def runOps (call : CallF) (bs : Nat) : List AOper → Regs → Heap → Option (Regs × Heap)
  | [], ρ, σ => some (ρ, σ)
  | o :: os, ρ, σ => (guardA ρ o.guard).bind fun b => match b with
    | true => (stepAll call bs ρ σ o.op).bind fun r => (chkO ρ σ r.2 o.chk).bind fun _ => runOps call bs os (setDst ρ o.dst r.1) r.2
    | false => runOps call bs os (setDst ρ o.dst (.tup [])) σ
def loopN (body : Regs → Heap → Option St3) : Nat → Regs → Heap → Option St3
  | 0, _, _ => none
  | n + 1, ρ, σ => (body ρ σ).bind fun r => match r with
    | (.normal, ρ', σ') => loopN body n ρ' σ'
    | r => some r
def onNormal (r : St3) (k : Regs → Heap → Option St3) : Option St3 := match r with
  | (.normal, ρ, σ) => k ρ σ
  | r => some r
def outBlock (id : Nat) : St3 → St3
  | (.exit id', ρ, σ) => if id' = id then (.normal, ρ, σ) else (.exit id', ρ, σ)
  | r => r
def exec (call : CallF) (k bs : Nat) : ACode → Regs → Heap → Option St3
  | .skip, ρ, σ => some (.normal, ρ, σ)
  | .region ops, ρ, σ => (runOps call bs ops ρ σ).map fun (ρ, σ) => (.normal, ρ, σ)
  | .seq a b, ρ, σ => (exec call k bs a ρ σ).bind fun r => onNormal r (exec call k bs b)
  | .cond c x y, ρ, σ => match ev ρ c with
    | .bool true => exec call k bs x ρ σ
    | .bool false => exec call k bs y ρ σ
    | _ => none
  | .block id c, ρ, σ => (exec call k bs c ρ σ).map (outBlock id)
  | .loop c, ρ, σ => loopN (exec call k bs c) k ρ σ
  | .exit id, ρ, σ => some (.exit id, ρ, σ)
  | .ret, ρ, σ => some (.ret, ρ, σ)
def resA (ρ : Regs) (σ : Heap) : List ARes → Option (List AV)
  | [] => some []
  | .tmp t :: rs => (resA ρ σ rs).map fun vs => ρ.getD t .undef :: vs
  | .cell a sz ag :: rs => (loadA σ sz ag (ρ.getD a .undef)).bind fun v => (resA ρ σ rs).map fun vs => v :: vs
def res1 : List AV → AV
  | [v] => v
  | vs => .tup vs
def refLt0 (n : Nat) : AV → Bool
  | .ptr id _ | .own id _ | .sl id _ _ _ _ => decide (id < n)
  | .undef | .int _ _ | .bool _ | .str _ | .nilptr | .nilfunc | .iptr _ _ | .isl _ _ => true
  | _ => false
def refLt1 (n : Nat) : AV → Bool
  | .func _ caps => caps.all (refLt0 n)
  | v => refLt0 n v
def refLt2 (n : Nat) : AV → Bool
  | .agg cs => cs.all (refLt1 n)
  | v => refLt1 n v
def refLt (n : Nat) : AV → Bool
  | .tup vs => vs.all (refLt2 n)
  | v => refLt2 n v
def closeArgs (c : Bool) (σ : Heap) (args : List AV) : Option (List AV × Heap) := if c then closeT σ args else some (args, σ)
def closeRes (c : Bool) (σ : Heap) (v : AV) : Option (AV × Heap) := if c then closeR σ v else some (v, σ)
def dropA (m : Mode) (n : Nat) (r : AV × Heap) : Option (AV × Heap) := match m with
  | .raw => some r
  | _ => if refLt n r.1 = true then some (r.1, r.2.take n) else none
def finA (af : AFunc) (n : Nat) (r : St3) : Option (AV × Heap) := match r with
  | (.exit _, _, _) => none
  | (_, ρ, σ) => (resA ρ σ af.res).bind fun vs => (closeRes af.clRes σ (res1 vs)).bind (dropA af.mode n)
/-- Data that hang on no object. -/
def AV.dat : AV → Bool
  | .agg cs => cs.all AV.clo1
  | .func _ cs => cs.all AV.clo1
  | v => v.clo1
def AV.datR : AV → Bool
  | .tup vs => vs.all AV.dat
  | v => v.dat
def finP (af : AFunc) (r : St3) : Option AV := match r with
  | (.exit _, _, _) => none
  | (_, ρ, σ) => (resA ρ σ af.res).bind fun vs => (closeR σ (res1 vs)).bind fun x => if x.1.datR = true then some x.1 else none
def startA (af : AFunc) (args : List AV) : Regs := args ++ List.replicate (af.ntmps - args.length) .undef
def baseA (af : AFunc) (bs n : Nat) : Nat := match af.mode with | .raw => bs | _ => n
structure Tab where
  fn : Nat → Option AFunc
  pr : Nat → Option (List AV → Nat → Heap → Option (AV × Heap))
def evalFn (T : Tab) : Nat → CallF
  | 0, _, _, _, _ => none
  | k + 1, f, args, bs, σ => match T.pr f with
    | some p => p args bs σ
    | none => (T.fn f).bind fun af => match af.mode with
      | .pure => (closeT σ args).bind fun r => if r.1.all AV.dat = true then ((exec (evalFn T k) k 0 af.body (startA af r.1) []).bind (finP af)).map (·, r.2) else none
      | _ => (closeArgs af.clArgs σ args).bind fun r => (exec (evalFn T k) k (baseA af bs r.2.length) af.body (startA af r.1) r.2).bind (finA af r.2.length)

/-! ### More rounds tell the same -/
def LeO {α : Type} (a b : Option α) : Prop := ∀ r, a = some r → b = some r
theorem LeO.refl {α : Type} (a : Option α) : LeO a a := fun _ h => h
theorem LeO.bind {α β : Type} {a a' : Option α} {f f' : α → Option β} (h : LeO a a') (k : ∀ x, LeO (f x) (f' x)) : LeO (a.bind f) (a'.bind f') := by
  intro r hr
  obtain ⟨x, hx, hf⟩ := Option.bind_eq_some_iff.1 hr
  exact Option.bind_eq_some_iff.2 ⟨x, h x hx, k x r hf⟩
theorem LeO.map {α β : Type} {a a' : Option α} (f : α → β) (h : LeO a a') : LeO (a.map f) (a'.map f) := by
  intro r hr
  obtain ⟨x, hx, hf⟩ := Option.map_eq_some_iff.1 hr
  exact Option.map_eq_some_iff.2 ⟨x, h x hx, hf⟩
def CallLe (c c' : CallF) : Prop := ∀ f args bs σ, LeO (c f args bs σ) (c' f args bs σ)
theorem stepAll_mono {c c' : CallF} (h : CallLe c c') (bs : Nat) (ρ : Regs) (σ : Heap) (op : AOp) : LeO (stepAll c bs ρ σ op) (stepAll c' bs ρ σ op) := by
  cases op <;> try exact LeO.refl _
  · exact h _ _ _ _
  · simp only [stepAll]; split
    · exact h _ _ _ _
    · exact LeO.refl _
theorem runOps_mono {c c' : CallF} (h : CallLe c c') (bs : Nat) : ∀ (os : List AOper) (ρ : Regs) (σ : Heap), LeO (runOps c bs os ρ σ) (runOps c' bs os ρ σ)
  | [], _, _ => LeO.refl _
  | o :: os, ρ, σ => by
    simp only [runOps]
    refine (LeO.refl _).bind fun b => ?_
    cases b with
    | true => exact LeO.bind (stepAll_mono h bs ρ σ o.op) fun r => (LeO.refl _).bind fun _ => runOps_mono h bs os _ _
    | false => exact runOps_mono h bs os _ _
theorem loopN_mono {b b' : Regs → Heap → Option St3} (h : ∀ ρ σ, LeO (b ρ σ) (b' ρ σ)) : ∀ (n m : Nat) (ρ : Regs) (σ : Heap), n ≤ m → LeO (loopN b n ρ σ) (loopN b' m ρ σ)
  | 0, _, _, _, _ => fun r hr => by simp [loopN] at hr
  | n + 1, 0, _, _, hm => absurd hm (by omega)
  | n + 1, m + 1, ρ, σ, hm => by
    simp only [loopN]
    refine (h ρ σ).bind fun r => ?_
    obtain ⟨e, ρ', σ'⟩ := r
    cases e with
    | normal => exact loopN_mono h n m ρ' σ' (by omega)
    | exit _ => exact LeO.refl _
    | ret => exact LeO.refl _
theorem exec_mono {c c' : CallF} (h : CallLe c c') {k k' : Nat} (hk : k ≤ k') (bs : Nat) : ∀ (code : ACode) (ρ : Regs) (σ : Heap), LeO (exec c k bs code ρ σ) (exec c' k' bs code ρ σ)
  | .skip, _, _ => LeO.refl _
  | .region ops, ρ, σ => (runOps_mono h bs ops ρ σ).map _
  | .seq a b, ρ, σ => by
    simp only [exec]
    refine (exec_mono h hk bs a ρ σ).bind fun r => ?_
    obtain ⟨e, ρ', σ'⟩ := r
    cases e with
    | normal => exact exec_mono h hk bs b ρ' σ'
    | exit _ => exact LeO.refl _
    | ret => exact LeO.refl _
  | .cond cc x y, ρ, σ => by
    simp only [exec]; split
    · exact exec_mono h hk bs x ρ σ
    · exact exec_mono h hk bs y ρ σ
    · exact LeO.refl _
  | .block id cc, ρ, σ => (exec_mono h hk bs cc ρ σ).map _
  | .loop cc, ρ, σ => loopN_mono (fun ρ σ => exec_mono h hk bs cc ρ σ) k k' ρ σ hk
  | .exit _, _, _ => LeO.refl _
  | .ret, _, _ => LeO.refl _
theorem evalFn_succ (T : Tab) : ∀ k, CallLe (evalFn T k) (evalFn T (k + 1))
  | 0 => fun f args bs σ r hr => by simp [evalFn] at hr
  | k + 1 => fun f args bs σ => by
    have ih := evalFn_succ T k
    show LeO (evalFn T (k + 1) f args bs σ) (evalFn T (k + 1 + 1) f args bs σ)
    unfold evalFn
    split
    · exact LeO.refl _
    · refine (LeO.refl _).bind fun af => ?_
      split
      · refine (LeO.refl _).bind fun r => ?_
        split
        · exact LeO.map _ (LeO.bind (exec_mono ih (Nat.le_succ k) _ _ _ _) fun x => LeO.refl _)
        · exact LeO.refl _
      · exact (LeO.refl _).bind fun r => LeO.bind (exec_mono ih (Nat.le_succ k) _ _ _ _) fun x => LeO.refl _
theorem evalFn_mono (T : Tab) {k k' : Nat} (h : k ≤ k') : CallLe (evalFn T k) (evalFn T k') := by
  induction h with
  | refl => exact fun _ _ _ _ => LeO.refl _
  | step h ih => exact fun f args bs σ r hr => evalFn_succ T _ f args bs σ r (ih f args bs σ r hr)

/-! ### Without rounds -/
open Classical in
noncomputable def lim {α : Type} (f : Nat → Option α) : Option α := if h : ∃ k r, f k = some r then f h.choose else none
structure Mono {α : Type} (f : Nat → Option α) : Prop where
  le : ∀ k k', k ≤ k' → LeO (f k) (f k')
theorem lim_eq {α : Type} {f : Nat → Option α} (h : Mono f) {k : Nat} {r : α} (hr : f k = some r) : lim f = some r := by
  unfold lim
  have hex : ∃ k r, f k = some r := ⟨k, r, hr⟩
  rw [dif_pos hex]
  obtain ⟨r', hr'⟩ := hex.choose_spec
  rcases Nat.le_total k hex.choose with hle | hle
  · exact h.le _ _ hle r hr
  · have := h.le _ _ hle r' hr'
    rw [hr] at this; injection this with this; subst this; exact hr'
theorem lim_some {α : Type} {f : Nat → Option α} {r : α} (h : lim f = some r) : ∃ k, f k = some r := by
  unfold lim at h
  split at h
  · exact ⟨_, h⟩
  · cases h
theorem lim_iff {α : Type} {f : Nat → Option α} (h : Mono f) (r : α) : lim f = some r ↔ ∃ k, f k = some r := ⟨lim_some, fun ⟨_, hk⟩ => lim_eq h hk⟩
theorem opt_ext {α : Type} {a b : Option α} (h : ∀ r, a = some r ↔ b = some r) : a = b := by
  cases a with
  | none => cases b with
    | none => rfl
    | some y => exact absurd ((h y).2 rfl) (by simp)
  | some x => exact ((h x).1 rfl).symm
theorem lim_const {α : Type} (a : Option α) : lim (fun _ => a) = a := opt_ext fun r => by
  rw [lim_iff ⟨fun _ _ _ => LeO.refl _⟩]; exact ⟨fun ⟨_, h⟩ => h, fun h => ⟨0, h⟩⟩
theorem lim_bind {α β : Type} {f : Nat → Option α} {g : Nat → α → Option β} (hf : Mono f) (hg : ∀ x, Mono fun k => g k x) : lim (fun k => (f k).bind (g k)) = (lim f).bind fun x => lim fun k => g k x := by
  have hm : Mono fun k => (f k).bind (g k) := ⟨fun k k' h => (hf.le k k' h).bind fun x => (hg x).le k k' h⟩
  refine opt_ext fun r => ?_
  rw [lim_iff hm, Option.bind_eq_some_iff]
  constructor
  · rintro ⟨k, hk⟩
    obtain ⟨x, hx, hg'⟩ := Option.bind_eq_some_iff.1 hk
    exact ⟨x, lim_eq hf hx, lim_eq (hg x) hg'⟩
  · rintro ⟨x, hx, hg'⟩
    obtain ⟨k, hk⟩ := lim_some hx
    obtain ⟨k', hk'⟩ := lim_some hg'
    refine ⟨max k k', Option.bind_eq_some_iff.2 ⟨x, hf.le _ _ (Nat.le_max_left ..) x hk, (hg x).le _ _ (Nat.le_max_right ..) r hk'⟩⟩
theorem lim_map {α β : Type} {f : Nat → Option α} (g : α → β) (hf : Mono f) : lim (fun k => (f k).map g) = (lim f).map g := by
  have hm : Mono fun k => (f k).map g := ⟨fun k k' h => (hf.le k k' h).map g⟩
  refine opt_ext fun r => ?_
  rw [lim_iff hm, Option.map_eq_some_iff]
  constructor
  · rintro ⟨k, hk⟩
    obtain ⟨x, hx, rfl⟩ := Option.map_eq_some_iff.1 hk
    exact ⟨x, lim_eq hf hx, rfl⟩
  · rintro ⟨x, hx, rfl⟩
    obtain ⟨k, hk⟩ := lim_some hx
    exact ⟨k, Option.map_eq_some_iff.2 ⟨x, hk, rfl⟩⟩

/-- A call, and code, without a number of rounds. -/
noncomputable def callT (T : Tab) : CallF := fun f args bs σ => lim fun k => evalFn T k f args bs σ
noncomputable def execT (T : Tab) (bs : Nat) (c : ACode) (ρ : Regs) (σ : Heap) : Option St3 := lim fun k => exec (evalFn T k) k bs c ρ σ
noncomputable def opsT (T : Tab) (bs : Nat) (os : List AOper) (ρ : Regs) (σ : Heap) : Option (Regs × Heap) := lim fun k => runOps (evalFn T k) bs os ρ σ
theorem evalFn_M (T : Tab) (f : Nat) (args : List AV) (bs : Nat) (σ : Heap) : Mono fun k => evalFn T k f args bs σ := ⟨fun _ _ h => evalFn_mono T h f args bs σ⟩
theorem exec_M (T : Tab) (bs : Nat) (c : ACode) (ρ : Regs) (σ : Heap) : Mono fun k => exec (evalFn T k) k bs c ρ σ := ⟨fun _ _ h => exec_mono (evalFn_mono T h) h bs c ρ σ⟩
theorem runOps_M (T : Tab) (bs : Nat) (os : List AOper) (ρ : Regs) (σ : Heap) : Mono fun k => runOps (evalFn T k) bs os ρ σ := ⟨fun _ _ h => runOps_mono (evalFn_mono T h) bs os ρ σ⟩
theorem stepAll_M (T : Tab) (bs : Nat) (ρ : Regs) (σ : Heap) (op : AOp) : Mono fun k => stepAll (evalFn T k) bs ρ σ op := ⟨fun _ _ h => stepAll_mono (evalFn_mono T h) bs ρ σ op⟩

section
variable (T : Tab) (bs : Nat) (ρ : Regs) (σ : Heap)
theorem callT_succ (f : Nat) (args : List AV) : callT T f args bs σ = lim fun k => evalFn T (k + 1) f args bs σ := opt_ext fun r => by
  unfold callT
  rw [lim_iff (evalFn_M ..), lim_iff ⟨fun k k' h => evalFn_mono T (Nat.add_le_add_right h 1) f args bs σ⟩]
  exact ⟨fun ⟨k, hk⟩ => ⟨k, evalFn_succ T k f args bs σ r hk⟩, fun ⟨k, hk⟩ => ⟨k + 1, hk⟩⟩
theorem callT_fn {f : Nat} {af : AFunc} (hp : T.pr f = none) (hf : T.fn f = some af) (hm : af.mode ≠ .pure) (args : List AV) :
    callT T f args bs σ = (closeArgs af.clArgs σ args).bind fun r => (execT T (baseA af bs r.2.length) af.body (startA af r.1) r.2).bind (finA af r.2.length) := by
  rw [callT_succ]
  have h1 : ∀ k, evalFn T (k + 1) f args bs σ = (closeArgs af.clArgs σ args).bind fun r => (exec (evalFn T k) k (baseA af bs r.2.length) af.body (startA af r.1) r.2).bind (finA af r.2.length) := fun k => by
    simp only [evalFn, hp, hf, Option.bind_some]
  simp only [h1]
  cases hc : closeArgs af.clArgs σ args with
  | none => simp only [Option.bind_none]; exact lim_const none
  | some r =>
    simp only [Option.bind_some]
    rw [lim_bind (exec_M ..) (fun x => ⟨fun _ _ _ => LeO.refl _⟩)]
    simp only [lim_const, execT]
/-- What a pure function tells of its arguments. -/
noncomputable def pureT (T : Tab) (af : AFunc) (args : List AV) : Option AV := (execT T 0 af.body (startA af args) []).bind (finP af)
theorem callT_pure {f : Nat} {af : AFunc} (hp : T.pr f = none) (hf : T.fn f = some af) (hm : af.mode = .pure) (args : List AV) :
    callT T f args bs σ = (closeT σ args).bind fun r => if r.1.all AV.dat = true then (pureT T af r.1).map (·, r.2) else none := by
  rw [callT_succ]
  simp only [evalFn, hp, hf, Option.bind_some, hm]
  cases hc : closeT σ args with
  | none => simp only [Option.bind_none]; exact lim_const none
  | some r =>
    simp only [Option.bind_some]
    split
    · rw [lim_map _ ⟨fun k k' h => LeO.bind ((exec_M T 0 af.body (startA af r.1) []).le k k' h) fun _ => LeO.refl _⟩, lim_bind (exec_M ..) (fun x => ⟨fun _ _ _ => LeO.refl _⟩)]
      simp only [lim_const, execT, pureT]
    · exact lim_const none
theorem callT_pr {f : Nat} {p : List AV → Nat → Heap → Option (AV × Heap)} (hp : T.pr f = some p) (args : List AV) : callT T f args bs σ = p args bs σ := by
  rw [callT_succ]; simp only [evalFn, hp]; exact lim_const _
theorem execT_skip : execT T bs .skip ρ σ = some (.normal, ρ, σ) := lim_const _
theorem execT_exit (id : Nat) : execT T bs (.exit id) ρ σ = some (.exit id, ρ, σ) := lim_const _
theorem execT_ret : execT T bs .ret ρ σ = some (.ret, ρ, σ) := lim_const _
theorem execT_region (os : List AOper) : execT T bs (.region os) ρ σ = (opsT T bs os ρ σ).map fun r => (.normal, r.1, r.2) := lim_map _ (runOps_M ..)
theorem execT_seq (a b : ACode) : execT T bs (.seq a b) ρ σ = (execT T bs a ρ σ).bind fun r => onNormal r (execT T bs b) := by
  unfold execT
  simp only [exec]
  rw [lim_bind (exec_M ..) (fun r => ?_)]
  · congr 1; funext r
    obtain ⟨e, ρ', σ'⟩ := r
    cases e with
    | normal => rfl
    | exit _ => exact lim_const _
    | ret => exact lim_const _
  · obtain ⟨e, ρ', σ'⟩ := r
    cases e with
    | normal => exact exec_M T bs b ρ' σ'
    | exit _ => exact ⟨fun _ _ _ => LeO.refl _⟩
    | ret => exact ⟨fun _ _ _ => LeO.refl _⟩
theorem execT_cond (c : AX) (x y : ACode) : execT T bs (.cond c x y) ρ σ = (match ev ρ c with
    | .bool true => execT T bs x ρ σ
    | .bool false => execT T bs y ρ σ
    | _ => none) := by
  unfold execT
  simp only [exec]
  split
  · rfl
  · rfl
  · exact lim_const _
theorem execT_block (id : Nat) (c : ACode) : execT T bs (.block id c) ρ σ = (execT T bs c ρ σ).map (outBlock id) := lim_map _ (exec_M ..)
theorem execT_loop (c : ACode) : execT T bs (.loop c) ρ σ = (execT T bs c ρ σ).bind fun r => onNormal r (execT T bs (.loop c)) := by
  have hm : ∀ ρ σ, Mono fun k => loopN (exec (evalFn T k) k bs c) k ρ σ := fun ρ σ => exec_M T bs (.loop c) ρ σ
  have h1 : execT T bs (.loop c) ρ σ = lim fun k => loopN (exec (evalFn T k) k bs c) (k + 1) ρ σ := opt_ext fun r => by
    unfold execT
    have hm' : Mono fun k => loopN (exec (evalFn T k) k bs c) (k + 1) ρ σ := ⟨fun k k' h => loopN_mono (fun ρ σ => exec_mono (evalFn_mono T h) h bs c ρ σ) _ _ ρ σ (by omega)⟩
    rw [lim_iff (exec_M ..), lim_iff hm']
    simp only [exec]
    exact ⟨fun ⟨k, hk⟩ => ⟨k, loopN_mono (fun ρ σ => LeO.refl _) _ _ ρ σ (Nat.le_succ k) r hk⟩, fun ⟨k, hk⟩ => ⟨k + 1, loopN_mono (fun ρ σ => exec_mono (evalFn_mono T (Nat.le_succ k)) (Nat.le_succ k) bs c ρ σ) _ _ ρ σ (Nat.le_refl _) r hk⟩⟩
  rw [h1]
  simp only [loopN]
  rw [lim_bind (exec_M ..) (fun r => ?_)]
  · unfold execT; congr 1; funext r
    obtain ⟨e, ρ', σ'⟩ := r
    cases e with
    | normal => rfl
    | exit _ => exact lim_const _
    | ret => exact lim_const _
  · obtain ⟨e, ρ', σ'⟩ := r
    cases e with
    | normal => exact hm ρ' σ'
    | exit _ => exact ⟨fun _ _ _ => LeO.refl _⟩
    | ret => exact ⟨fun _ _ _ => LeO.refl _⟩
theorem opsT_nil : opsT T bs [] ρ σ = some (ρ, σ) := lim_const _
theorem stepAllT (op : AOp) : (lim fun k => stepAll (evalFn T k) bs ρ σ op) = stepAll (callT T) bs ρ σ op := by
  cases op <;> try exact lim_const _
  · rfl
  · simp only [stepAll]; split
    · rfl
    · exact lim_const _
theorem opsT_cons (o : AOper) (os : List AOper) : opsT T bs (o :: os) ρ σ = (guardA ρ o.guard).bind fun b => match b with
    | true => (stepAll (callT T) bs ρ σ o.op).bind fun r => (chkO ρ σ r.2 o.chk).bind fun _ => opsT T bs os (setDst ρ o.dst r.1) r.2
    | false => opsT T bs os (setDst ρ o.dst (.tup [])) σ := by
  unfold opsT
  simp only [runOps]
  cases hg : guardA ρ o.guard with
  | none => simp only [Option.bind_none]; exact lim_const none
  | some b =>
    simp only [Option.bind_some]
    cases b with
    | false => rfl
    | true =>
      rw [← stepAllT]
      simp only
      refine (lim_bind (f := fun k => stepAll (evalFn T k) bs ρ σ o.op) (g := fun k r => (chkO ρ σ r.2 o.chk).bind fun _ => runOps (evalFn T k) bs os (setDst ρ o.dst r.1) r.2) (stepAll_M ..)
        (fun r => ⟨fun k k' h => LeO.bind (LeO.refl _) fun _ => (runOps_M ..).le k k' h⟩)).trans ?_
      congr 1; funext r
      refine (lim_bind (f := fun _ => chkO ρ σ r.2 o.chk) (g := fun k _ => runOps (evalFn T k) bs os (setDst ρ o.dst r.1) r.2) ⟨fun _ _ _ => LeO.refl _⟩ (fun _ => runOps_M ..)).trans ?_
      rw [lim_const]
end
end Go.Mach
