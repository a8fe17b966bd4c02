import Derived.Test.YtkempedphjopmaaMachZ
set_option linter.unusedVariables false
set_option linter.unusedSimpArgs false
set_option linter.unnecessarySimpa false
namespace Go.Mach
open Go.RowKit
open Classical

/-! ### One order of a region, and what it must keep -/
def maskOf (acc : List Nat) (o : Oper) : Nat :=
  o.after.toList.foldl (fun m e => if Region.binds .any e then (m ||| (1 <<< e.on)) ||| acc.getD e.on 0 else m) 0
def masks : List Oper → List Nat → List Nat
  | [], acc => acc
  | o :: os, acc => masks os (acc ++ [maskOf acc o])
def okEdges : Nat → List Oper → Bool
  | _, [] => true
  | i, o :: os => o.after.toList.all (fun e => !Region.binds .any e || decide (e.on < i)) && okEdges (i + 1) os
def nextOp (as : List AOper) (ms : List Nat) (done : Nat) (e : Bool) : Nat → Nat → Option Nat
  | 0, _ => none
  | f + 1, i => if !done.testBit i && ((ms.getD i 0) &&& done == ms.getD i 0) && (isE (as.getD i default).op == e) then some i else nextOp as ms done e f (i + 1)
def orderGo (as : List AOper) (ms : List Nat) : Nat → Nat → List Nat
  | 0, _ => []
  | f + 1, done => match (nextOp as ms done false as.length 0).or (nextOp as ms done true as.length 0) with
    | some i => i :: orderGo as ms f (done ||| (1 <<< i))
    | none => []
def chkOf (as : List AOper) (m : Nat) (before : List Nat) : List AX := before.filterMap fun j =>
  if m.testBit j then none else match clsL (as.getD j default).op with
    | some x => some x
    | none => if isNew (as.getD j default).op then (as.getD j default).dst.map .t else none
def chkGo (as : List AOper) (ms : List Nat) : List Nat → List Nat → List (Nat × AOper)
  | _, [] => []
  | before, i :: rest => (i, { as.getD i default with chk := if isE (as.getD i default).op then chkOf as (ms.getD i 0) before else [] }) :: chkGo as ms (before ++ [i]) rest
def isT (t : Nat) : AX → Bool
  | .t n => n == t
  | _ => false
def readBy (y : AOper) : Option Nat → Bool
  | none => false
  | some t => (readsT y).contains t
def loneOK (tail : List (Nat × AOper)) (x y : AOper) : Bool :=
  !readBy y x.dst && !readBy x y.dst && (!isE x.op || clsN y.op) && (!isE y.op ||
    ((match clsL x.op with
      | some (.t t) => y.chk.any (isT t) && tail.all (fun z => !(z.2.dst == some t))
      | some _ => false
      | none => true)))
def newOK (nt : Nat) (x y : AOper) : Bool := !isE y.op || !isNew x.op || (match x.dst with | some d => decide (d < nt) && y.chk.any (isT d) | none => false)
def pairOK (nt : Nat) (ms : List Nat) (tail : List (Nat × AOper)) (x y : Nat × AOper) : Bool :=
  !(x.1 == y.1) && (x.2.dst.isNone || !(x.2.dst == y.2.dst)) && ((ms.getD y.1 0).testBit x.1 || (loneOK tail x.2 y.2 && newOK nt x.2 y.2))
def pairsOK (nt : Nat) (ms : List Nat) : List (Nat × AOper) → Bool
  | [] => true
  | x :: rest => rest.all (pairOK nt ms (x :: rest) x) && pairsOK nt ms rest
def planOK (nt n : Nat) (ms : List Nat) (z : List (Nat × AOper)) : Bool :=
  z.length == n && z.all (fun x => decide (x.1 < n)) && (List.range n).all (fun j => z.any (fun x => x.1 == j)) && pairsOK nt ms z
def planZ (nt : Nat) (as : List AOper) (ms : List Nat) : Option (List (Nat × AOper)) :=
  let z := chkGo as ms [] (orderGo as ms as.length 0)
  if planOK nt as.length ms z = true then some z else none
def compD (P : Program) (mt : Bool) (nt : Nat) (ops : Array Oper) : Option (List AOper) :=
  (ops.toList.mapM (compOper P mt ops)).bind fun as => if okEdges 0 ops.toList = true then (planZ nt as (masks ops.toList [])).map fun z => z.map (·.2) else none

/-! ### Soundness of the checks -/
theorem maskOf_bit {acc : List Nat} {o : Oper} {i : Nat} (h : (maskOf acc o).testBit i = true) : ∃ e ∈ o.after, Region.binds .any e = true ∧ (e.on = i ∨ (acc.getD e.on 0).testBit i = true) := by
  have go : ∀ (l : List Edge) (m : Nat), (l.foldl (fun m e => if Region.binds .any e then (m ||| (1 <<< e.on)) ||| acc.getD e.on 0 else m) m).testBit i = true →
      m.testBit i = true ∨ ∃ e ∈ l, Region.binds .any e = true ∧ (e.on = i ∨ (acc.getD e.on 0).testBit i = true) := by
    intro l
    induction l with
    | nil => intro m h; exact .inl h
    | cons e l ih =>
      intro m h
      rw [List.foldl_cons] at h
      rcases ih _ h with h1 | ⟨e', he, h2⟩
      · split at h1
        · rename_i hb
          rw [Nat.testBit_or, Nat.testBit_or, Bool.or_eq_true, Bool.or_eq_true] at h1
          rcases h1 with (h1 | h1) | h1
          · exact .inl h1
          · refine .inr ⟨e, List.mem_cons_self, hb, .inl ?_⟩
            rw [Nat.testBit_shiftLeft] at h1
            simp only [Bool.and_eq_true, decide_eq_true_eq] at h1
            obtain ⟨h3, h4⟩ := h1
            rcases Nat.lt_or_ge 0 (i - e.on) with hlt | hge
            · rw [Nat.testBit_one_eq_true_iff_self_eq_zero] at h4; omega
            · omega
          · exact .inr ⟨e, List.mem_cons_self, hb, .inr h1⟩
        · exact .inl h1
      · exact .inr ⟨e', List.mem_cons_of_mem _ he, h2⟩
  rcases go _ _ h with h1 | ⟨e, he, h2⟩
  · simp at h1
  · exact ⟨e, by simpa using he, h2⟩
theorem maskOf_congr {acc acc' : List Nat} {o : Oper} (h : ∀ e ∈ o.after, Region.binds .any e = true → acc.getD e.on 0 = acc'.getD e.on 0) : maskOf acc o = maskOf acc' o := by
  unfold maskOf
  have go : ∀ (l : List Edge) (m : Nat), (∀ e ∈ l, Region.binds .any e = true → acc.getD e.on 0 = acc'.getD e.on 0) →
      l.foldl (fun m e => if Region.binds .any e then (m ||| (1 <<< e.on)) ||| acc.getD e.on 0 else m) m = l.foldl (fun m e => if Region.binds .any e then (m ||| (1 <<< e.on)) ||| acc'.getD e.on 0 else m) m := by
    intro l
    induction l with
    | nil => intro m _; rfl
    | cons e l ih =>
      intro m h
      rw [List.foldl_cons, List.foldl_cons]
      have : (if Region.binds .any e then (m ||| (1 <<< e.on)) ||| acc.getD e.on 0 else m) = if Region.binds .any e then (m ||| (1 <<< e.on)) ||| acc'.getD e.on 0 else m := by
        split
        · rename_i hb; rw [h e List.mem_cons_self hb]
        · rfl
      rw [this]; exact ih _ fun e' he => h e' (List.mem_cons_of_mem _ he)
  exact go _ _ fun e he => h e (by simpa using he)
theorem okEdges_get : ∀ (os : List Oper) (i : Nat), okEdges i os = true → ∀ (j : Nat) o, os[j]? = some o → ∀ e ∈ o.after, Region.binds .any e = true → e.on < i + j
  | [], _, _, j, o, ho => by simp at ho
  | o :: os, i, h, j, o', ho => by
    simp only [okEdges, Bool.and_eq_true] at h
    intro e he hb
    cases j with
    | zero =>
      simp at ho; subst ho
      have := List.all_eq_true.1 h.1 e (by simpa using he)
      simp only [hb, Bool.not_true, Bool.false_or, decide_eq_true_eq] at this
      omega
    | succ j => have := okEdges_get os (i + 1) h.2 j o' (by simpa using ho) e he hb; omega
theorem masks_old : ∀ (os : List Oper) (acc : List Nat) (i : Nat), i < acc.length → (masks os acc).getD i 0 = acc.getD i 0
  | [], _, _, _ => rfl
  | o :: os, acc, i, hi => by
    simp only [masks]
    rw [masks_old os _ i (by simp; omega)]
    simp only [List.getD_eq_getElem?_getD]
    rw [List.getElem?_append_left hi]
theorem masks_get : ∀ (os : List Oper) (acc : List Nat), okEdges acc.length os = true → ∀ (j : Nat) o, os[j]? = some o → (masks os acc).getD (acc.length + j) 0 = maskOf (masks os acc) o
  | [], _, _, j, o, ho => by simp at ho
  | o :: os, acc, h, j, o', ho => by
    have h' := h
    simp only [okEdges, Bool.and_eq_true] at h
    simp only [masks]
    cases j with
    | zero =>
      simp at ho; subst ho
      rw [masks_old os _ _ (by simp)]
      rw [show (acc ++ [maskOf acc o]).getD (acc.length + 0) 0 = maskOf acc o by simp]
      refine maskOf_congr fun e he hb => ?_
      have := okEdges_get _ _ h' 0 o rfl e he hb
      rw [masks_old os _ _ (by simp; omega)]
      simp only [List.getD_eq_getElem?_getD]
      rw [List.getElem?_append_left (by omega)]
    | succ j =>
      have := masks_get os (acc ++ [maskOf acc o]) (by simpa using h.2) j o' (by simpa using ho)
      simp only [List.length_append, List.length_singleton] at this
      rw [show acc.length + (j + 1) = acc.length + 1 + j by omega]; exact this
theorem chkGo_get (as : List AOper) (ms : List Nat) : ∀ (l before : List Nat) x, x ∈ chkGo as ms before l → ∃ c, x.2 = { as.getD x.1 default with chk := c }
  | [], _, x, hx => by simp [chkGo] at hx
  | i :: l, before, x, hx => by
    simp only [chkGo, List.mem_cons] at hx
    rcases hx with rfl | hx
    · exact ⟨_, rfl⟩
    · exact chkGo_get as ms l _ x hx
theorem pairs_get {nt : Nat} {ms : List Nat} : ∀ (z : List (Nat × AOper)), pairsOK nt ms z = true → ∀ (p q : Nat) x y, p < q → z[p]? = some x → z[q]? = some y → pairOK nt ms (z.drop p) x y = true
  | [], _, p, q, x, y, _, hx, _ => by simp at hx
  | x0 :: z, h, p, q, x, y, hpq, hx, hy => by
    simp only [pairsOK, Bool.and_eq_true] at h
    cases q with
    | zero => omega
    | succ q =>
      have hy' : z[q]? = some y := by simpa using hy
      cases p with
      | zero =>
        simp at hx; subst hx
        exact List.all_eq_true.1 h.1 y (List.mem_of_getElem? hy')
      | succ p => exact pairs_get z h.2 p q x y (by omega) (by simpa using hx) hy'
theorem any_isT {t : Nat} {l : List AX} (h : l.any (isT t) = true) : AX.t t ∈ l := by
  obtain ⟨x, hx, h1⟩ := List.any_eq_true.1 h
  cases x with
  | t n => simp only [isT, beq_iff_eq] at h1; subst h1; exact hx
  | _ => simp [isT] at h1
theorem mapM_get {α β : Type} {f : α → Option β} : ∀ {l : List α} {l' : List β}, l.mapM f = some l' → l'.length = l.length ∧ ∀ (i : Nat) x y, l[i]? = some x → l'[i]? = some y → f x = some y
  | [], l', h => by simp at h; subst h; exact ⟨rfl, fun i x y hx => by simp at hx⟩
  | x :: l, l', h => by
    rw [List.mapM_cons] at h
    simp only [Option.bind_eq_bind, Option.bind_eq_some_iff, Option.pure_def] at h
    obtain ⟨y, hy, ys, hys, e⟩ := h
    injection e with e; subst e
    obtain ⟨h1, h2⟩ := mapM_get hys
    refine ⟨by simp [h1], fun i a b ha hb => ?_⟩
    cases i with
    | zero => simp at ha hb; subst ha hb; exact hy
    | succ i => simp at ha hb; exact h2 i a b ha hb

def zord (z : List (Nat × AOper)) (p : Nat) : Nat := (z.getD p default).1
def zao (z : List (Nat × AOper)) (p : Nat) : AOper := (z.getD p default).2
def zanc (n : Nat) (ms : List Nat) (z : List (Nat × AOper)) (p q : Nat) : Prop := p < n ∧ (ms.getD (zord z q) 0).testBit (zord z p) = true
section
variable {P : Program} {mt : Bool} {nt : Nat} {ops : Array Oper}
theorem plan_of {as : List AOper} {z : List (Nat × AOper)} {ms : List Nat} (ha : ops.toList.mapM (compOper P mt ops) = some as) (hz : planZ nt as ms = some z) :
    z.length = ops.size ∧ Plan P mt nt ops ops.size (zord z) (zanc ops.size ms z) (zao z) := by
  obtain ⟨hlen, hget⟩ := mapM_get ha
  have hlen' : as.length = ops.size := by simpa using hlen
  simp only [planZ] at hz
  split at hz
  · rename_i hok
    injection hz with hz
    rw [hz] at hok
    simp only [planOK, Bool.and_eq_true, beq_iff_eq] at hok
    obtain ⟨⟨⟨h1, h2⟩, h3⟩, h4⟩ := hok
    rw [hlen'] at h1 h2 h3
    have hat : ∀ p, p < ops.size → z[p]? = some (z.getD p default) := fun p hp => by
      rw [List.getD_eq_getElem?_getD, List.getElem?_eq_getElem (by omega)]; rfl
    have hpair : ∀ p q, p < q → q < ops.size → pairOK nt ms (z.drop p) (z.getD p default) (z.getD q default) = true := fun p q hpq hq =>
      pairs_get z h4 p q _ _ hpq (hat p (by omega)) (hat q hq)
    have hpo : ∀ p q, p < q → q < ops.size → zord z p ≠ zord z q ∧ (∀ t, (zao z p).dst = some t → (zao z q).dst ≠ some t) ∧ (zanc ops.size ms z p q ∨ (loneOK (z.drop p) (zao z p) (zao z q) = true ∧ newOK nt (zao z p) (zao z q) = true)) := fun p q hpq hq => by
      have := hpair p q hpq hq
      simp only [pairOK, Bool.and_eq_true, Bool.not_eq_true', beq_eq_false_iff_ne, Bool.or_eq_true] at this
      obtain ⟨⟨e1, e2⟩, e3⟩ := this
      refine ⟨e1, fun t ht hq' => ?_, e3.imp (fun h => ⟨by omega, h⟩) id⟩
      rcases e2 with e2 | e2
      · unfold zao at ht; rw [ht] at e2; cases e2
      · exact e2 (ht.trans hq'.symm)
    refine ⟨h1, ⟨fun p hp => ?_, fun p q hp hq he => ?_, fun j hj => ?_, rfl, fun p o hp ho => ?_, fun p q t hp hq hdp hdq => ?_, fun p q t hp hq ht hd => ?_, fun p q hpq hq hE => ?_, fun p q x hpq hq hE hx => ?_, fun p q hpq hq hE hG => ?_⟩⟩
    · have := List.all_eq_true.1 h2 _ (List.mem_of_getElem? (hat p hp))
      exact of_decide_eq_true this
    · rcases Nat.lt_trichotomy p q with h | h | h
      · exact absurd he (hpo p q h hq).1
      · exact h
      · exact absurd he.symm (hpo q p h hp).1
    · have := List.all_eq_true.1 h3 j (by simpa using hj)
      obtain ⟨x, hx, hj'⟩ := List.any_eq_true.1 this
      obtain ⟨p, hp, he⟩ := List.getElem_of_mem hx
      refine ⟨p, by omega, ?_⟩
      unfold zord
      rw [List.getD_eq_getElem?_getD, List.getElem?_eq_getElem hp, he]; simpa using hj'
    · have hmem : z.getD p default ∈ chkGo as ms [] (orderGo as ms as.length 0) := by rw [hz]; exact List.mem_of_getElem? (hat p hp)
      obtain ⟨c, hc⟩ := chkGo_get as ms _ _ _ hmem
      have hlt := (Array.getElem?_eq_some_iff.1 ho).1
      have has : as[zord z p]? = some (as.getD (zord z p) default) := by rw [List.getD_eq_getElem?_getD, List.getElem?_eq_getElem (by omega)]; rfl
      have := hget (zord z p) o _ (by simpa using ho) has
      unfold compOper at this
      obtain ⟨aop, e1, this⟩ := Option.bind_eq_some_iff.1 this
      obtain ⟨gd, e2, this⟩ := Option.bind_eq_some_iff.1 this
      injection this with this
      have hc' : zao z p = { as.getD (zord z p) default with chk := c } := hc
      rw [hc', ← this]
      exact ⟨e1, e2, rfl⟩
    · rcases Nat.lt_trichotomy p q with h | h | h
      · exact absurd hdq ((hpo p q h hq).2.1 t hdp)
      · exact h
      · exact absurd hdp ((hpo q p h hp).2.1 t hdq)
    · rcases Nat.lt_trichotomy p q with h | h | h
      · rcases (hpo p q h hq).2.2 with h5 | ⟨h5, _⟩
        · exact .inr (.inr ⟨h, h5⟩)
        · simp only [loneOK, Bool.and_eq_true, Bool.not_eq_true'] at h5
          have := h5.1.1.2
          rw [hd] at this; simp only [readBy] at this
          rw [List.contains_eq_mem] at this
          exact absurd ht (by simpa using this)
      · exact .inl h.symm
      · rcases (hpo q p h hp).2.2 with h5 | ⟨h5, _⟩
        · exact .inr (.inl ⟨h, h5⟩)
        · simp only [loneOK, Bool.and_eq_true, Bool.not_eq_true'] at h5
          have := h5.1.1.1
          rw [hd] at this; simp only [readBy] at this
          rw [List.contains_eq_mem] at this
          exact absurd ht (by simpa using this)
    · rcases (hpo p q hpq hq).2.2 with h5 | ⟨h5, _⟩
      · exact .inr h5
      · simp only [loneOK, Bool.and_eq_true, Bool.or_eq_true, Bool.not_eq_true'] at h5
        rcases h5.1.2 with h6 | h6
        · rw [hE] at h6; cases h6
        · exact .inl h6
    · rcases (hpo p q hpq hq).2.2 with h5 | ⟨h5, _⟩
      · exact .inl h5
      · simp only [loneOK, Bool.and_eq_true, Bool.or_eq_true, Bool.not_eq_true'] at h5
        rcases h5.2 with h6 | h6
        · rw [hE] at h6; cases h6
        · rw [hx] at h6
          cases x with
          | t t =>
            simp only [Bool.and_eq_true] at h6
            refine .inr ⟨any_isT h6.1, fun t' ht' r hr1 hr2 hr => ?_⟩
            injection ht' with ht'; subst ht'
            have hm : z.getD r default ∈ z.drop p := by
              refine List.mem_of_getElem? (i := r - p) ?_
              rw [List.getElem?_drop, show p + (r - p) = r by omega]; exact hat r hr2
            have := List.all_eq_true.1 h6.2 _ hm
            unfold zao at hr; rw [hr] at this; simp at this
          | _ => cases h6
    · rcases (hpo p q hpq hq).2.2 with h5 | ⟨_, h5⟩
      · exact .inl h5
      · simp only [newOK, Bool.or_eq_true, Bool.not_eq_true'] at h5
        rcases h5 with (h6 | h6) | h6
        · rw [hE] at h6; cases h6
        · rw [hG] at h6; cases h6
        · split at h6
          · rename_i d hd
            simp only [Bool.and_eq_true, decide_eq_true_eq] at h6
            exact .inr ⟨d, hd, h6.1, any_isT h6.2⟩
          · cases h6
  · cases hz
end
end Go.Mach
