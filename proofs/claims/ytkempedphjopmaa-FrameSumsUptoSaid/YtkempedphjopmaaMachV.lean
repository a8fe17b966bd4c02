import Derived.Test.YtkempedphjopmaaMachU
import Derived.Orders
set_option linter.unusedVariables false
set_option linter.unusedSimpArgs false
set_option linter.unnecessarySimpa false
namespace Go.Mach
open Go.RowKit

/-! ### Regions whose order is drawn -/
def axo : Option AX → List AX
  | none => []
  | some x => [x]
def opReads : AOp → List AX
  | .mv x | .box x | .load _ _ x | .nilck x | .eqnil _ x | .un _ x | .conv _ x | .cvs x | .s2b x | .b2s x | .faddr _ x | .field _ _ _ x | .rng x | .nxt x | .extract _ x | .len _ x | .clear _ _ x => [x]
  | .pick c a b => [c, a, b]
  | .alloc _ => []
  | .build _ ps => ps.map (·.2.2)
  | .buildSl _ _ _ _ ps => ps.map (·.2.2)
  | .store _ a x => [a, x]
  | .bin _ x y | .eqb _ x y | .min2 x y => [x, y]
  | .mkfn _ caps => caps
  | .mksl _ _ _ _ l c => [l, c]
  | .strSl x lo hi => x :: (axo lo ++ axo hi)
  | .slSl _ x lo hi => x :: (axo lo ++ axo hi)
  | .slCl _ x lo hi mx => [x, lo, hi, mx]
  | .arrSl _ _ _ x lo hi => x :: (axo lo ++ axo hi)
  | .iaddrS _ x i => [x, i]
  | .iaddrA _ _ x i => [x, i]
  | .idxStr x i => [x, i]
  | .idxArr _ _ _ x i => [x, i]
  | .append _ _ _ _ s x => [s, x]
  | .max xs => xs
  | .call _ args => args
  | .callv f args => f :: args

section
variable {call : CallF} {bs : Nat} {ρ ρ' : Regs} {σ : Heap}
theorem fillA_congr : ∀ (ps : List (Nat × Nat × AX)) (zs : List AV), (∀ x ∈ ps.map (·.2.2), ev ρ x = ev ρ' x) → fillA ρ zs ps = fillA ρ' zs ps
  | [], zs, _ => rfl
  | (o, s, x) :: ps, zs, h => by
    have h0 : ev ρ x = ev ρ' x := h x (by simp)
    simp only [fillA, h0]
    split
    · exact fillA_congr ps _ fun y hy => h y (by simp at hy ⊢; exact .inr hy)
    · rfl
theorem asNat_congr {x : Option AX} (h : ∀ y ∈ axo x, ev ρ y = ev ρ' y) (n d : Nat) : asNat n x d ρ = asNat n x d ρ' := by
  cases x with
  | none => rfl
  | some x => simp only [asNat, h x (by simp [axo])]
theorem reads_congr {op : AOp} (h : ∀ x ∈ opReads op, ev ρ x = ev ρ' x) : stepAll call bs ρ σ op = stepAll call bs ρ' σ op := by
  cases op
  case build zs ps => simp only [stepAll, stepOp]; rw [fillA_congr ps zs h]
  case buildSl n sz ag zs ps => simp only [stepAll, stepOp]; rw [fillA_congr ps zs h]
  case mkfn f caps =>
    have h2 : caps.map (ev ρ) = caps.map (ev ρ') := List.map_congr_left fun x hx => h x hx
    simp only [stepAll, stepOp, h2]
  case call f args =>
    have h2 : args.map (ev ρ) = args.map (ev ρ') := List.map_congr_left fun x hx => h x hx
    simp only [stepAll, h2]
  case callv f args =>
    have h1 : ev ρ f = ev ρ' f := h f (by simp [opReads])
    have h2 : args.map (ev ρ) = args.map (ev ρ') := List.map_congr_left fun x hx => h x (by simp [opReads, hx])
    simp only [stepAll, h1, h2]
  case strSl x lo hi =>
    have h1 : ev ρ x = ev ρ' x := h x (by simp [opReads])
    have h2 := fun n d => asNat_congr (ρ := ρ) (ρ' := ρ') (x := lo) (fun y hy => h y (by simp [opReads, hy])) n d
    have h3 := fun n d => asNat_congr (ρ := ρ) (ρ' := ρ') (x := hi) (fun y hy => h y (by simp [opReads, hy])) n d
    simp only [stepAll, stepOp, h1, h2, h3]
  case slSl sz x lo hi =>
    have h1 : ev ρ x = ev ρ' x := h x (by simp [opReads])
    have h2 := fun n d => asNat_congr (ρ := ρ) (ρ' := ρ') (x := lo) (fun y hy => h y (by simp [opReads, hy])) n d
    have h3 := fun n d => asNat_congr (ρ := ρ) (ρ' := ρ') (x := hi) (fun y hy => h y (by simp [opReads, hy])) n d
    simp only [stepAll, stepOp, h1, h2, h3]
  case arrSl n sz ag x lo hi =>
    have h1 : ev ρ x = ev ρ' x := h x (by simp [opReads])
    have h2 := fun n d => asNat_congr (ρ := ρ) (ρ' := ρ') (x := lo) (fun y hy => h y (by simp [opReads, hy])) n d
    have h3 := fun n d => asNat_congr (ρ := ρ) (ρ' := ρ') (x := hi) (fun y hy => h y (by simp [opReads, hy])) n d
    simp only [stepAll, stepOp, h1, h2, h3]
  case slCl sz x lo hi mx =>
    have h1 : ev ρ x = ev ρ' x := h x (by simp [opReads])
    have h2 : ev ρ lo = ev ρ' lo := h lo (by simp [opReads])
    have h3 : ev ρ hi = ev ρ' hi := h hi (by simp [opReads])
    have h4 : ev ρ mx = ev ρ' mx := h mx (by simp [opReads])
    simp only [stepAll, stepOp, asNat, h1, h2, h3, h4]
  all_goals (simp only [opReads, List.mem_cons, List.not_mem_nil, or_false, forall_eq_or_imp, forall_eq] at h)
  all_goals (simp only [stepAll, stepOp, h])

/-- What neither reads nor changes objects. -/
def clsN : AOp → Bool
  | .mv _ | .pick _ _ _ | .build _ _ | .nilck _ | .bin _ _ _ | .eqb _ _ _ | .eqnil _ _ | .un _ _ | .conv _ _ | .cvs _ | .mkfn _ _ | .strSl _ _ _ | .slSl _ _ _ _ | .slCl _ _ _ _ _ | .faddr _ _
  | .field _ _ _ _ | .iaddrS _ _ _ | .iaddrA _ _ _ _ | .idxStr _ _ | .idxArr _ _ _ _ _ | .extract _ _ | .len _ _ | .min2 _ _ => true
  | _ => false
/-- What reads one object. -/
def clsL : AOp → Option AX
  | .load _ _ x => some x
  | .b2s x => some x
  | .arrSl _ _ _ x _ _ => some x
  | _ => none
def isE (op : AOp) : Bool := !clsN op && (clsL op).isNone && !isNew op
theorem N_step {op : AOp} (hn : clsN op = true) {v : AV} {σ' : Heap} (hs : stepOp bs ρ σ op = some (v, σ')) : σ' = σ ∧ ∀ σ2, stepOp bs ρ σ2 op = some (v, σ2) := by
  have key : ∃ r : Option AV, ∀ σ2 : Heap, stepOp bs ρ σ2 op = r.map fun v => (v, σ2) := by
    cases op <;> first | (simp [clsN] at hn; done) | skip
    case mv x => exact ⟨some (ev ρ x), fun _ => rfl⟩
    case pick c a b => cases hc : ev ρ c with
      | bool t => cases t
                  · exact ⟨some (ev ρ b), fun _ => by simp only [stepOp, hc]; rfl⟩
                  · exact ⟨some (ev ρ a), fun _ => by simp only [stepOp, hc]; rfl⟩
      | _ => exact ⟨none, fun _ => by simp only [stepOp, hc]; rfl⟩
    case build zs ps => exact ⟨(fillA ρ zs ps).map .agg, fun _ => by simp only [stepOp, Option.map_map]; rfl⟩
    case nilck x => cases hc : ev ρ x with
      | ptr id off => exact ⟨some (.ptr id off), fun _ => by simp only [stepOp, hc]; rfl⟩
      | iptr cs off => exact ⟨some (.iptr cs off), fun _ => by simp only [stepOp, hc]; rfl⟩
      | func f caps => exact ⟨some (.func f caps), fun _ => by simp only [stepOp, hc]; rfl⟩
      | _ => exact ⟨none, fun _ => by simp only [stepOp, hc]; rfl⟩
    case bin op x y => exact ⟨binA op (ev ρ x) (ev ρ y), fun _ => rfl⟩
    case eqb neg x y =>
      simp only [stepOp]; cases ev ρ x <;> cases ev ρ y <;> first | exact ⟨none, fun _ => rfl⟩ | exact ⟨some _, fun _ => rfl⟩
    case eqnil neg x => exact ⟨if notNil (ev ρ x) = true then some (.bool neg) else none, fun _ => by simp only [stepOp]; split <;> rfl⟩
    case un op x => exact ⟨unA op (ev ρ x), fun _ => rfl⟩
    case conv k x => simp only [stepOp]; cases ev ρ x <;> first | exact ⟨none, fun _ => rfl⟩ | exact ⟨some _, fun _ => rfl⟩
    case cvs x => simp only [stepOp]; cases ev ρ x <;> first | exact ⟨none, fun _ => rfl⟩ | exact ⟨some _, fun _ => rfl⟩
    case mkfn f caps => exact ⟨some (.func f (caps.map (ev ρ))), fun _ => rfl⟩
    case strSl x lo hi =>
      simp only [stepOp]; cases ev ρ x <;> first | exact ⟨none, fun _ => rfl⟩ | skip
      rename_i s
      simp only
      cases asNat s.size hi s.size ρ with
      | none => exact ⟨none, fun _ => rfl⟩
      | some h =>
        simp only [Option.bind_some]
        cases asNat h lo 0 ρ with
        | none => exact ⟨none, fun _ => rfl⟩
        | some l => exact ⟨some (.str (s.extract l h)), fun _ => rfl⟩
    case slSl sz x lo hi =>
      simp only [stepOp]
      by_cases h1 : isSl (ev ρ x) = false
      · simp only [if_pos h1]; exact ⟨none, fun _ => rfl⟩
      · simp only [if_neg h1]
        cases lenA (ev ρ x) with
        | none => exact ⟨none, fun _ => rfl⟩
        | some n =>
          simp only [Option.bind_some]
          cases asNat n hi n ρ with
          | none => exact ⟨none, fun _ => rfl⟩
          | some h =>
            simp only [Option.bind_some]
            cases asNat h lo 0 ρ with
            | none => exact ⟨none, fun _ => rfl⟩
            | some l => exact ⟨slSlA sz l h (ev ρ x), fun _ => rfl⟩
    case slCl sz x lo hi mx =>
      refine ⟨(lenA (ev ρ x)).bind fun n => (asNat n (some mx) n ρ).bind fun m => (asNat m (some hi) n ρ).bind fun h => (asNat h (some lo) 0 ρ).bind fun l => if l = 0 ∧ h = m then (match ev ρ x with | .isl es _ => some (.isl (es.take h) true) | _ => none) else none, fun _ => ?_⟩
      simp only [stepOp]
      cases lenA (ev ρ x) with
      | none => rfl
      | some n => simp only [Option.bind_some]; cases asNat n (some mx) n ρ with
        | none => rfl
        | some m => simp only [Option.bind_some]; cases asNat m (some hi) n ρ with
          | none => rfl
          | some h => simp only [Option.bind_some]; cases asNat h (some lo) 0 ρ with
            | none => rfl
            | some l =>
              simp only [Option.bind_some]
              split
              · cases ev ρ x <;> rfl
              · rfl
    case faddr off x => simp only [stepOp]; cases ev ρ x <;> first | exact ⟨none, fun _ => rfl⟩ | exact ⟨some _, fun _ => rfl⟩
    case field off sz ag x =>
      simp only [stepOp]; cases ev ρ x <;> first | exact ⟨none, fun _ => rfl⟩ | exact ⟨(window _ off sz).bind (mk ag), fun _ => rfl⟩
    case iaddrS sz x i =>
      simp only [stepOp]
      cases ev ρ i <;> first | exact ⟨none, fun _ => rfl⟩ | skip
      rename_i k n
      simp only
      by_cases h0 : 0 ≤ n
      · simp only [if_pos h0]
        cases ev ρ x <;> first | exact ⟨none, fun _ => rfl⟩ | skip
        case isl es c =>
          simp only
          cases es[n.toNat]? with
          | none => exact ⟨none, fun _ => rfl⟩
          | some e =>
            simp only [Option.bind_some]
            by_cases h1 : e.cells.length = sz
            · simp only [if_pos h1]; exact ⟨some _, fun _ => rfl⟩
            · simp only [if_neg h1]; exact ⟨none, fun _ => rfl⟩
        case own id es =>
          simp only
          cases es[n.toNat]? with
          | none => exact ⟨none, fun _ => rfl⟩
          | some e =>
            simp only [Option.bind_some]
            by_cases h1 : e.cells.length = sz
            · simp only [if_pos h1]; exact ⟨some _, fun _ => rfl⟩
            · simp only [if_neg h1]; exact ⟨none, fun _ => rfl⟩
        case sl id off len sz' ag =>
          simp only
          by_cases h1 : n < len ∧ sz = sz'
          · simp only [if_pos h1]; exact ⟨some _, fun _ => rfl⟩
          · simp only [if_neg h1]; exact ⟨none, fun _ => rfl⟩
      · simp only [if_neg h0]; exact ⟨none, fun _ => rfl⟩
    case iaddrA n sz x i =>
      simp only [stepOp]
      cases ev ρ x <;> first | exact ⟨none, fun _ => rfl⟩ | skip
      cases ev ρ i <;> first | exact ⟨none, fun _ => rfl⟩ | skip
      rename_i id off k m
      simp only
      by_cases h1 : 0 ≤ m ∧ m < n
      · simp only [if_pos h1]; exact ⟨some _, fun _ => rfl⟩
      · simp only [if_neg h1]; exact ⟨none, fun _ => rfl⟩
    case idxStr x i =>
      simp only [stepOp]
      cases ev ρ x <;> first | exact ⟨none, fun _ => rfl⟩ | skip
      cases ev ρ i <;> first | exact ⟨none, fun _ => rfl⟩ | skip
      rename_i s k m
      simp only
      by_cases h1 : 0 ≤ m
      · simp only [if_pos h1]
        cases s.data.toList[m.toNat]? with
        | none => exact ⟨none, fun _ => rfl⟩
        | some b => exact ⟨some (.int .u8 (b.toNat : Int)), fun _ => rfl⟩
      · simp only [if_neg h1]; exact ⟨none, fun _ => rfl⟩
    case idxArr n sz ag x i =>
      simp only [stepOp]
      cases ev ρ x <;> first | exact ⟨none, fun _ => rfl⟩ | skip
      cases ev ρ i <;> first | exact ⟨none, fun _ => rfl⟩ | skip
      rename_i cs k m
      simp only
      by_cases h1 : 0 ≤ m ∧ m < n
      · simp only [if_pos h1]; exact ⟨(window cs (m.toNat * sz) sz).bind (mk ag), fun _ => rfl⟩
      · simp only [if_neg h1]; exact ⟨none, fun _ => rfl⟩
    case extract i x => simp only [stepOp]; cases ev ρ x <;> first | exact ⟨none, fun _ => rfl⟩ | exact ⟨_, fun _ => rfl⟩
    case len st x =>
      simp only [stepOp]
      by_cases h1 : isSl (ev ρ x) = st
      · simp only [if_pos h1]; exact ⟨none, fun _ => rfl⟩
      · simp only [if_neg h1]
        cases lenA (ev ρ x) with
        | none => exact ⟨none, fun _ => rfl⟩
        | some n => exact ⟨some (.int .i64 (n : Int)), fun _ => rfl⟩
    case min2 x y => simp only [stepOp]; cases ev ρ x <;> cases ev ρ y <;> first | exact ⟨none, fun _ => rfl⟩ | exact ⟨some _, fun _ => rfl⟩
  obtain ⟨r, hr⟩ := key
  have h1 := hr σ
  rw [h1] at hs
  obtain ⟨u, rfl, e⟩ := Option.map_eq_some_iff.1 hs
  injection e with e1 e2; subst e1 e2
  exact ⟨rfl, fun σ2 => by rw [hr σ2]; rfl⟩
theorem L_step {op : AOp} {x : AX} (hl : clsL op = some x) {v : AV} {σ' : Heap} (hs : stepOp bs ρ σ op = some (v, σ')) : σ' = σ ∧ ((∀ σ2 : Heap, objOf σ2 (ev ρ x) = none) ∨ ∃ (id : Nat) (o : AObj), σ[id]? = some o ∧ (∀ σ2 : Heap, objOf σ2 (ev ρ x) = σ2[id]?)) ∧
    ∀ σ2 : Heap, objOf σ2 (ev ρ x) = objOf σ (ev ρ x) → stepOp bs ρ σ2 op = some (v, σ2) := by
  have hobj : (∀ σ2 : Heap, objOf σ2 (ev ρ x) = none) ∨ ∃ (id : Nat) (o : AObj), σ[id]? = some o ∧ (∀ σ2 : Heap, objOf σ2 (ev ρ x) = σ2[id]?) := by
    have hex : ∀ id : Nat, (∀ σ2 : Heap, objOf σ2 (ev ρ x) = σ2[id]?) → (σ[id]? = none → False) → (∀ σ2 : Heap, objOf σ2 (ev ρ x) = none) ∨ ∃ (id : Nat) (o : AObj), σ[id]? = some o ∧ (∀ σ2 : Heap, objOf σ2 (ev ρ x) = σ2[id]?) := fun id h1 h2 => by
      cases ho : σ[id]? with
      | none => exact (h2 ho).elim
      | some o => exact .inr ⟨id, o, ho, h1⟩
    cases hx : ev ρ x with
    | ptr id off =>
      rw [hx] at hex
      refine hex id (fun _ => rfl) fun ho => ?_
      cases op <;> simp only [clsL] at hl <;> first | (cases hl; done) | (injection hl with hl; subst hl; simp [stepOp, hx, loadA, elemsA, isSl, ho] at hs)
    | sl id off len sz ag =>
      rw [hx] at hex
      refine hex id (fun _ => rfl) fun ho => ?_
      cases op <;> simp only [clsL] at hl <;> first | (cases hl; done) | (injection hl with hl; subst hl; simp [stepOp, hx, loadA, elemsA, isSl, ho] at hs)
    | _ => exact .inl fun _ => rfl
  cases op <;> simp only [clsL] at hl <;> try (cases hl; done)
  case load sz ag y =>
    injection hl with hl; subst hl
    simp only [stepOp] at hs ⊢
    obtain ⟨u, hu, e⟩ := Option.map_eq_some_iff.1 hs
    injection e with e1 e2; subst e1 e2
    refine ⟨rfl, hobj, fun σ2 h2 => ?_⟩
    have : loadA σ2 sz ag (ev ρ y) = loadA σ sz ag (ev ρ y) := by
      cases hx : ev ρ y <;> rw [hx] at h2 <;> simp only [objOf] at h2 <;> simp only [loadA, h2]
    rw [this, hu]; rfl
  case b2s y =>
    injection hl with hl; subst hl
    simp only [stepOp] at hs ⊢
    split at hs
    · cases hs
    rename_i hsl
    obtain ⟨es, h1, hs⟩ := Option.bind_eq_some_iff.1 hs
    obtain ⟨s, h3, e⟩ := Option.map_eq_some_iff.1 hs
    injection e with e1 e2; subst e1 e2
    refine ⟨rfl, hobj, fun σ2 h2 => ?_⟩
    have : elemsA σ2 1 false (ev ρ y) = elemsA σ 1 false (ev ρ y) := by
      cases hx : ev ρ y <;> rw [hx] at h2 <;> simp only [objOf] at h2 <;> simp only [elemsA, h2]
    rw [if_neg hsl, this, h1]; simp [h3]
  case arrSl n sz ag y lo hi =>
    injection hl with hl; subst hl
    simp only [stepOp] at hs ⊢
    refine ⟨?_, hobj, fun σ2 h2 => ?_⟩
    · split at hs
      · split at hs
        · obtain ⟨h, h1, hs⟩ := Option.bind_eq_some_iff.1 hs
          obtain ⟨l, h3, hs⟩ := Option.bind_eq_some_iff.1 hs
          split at hs
          · injection hs with hs; injection hs with e1 e2; exact e2.symm
          · cases hs
        · cases hs
      · cases hs
    · split at hs
      · rename_i id off hx
        rw [hx] at h2; simp only [objOf] at h2
        rw [h2]
        split at hs
        · rename_i cs fz ho
          obtain ⟨h, h1, hs⟩ := Option.bind_eq_some_iff.1 hs
          obtain ⟨l, h3, hs⟩ := Option.bind_eq_some_iff.1 hs
          split at hs
          · rename_i hc
            injection hs with hs; injection hs with e1 e2; subst e1
            simp only [h1, Option.bind_some, h3, if_pos hc]
          · cases hs
        · cases hs
      · cases hs
theorem new_obj {op : AOp} (hn : isNew op = true) {v : AV} {σ' : Heap} (hs : stepOp bs ρ σ op = some (v, σ')) : ∃ obj, σ' = σ ++ [obj] ∧ ∀ σ2 : Heap, objOf σ2 v = σ2[σ.length]? := by
  cases op <;> first | (simp [isNew] at hn; done) | skip
  case alloc zs => simp only [stepOp] at hs; injection hs with hs; injection hs with e1 e2; subst e1 e2; exact ⟨_, rfl, fun _ => rfl⟩
  case box x =>
    simp only [stepOp] at hs
    split at hs
    · injection hs with hs; injection hs with e1 e2; subst e1 e2; exact ⟨_, rfl, fun _ => rfl⟩
    · cases hs
  case buildSl n sz ag zs ps =>
    simp only [stepOp] at hs
    obtain ⟨cs, hf, e⟩ := Option.map_eq_some_iff.1 hs
    injection e with e1 e2; subst e1 e2; exact ⟨_, rfl, fun _ => rfl⟩
  case s2b x =>
    simp only [stepOp] at hs
    split at hs
    · injection hs with hs; injection hs with e1 e2; subst e1 e2; exact ⟨_, rfl, fun _ => rfl⟩
    · cases hs
  case mksl sz ag by' zs l c =>
    simp only [stepOp] at hs
    split at hs
    · split at hs
      · injection hs with hs; injection hs with e1 e2; subst e1 e2; exact ⟨_, rfl, fun _ => rfl⟩
      · cases hs
    · cases hs
  case rng x =>
    simp only [stepOp] at hs
    split at hs
    · injection hs with hs; injection hs with e1 e2; subst e1 e2; exact ⟨_, rfl, fun _ => rfl⟩
    · cases hs
end
end Go.Mach
