import Derived.Test.YtkempedphjopmaaMachAF
set_option linter.unusedVariables false
set_option linter.unusedSimpArgs false
set_option linter.unnecessarySimpa false
namespace Go.Mach
open Go.RowKit Go.ChangeShapes
open Go.Proofs.Ytkempedphjopmaa (Rows.uptoBulk Rows.uptoBulkAll Rows.uptoSmall)

section
variable {H : Type} {enc : TypeId × Value → H} {P : Program} {w : World} {S : List TypeId} {sp : Nat → Bool}
theorem arg_read (hS : S.all (supT P S) = true) {t : TypeId} (ht : t ∈ S) {v : Value} {d : DataW H} {ps : List MemPlace} {b : Nat} {W : World} (h : DataW.Trod enc P w 0 sp true t v d ps) (hval : Value.okWide P W .any b t v) :
    ∃ x, TyA P t x ∧ VR (memGh w) x v ∧ bulkA x ≤ Rows.uptoBulk d := by
  obtain ⟨n, hn⟩ := h
  obtain ⟨x, h1, h2, h3, h4, h5, h6⟩ := trod_read hS n t ht _ _ _ hn
  refine ⟨x, h1, ?_, h5⟩
  have key : x.cells = [x] → v.cells = #[v] → VR (memGh w) x v := fun e1 e2 => by
    rw [e1, e2] at h4
    exact (h4 0 x v rfl rfl).2
  have hv : (∀ fs, P.underlying t ≠ some (.struct fs)) → (∀ n e, P.underlying t ≠ some (.array n e)) → v.cells = #[v] := fun hns hna => by
    unfold Value.okWide at hval
    split at hval
    · rename_i fs e; exact absurd e (hns _)
    · rename_i e; exact absurd e (hna _ _)
    · cases v with
      | agg cs =>
        exfalso
        unfold Cell.okWide Cell.ok at hval
        split at hval <;> rename_i h7 h8 <;> first | (cases h8; done) | skip
        split at hval <;> rename_i h9 h10 <;> first | (cases h10; done) | exact hval
      | _ => rfl
  cases h1 with
  | bool hu b => exact key rfl (hv (fun fs e => by rw [hu] at e; cases e) (fun n e' e => by rw [hu] at e; cases e))
  | int hu n hw => exact key rfl (hv (fun fs e => by rw [hu] at e; cases e) (fun n e' e => by rw [hu] at e; cases e))
  | str hu s => exact key rfl (hv (fun fs e => by rw [hu] at e; cases e) (fun n e' e => by rw [hu] at e; cases e))
  | slice hu hes => exact key rfl (hv (fun fs e => by rw [hu] at e; cases e) (fun n e' e => by rw [hu] at e; cases e))
  | @struct _ fs vs hu hl hvs =>
    unfold Value.okWide at hval
    rw [hu] at hval
    obtain ⟨cs, rfl, _, _⟩ := hval
    simp only [AV.cells, Value.cells] at h2 h4
    refine .agg (by simpa using h2) (fun y hy => ?_) fun i y c hy hc => (h4 i y c hy (by simpa using hc)).2
    obtain ⟨i, hi, rfl⟩ := List.getElem_of_mem hy
    exact clo1_cellv (h4 i _ _ (List.getElem?_eq_getElem hi) (List.getElem?_eq_getElem (by omega))).1
theorem args_read (hS : S.all (supT P S) = true) {b : Nat} {W : World} : ∀ (ts : List TypeId) (vs : List Value) (ds : List (DataW H)) (ps : List MemPlace), DataW.TrodAll enc P w 0 sp true ts vs ds ps → (∀ t ∈ ts, t ∈ S) →
    (∀ (j : Nat) t v, ts[j]? = some t → vs[j]? = some v → Value.okWide P W .any b t v) →
    ∃ xs : List AV, xs.length = ts.length ∧ VRs (memGh w) xs vs ∧ (∀ (i : Nat) t x, ts[i]? = some t → xs[i]? = some x → TyA P t x) ∧ bulkAs xs ≤ Rows.uptoBulkAll ds ∧ ds.length = ts.length
  | [], vs, ds, ps, h, _, _ => by
    obtain ⟨rfl, rfl, rfl⟩ := trodAll_nil h
    exact ⟨[], rfl, ⟨rfl, fun i x c hx => by simp at hx⟩, fun i t x hx => by simp at hx, by simp [bulkAs], rfl⟩
  | t :: ts, vs, ds, ps, h, hts, hval => by
    obtain ⟨v, vs', d, ds', p, q, rfl, rfl, rfl, hd, hrest⟩ := trodAll_cons h
    obtain ⟨x, h1, h2, h3⟩ := arg_read hS (hts t (by simp)) hd (hval 0 t v rfl rfl)
    obtain ⟨xs, k0, k1, k2, k3, k4⟩ := args_read hS ts vs' ds' q hrest (fun t' ht' => hts t' (by simp [ht'])) (fun j t' v' hj hv => hval (j + 1) t' v' (by simpa using hj) (by simpa using hv))
    refine ⟨x :: xs, by simp [k0], .cons h2 k1, fun i t' y ht' hy => ?_, by simp only [bulkAs, Rows.uptoBulkAll]; omega, by simp [k4]⟩
    cases i with
    | zero => simp at ht' hy; subst ht' hy; exact h1
    | succ i => simp at ht' hy; exact k2 i t' y ht' hy
theorem trodAll_stays (hl : laidOutB P = true) {W W' : World} {sp' : Nat → Bool} : ∀ (ts : List TypeId) (vs : List Value) (ds : List (DataW H)) (ps : List MemPlace), (∀ t ∈ ts, P.readableRec t = true ∧ t < P.types.size) → DataW.TrodAll enc P W 0 (fun _ => true) true ts vs ds ps →
    (∀ p ∈ ps, W.sameAt W' p) → (∀ p ∈ ps, sp' p.block = true) → DataW.TrodAll enc P W' 0 sp' true ts vs ds ps
  | [], vs, ds, ps, _, h, _, _ => by
    obtain ⟨rfl, rfl, rfl⟩ := trodAll_nil h
    exact trodAll_mk0
  | t :: ts, vs, ds, ps, ht, h, hs, hsp => by
    obtain ⟨v, vs', d, ds', p, q, rfl, rfl, rfl, hd, hrest⟩ := trodAll_cons h
    exact ⟨p, q, WideElems.Trod_stays hl (ht t (by simp)).1 (ht t (by simp)).2 hd (fun x hx => hs x (by simp [hx])) (fun x hx => hsp x (by simp [hx])),
      trodAll_stays hl ts vs' ds' q (fun t' ht' => ht t' (by simp [ht'])) hrest (fun x hx => hs x (by simp [hx])) (fun x hx => hsp x (by simp [hx])), rfl⟩

theorem TyA.asStr {t : TypeId} {x : AV} (h : TyA P t x) (hu : P.underlying t = some .string) : ∃ s, x = .str s := by
  cases h with
  | str _ s => exact ⟨s, rfl⟩
  | bool h' => rw [hu] at h'; cases h'
  | int h' => rw [hu] at h'; cases h'
  | slice h' => rw [hu] at h'; cases h'
  | struct h' => rw [hu] at h'; cases h'
theorem TyA.asBool {t : TypeId} {x : AV} (h : TyA P t x) (hu : P.underlying t = some .bool) : ∃ b, x = .bool b := by
  cases h with
  | bool _ b => exact ⟨b, rfl⟩
  | str h' => rw [hu] at h'; cases h'
  | int h' => rw [hu] at h'; cases h'
  | slice h' => rw [hu] at h'; cases h'
  | struct h' => rw [hu] at h'; cases h'
theorem TyA.asInt {t : TypeId} {x : AV} {k : IntKind} (h : TyA P t x) (hu : P.underlying t = some (.int k)) : ∃ n, x = .int k n ∧ k.min ≤ n ∧ n ≤ k.max := by
  cases h with
  | int h' n hn => rw [hu] at h'; injection h' with h'; injection h' with h'; subst h'; exact ⟨n, rfl, by simpa [Lit.wf] using hn⟩
  | bool h' => rw [hu] at h'; cases h'
  | str h' => rw [hu] at h'; cases h'
  | slice h' => rw [hu] at h'; cases h'
  | struct h' => rw [hu] at h'; cases h'
theorem TyA.asSlice {t e : TypeId} {x : AV} (h : TyA P t x) (hu : P.underlying t = some (.slice e)) : ∃ es, x = .isl es false ∧ ∀ y ∈ es, TyA P e y := by
  cases h with
  | slice h' hes => rw [hu] at h'; injection h' with h'; injection h' with h'; subst h'; exact ⟨_, rfl, hes⟩
  | bool h' => rw [hu] at h'; cases h'
  | int h' => rw [hu] at h'; cases h'
  | str h' => rw [hu] at h'; cases h'
  | struct h' => rw [hu] at h'; cases h'
theorem TyA.asStruct {t : TypeId} {x : AV} {fs : Array Field} (h : TyA P t x) (hu : P.underlying t = some (.struct fs)) : ∃ vs : List AV, x = .agg (flat vs) ∧ vs.length = fs.toList.length ∧ ∀ (i : Nat) f y, fs.toList[i]? = some f → vs[i]? = some y → TyA P f.type y := by
  cases h with
  | struct h' hl hv => rw [hu] at h'; injection h' with h'; injection h' with h'; subst h'; exact ⟨_, rfl, hl, hv⟩
  | bool h' => rw [hu] at h'; cases h'
  | int h' => rw [hu] at h'; cases h'
  | str h' => rw [hu] at h'; cases h'
  | slice h' => rw [hu] at h'; cases h'

/-- A law whose call by our reckoning is true keeps what its row says. -/
theorem law_contract {T : Tab} (hT : TabOK P T) (hS : S.all (supT P S) = true) (hl : laidOutB P = true) {f : Nat} {fn : Func} {spec : ChangeSpec} {tb : TypeId}
    (hps : fn.params.toList.all (fun t => S.contains t && P.readableRec t && decide (t < P.types.size)) = true) (hres : fn.resultTypes = #[tb]) (htb : P.underlying tb = some .bool) (hvars : spec.vars = [])
    (hfn : ∀ ds : List (DataW H), ds.length = fn.params.toList.length → spec.fn H (ds ++ []) = { results := [.lit (.bool true)], args := ds })
    (hlaw : ∀ xs : List AV, xs.length = fn.params.toList.length → (∀ (i : Nat) t x, fn.params.toList[i]? = some t → xs[i]? = some x → TyA P t x) → bulkAs xs ≤ 1048576 → ∃ σ', callT T f xs 0 [] = some (.bool true, σ'))
    {W : World} {base : Nat} {args : Array Value} {ds gs : List (DataW H)} {before : List MemPlace}
    (hval : ∀ (j : Nat) t v, fn.params[j]? = some t → args[j]? = some v → Value.okWide P W .any base t v)
    (hW : DataW.Whole enc P fn.params.toList spec.vars false W args.toList ds gs before) (hk : Rows.uptoSmall H (ds ++ gs) = true) :
    Calls P f args W fun e W' => ∃ v, e = .returned v ∧ spec.post enc P fn false true false false W args v W' := by
  have hW' := hW
  obtain ⟨p, q, hA, hV, rfl, hfz, hnd⟩ := hW
  rw [hvars] at hV
  obtain ⟨rfl, rfl⟩ := trodVars_none hV
  have hpt : ∀ t ∈ fn.params.toList, t ∈ S ∧ P.readableRec t = true ∧ t < P.types.size := fun t ht => by
    have := List.all_eq_true.1 hps t ht
    simpa [and_assoc] using this
  obtain ⟨xs, k0, k1, k2, k3, k4⟩ := args_read hS fn.params.toList args.toList ds p hA (fun t ht => (hpt t ht).1) (fun j t v hj hv => hval j t v (by simpa using hj) (by simpa using hv))
  have hb : Rows.uptoBulkAll ds ≤ 1048576 := by have := of_decide_eq_true hk; simpa using this
  obtain ⟨σ', hx⟩ := hlaw xs k0 k2 (by omega)
  have hcalls := callT_sound hT hx (Nat.zero_le _) (memGh_HR W) (cargs := args) ⟨by simpa using k1.len, fun i x c hx hc => k1.val i x c hx (by simpa using hc)⟩
  refine hcalls.mono fun e W' hp => ?_
  obtain ⟨cv, g', ow', rfl, hVR, hH, hSt⟩ := hp
  have hcv := hVR.boolv
  subst hcv
  have hbelow := hSt.below (fun _ => rfl)
  have hlt : ∀ x ∈ p, x.block < W.heap.size := fun x hx => by simpa using hW'.lt x (by simp [hx])
  refine ⟨_, rfl, ds, [], p ++ [], [], p, [], hW', ?_, ?_, ?_, hbelow.frame _, fun h => by cases h⟩
  · rw [hfn ds k4, hres]
    exact trodAll_mk1 (shut_bool htb true)
  · rw [hfn ds k4]
    exact trodAll_stays hl _ _ _ _ (fun t ht => (hpt t ht).2) hA (fun x hx => hbelow.same (hlt x hx)) (fun x hx => by simpa using hlt x hx)
  · rw [hfn ds k4, hvars]; rfl
end
end Go.Mach
