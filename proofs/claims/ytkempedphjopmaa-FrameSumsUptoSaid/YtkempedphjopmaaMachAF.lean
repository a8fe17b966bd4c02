import Derived.Test.YtkempedphjopmaaRows
import Derived.Test.YtkempedphjopmaaMachAE
import Derived.ProofKit
import Derived.OpenShut
import Derived.JoinedCond
set_option linter.unusedVariables false
set_option linter.unusedSimpArgs false
set_option linter.unnecessarySimpa false
namespace Go.Mach
open Go.RowKit Go.ChangeShapes
open Go.Proofs.Ytkempedphjopmaa (Rows.uptoBulk Rows.uptoBulkAll Rows.uptoSmall)

/-! ### Arguments, read as data -/
/-- Data of a type. -/
inductive TyA (P : Program) : TypeId → AV → Prop where
  | bool {t : TypeId} (h : P.underlying t = some .bool) (b : Bool) : TyA P t (.bool b)
  | int {t : TypeId} {k : IntKind} (h : P.underlying t = some (.int k)) (n : Int) (hn : (Lit.int k n).wf = true) : TyA P t (.int k n)
  | str {t : TypeId} (h : P.underlying t = some .string) (s : ByteArray) : TyA P t (.str s)
  | slice {t e : TypeId} {es : List AV} (h : P.underlying t = some (.slice e)) (hes : ∀ x ∈ es, TyA P e x) : TyA P t (.isl es false)
  | struct {t : TypeId} {fs : Array Field} {vs : List AV} (h : P.underlying t = some (.struct fs)) (hl : vs.length = fs.toList.length)
      (hv : ∀ (i : Nat) f x, fs.toList[i]? = some f → vs[i]? = some x → TyA P f.type x) : TyA P t (.agg (flat vs))
mutual
def bulkA : AV → Nat
  | .str s => s.size + 1
  | .isl es _ => bulkAs es + 1
  | .agg cs => bulkAs cs + 1
  | _ => 1
def bulkAs : List AV → Nat
  | [] => 0
  | x :: xs => bulkA x + bulkAs xs
end
theorem bulkAs_append : ∀ xs ys : List AV, bulkAs (xs ++ ys) = bulkAs xs + bulkAs ys
  | [], ys => by simp [bulkAs]
  | x :: xs, ys => by simp only [List.cons_append, bulkAs, bulkAs_append xs ys]; omega
theorem bulkAs_cells (x : AV) : bulkAs x.cells ≤ bulkA x := by
  cases x <;> simp [AV.cells, bulkAs, bulkA]
theorem bulkAs_flat : ∀ vs : List AV, bulkAs (flat vs) ≤ bulkAs vs
  | [] => by simp [flat, bulkAs]
  | x :: vs => by
    have h1 := bulkAs_cells x
    have h2 := bulkAs_flat vs
    simp only [flat, List.flatMap_cons, bulkAs_append, bulkAs] at h2 ⊢; omega
def contig (P : Program) : Nat → List Field → Option Nat
  | o, [] => some o
  | o, f :: fs => if f.offset = o then contig P (o + P.cellsOf f.type) fs else none
def supT (P : Program) (S : List TypeId) (t : TypeId) : Bool := match P.underlying t with
  | some .bool | some (.int _) | some .string => P.cellsOf t == 1
  | some (.slice e) => S.contains e && decide (0 < P.cellsOf e) && P.cellsOf t == 1
  | some (.struct fs) => fs.toList.all (fun f => S.contains f.type) && contig P 0 fs.toList == some (P.cellsOf t)
  | _ => false
def memGh (w : World) : Gh := ⟨fun _ => none, fun _ _ => none, fun b i => w.cell? ⟨b, i, none⟩⟩
theorem memGh_HR (w : World) : HR (memGh w) (fun _ => none) [] w :=
  ⟨fun _ _ _ h => h, fun _ _ h => (by cases h), fun _ _ _ h => (by cases h), fun _ _ _ _ h => (by simp at h), fun _ _ _ h => (by simp at h), fun _ _ _ h => (by simp at h), fun _ _ _ h => (by simp at h)⟩
theorem flat_get {s : Nat} : ∀ {es : List AV}, (∀ e ∈ es, e.cells.length = s) → 0 < s → ∀ {i : Nat} {x : AV}, (flat es)[i]? = some x → ∃ j k e, es[j]? = some e ∧ e.cells[k]? = some x ∧ i = j * s + k
  | [], _, _, i, x, h => by simp [flat] at h
  | e :: es, hc, hs, i, x, h => by
    have hl := hc e (by simp)
    simp only [flat, List.flatMap_cons] at h
    rcases Nat.lt_or_ge i e.cells.length with hi | hi
    · rw [List.getElem?_append_left hi] at h
      exact ⟨0, i, e, rfl, h, by omega⟩
    · rw [List.getElem?_append_right hi] at h
      obtain ⟨j, k, e', h1, h2, h3⟩ := flat_get (es := es) (fun y hy => hc y (by simp [hy])) hs h
      exact ⟨j + 1, k, e', by simpa using h1, h2, by rw [Nat.add_mul]; omega⟩

section
variable {H : Type} {enc : TypeId × Value → H} {P : Program} {w : World} {S : List TypeId} {sp : Nat → Bool}
/-- One reading's outcome. -/
def RdA (P : Program) (w : World) (t : TypeId) (cs : List Value) (d : DataW H) (x : AV) : Prop :=
  TyA P t x ∧ x.cells.length = cs.length ∧ cs.length = P.cellsOf t ∧ (∀ (i : Nat) y c, x.cells[i]? = some y → cs[i]? = some c → y.clo1 = true ∧ VR (memGh w) y c) ∧ bulkA x ≤ Rows.uptoBulk d ∧ x.clo = true
theorem RdA.one {t : TypeId} {c : Value} {d : DataW H} {x : AV} (ht : TyA P t x) (hc : x.cells = [x]) (h1 : P.cellsOf t = 1) (hcl : x.clo1 = true) (hV : VR (memGh w) x c) (hb : bulkA x ≤ Rows.uptoBulk d) (hx : x.clo = true) : RdA P w t [c] d x := by
  refine ⟨ht, by rw [hc]; rfl, by simp [h1], fun i y c' hy hc' => ?_, hb, hx⟩
  rw [hc] at hy
  cases i with
  | zero => simp at hy hc'; subst hy hc'; exact ⟨hcl, hV⟩
  | succ i => simp at hy
theorem fields_read {n : Nat} (ih : ∀ t ∈ S, ∀ cs d ps, DataW.trod enc P w 0 sp true n t cs = some (d, ps) → ∃ x, RdA P w t cs d x) {cs : List Value} :
    ∀ (fs : List Field) (o o' : Nat) (xs : List (DataW H × List MemPlace)), (∀ f ∈ fs, f.type ∈ S) → contig P o fs = some o' →
      fs.mapM (fun f => DataW.trod enc P w 0 sp true n f.type ((cs.drop f.offset).take (P.cellsOf f.type))) = some xs →
      ∃ vs : List AV, vs.length = fs.length ∧ (∀ (i : Nat) f x, fs[i]? = some f → vs[i]? = some x → TyA P f.type x) ∧ o + (flat vs).length = o' ∧ (∀ (i : Nat) y c, (flat vs)[i]? = some y → cs[o + i]? = some c → y.clo1 = true ∧ VR (memGh w) y c) ∧
        bulkAs vs ≤ Rows.uptoBulkAll (xs.map (·.1)) ∧ ∀ y ∈ flat vs, y.clo1 = true
  | [], o, o', xs, _, ho, hm => by
    simp only [contig] at ho; injection ho with ho
    simp at hm; subst hm
    exact ⟨[], rfl, fun i f x hf => by simp at hf, by simp [flat, ho], fun i y c hy => by simp [flat] at hy, by simp [bulkAs], fun y hy => by simp [flat] at hy⟩
  | f :: fs, o, o', xs, hS, ho, hm => by
    simp only [contig] at ho
    split at ho
    · rename_i hof
      rw [List.mapM_cons] at hm
      simp only [Option.bind_eq_bind, Option.bind_eq_some_iff, Option.pure_def] at hm
      obtain ⟨⟨d, p⟩, hd, ys, hys, e⟩ := hm
      injection e with e; subst e
      obtain ⟨x, h1, h2, h3, h4, h5, h6⟩ := ih f.type (hS f (by simp)) _ _ _ hd
      obtain ⟨vs, k1, k2, k3, k4, k5, k6⟩ := fields_read ih fs _ _ _ (fun f' hf' => hS f' (by simp [hf'])) ho hys
      have hlen : x.cells.length = P.cellsOf f.type := h2.trans h3
      have hcl : ∀ y ∈ x.cells, y.clo1 = true := fun y hy => by
        cases x <;> first | (simp at h6; done) | (simp at hy; subst hy; exact h6) | exact List.all_eq_true.1 h6 y hy
      refine ⟨x :: vs, by simp [k1], fun i f' y hf' hy => ?_, ?_, fun i y c hy hc => ?_, ?_, fun y hy => ?_⟩
      · cases i with
        | zero => simp at hf' hy; subst hf' hy; exact h1
        | succ i => simp at hf' hy; exact k2 i f' y hf' hy
      · simp only [flat, List.flatMap_cons, List.length_append] at k3 ⊢; omega
      · simp only [flat, List.flatMap_cons] at hy
        rcases Nat.lt_or_ge i x.cells.length with hi | hi
        · rw [List.getElem?_append_left hi] at hy
          refine h4 i y c hy ?_
          rw [List.getElem?_take, if_pos (by omega), List.getElem?_drop, hof]; exact hc
        · rw [List.getElem?_append_right hi] at hy
          refine k4 _ y c hy ?_
          rw [show o + P.cellsOf f.type + (i - x.cells.length) = o + i by omega]; exact hc
      · simp only [bulkAs, List.map_cons, Rows.uptoBulkAll]; omega
      · simp only [flat, List.flatMap_cons, List.mem_append] at hy
        rcases hy with hy | hy
        · exact hcl y hy
        · exact k6 y hy
    · cases ho
theorem elems_read {n : Nat} {e : TypeId} (he : e ∈ S) (ih : ∀ t ∈ S, ∀ cs d ps, DataW.trod enc P w 0 sp true n t cs = some (d, ps) → ∃ x, RdA P w t cs d x) {a : Addr} :
    ∀ (l : List Nat) (xs : List (DataW H × List MemPlace)), l.mapM (fun i => (w.cells? 0 (a.add (i * P.cellsOf e)) (P.cellsOf e)).bind (DataW.trod enc P w 0 sp true n e)) = some xs →
      ∃ es : List AV, es.length = l.length ∧ (∀ (j : Nat) i x, l[j]? = some i → es[j]? = some x → TyA P e x ∧ x.cells.length = P.cellsOf e ∧ x.clo = true ∧ ∀ (k : Nat) y, x.cells[k]? = some y → ∃ c, w.cell? ((a.add (i * P.cellsOf e)).add k) = some c ∧ VR (memGh w) y c) ∧
        bulkAs es ≤ Rows.uptoBulkAll (xs.map (·.1))
  | [], xs, hm => by
    simp at hm; subst hm
    exact ⟨[], rfl, fun j i x hj => by simp at hj, by simp [bulkAs]⟩
  | i :: l, xs, hm => by
    rw [List.mapM_cons] at hm
    simp only [Option.bind_eq_bind, Option.bind_eq_some_iff, Option.pure_def] at hm
    obtain ⟨⟨d, p⟩, ⟨cs, hcs, hd⟩, ys, hys, e'⟩ := hm
    injection e' with e'; subst e'
    obtain ⟨x, h1, h2, h3, h4, h5, h6⟩ := ih e he _ _ _ hd
    obtain ⟨es, k1, k2, k3⟩ := elems_read he ih l ys (by simpa [Option.bind_eq_bind] using hys)
    refine ⟨x :: es, by simp [k1], fun j i' y hj hy => ?_, by simp only [bulkAs, List.map_cons, Rows.uptoBulkAll]; omega⟩
    cases j with
    | succ j => simp at hj hy; exact k2 j i' y hj hy
    | zero =>
      simp at hj hy; subst hj hy
      refine ⟨h1, h2.trans h3, h6, fun k y hy => ?_⟩
      unfold World.cells? at hcs
      split at hcs
      · obtain ⟨hl, hg⟩ := mapM_get hcs
        have hk : k < cs.length := by have := (List.getElem?_eq_some_iff.1 hy).1; omega
        refine ⟨cs[k], ?_, (h4 k y _ hy (List.getElem?_eq_getElem hk)).2⟩
        exact hg k k _ (by rw [List.getElem?_range (by simp at hl; omega)]) (List.getElem?_eq_getElem hk)
      · cases hcs
theorem trod_read (hS : S.all (supT P S) = true) : ∀ (n : Nat), ∀ t ∈ S, ∀ cs (d : DataW H) ps, DataW.trod enc P w 0 sp true n t cs = some (d, ps) → ∃ x, RdA P w t cs d x
  | 0, t, ht, cs, d, ps, h => by simp [DataW.trod] at h
  | n + 1, t, ht, cs, d, ps, h => by
    have ih := trod_read hS n
    have hsup := List.all_eq_true.1 hS t ht
    unfold supT at hsup
    unfold DataW.trod at h
    cases hu : P.underlying t with
    | none => rw [hu] at hsup; cases hsup
    | some u =>
      rw [hu] at hsup h
      cases u <;> simp only at hsup <;> try (cases hsup; done)
      case bool =>
        rcases cs with _ | ⟨c, _ | ⟨c2, cs⟩⟩ <;> (try cases c) <;> simp at h
        obtain ⟨rfl, rfl⟩ := h
        exact ⟨_, .one (.bool hu _) rfl (by simpa using hsup) rfl (.bool _) (by simp [bulkA, Rows.uptoBulk]) rfl⟩
      case int k =>
        rcases cs with _ | ⟨c, _ | ⟨c2, cs⟩⟩ <;> (try cases c) <;> simp at h
        obtain ⟨⟨rfl, hw⟩, rfl, rfl⟩ := h
        exact ⟨_, .one (.int hu _ hw) rfl (by simpa using hsup) rfl (.int _ _) (by simp [bulkA, Rows.uptoBulk]) rfl⟩
      case string =>
        rcases cs with _ | ⟨c, _ | ⟨c2, cs⟩⟩ <;> (try cases c) <;> simp at h
        obtain ⟨_, rfl, rfl⟩ := h
        exact ⟨_, .one (.str hu _) rfl (by simpa using hsup) rfl (.str _) (by simp [bulkA, Rows.uptoBulk]) rfl⟩
      case slice e =>
        simp only [Bool.and_eq_true, decide_eq_true_eq, beq_iff_eq, List.contains_eq_mem] at hsup
        obtain ⟨⟨he, hpos⟩, h1t⟩ := hsup
        have he : e ∈ S := by simpa using he
        rcases cs with _ | ⟨c, _ | ⟨c2, cs⟩⟩ <;> (try cases c) <;> (try (simp at h; done))
        rename_i a len cap
        cases a with
        | none =>
          cases len <;> cases cap <;> simp at h
          obtain ⟨rfl, rfl⟩ := h
          exact ⟨.isl [] false, .one (.slice hu (by simp)) rfl h1t rfl (isl_VR (es := []) (b := 0) (p := 0) (s := 1) (by simp) (by omega) (.inl rfl) (fun hh => by cases hh) (Nat.zero_le _) (by simp [flat])) (by simp [bulkA, bulkAs, Rows.uptoBulk]) rfl⟩
        | some a =>
          simp only at h
          split at h
          · rename_i hb
            obtain ⟨elems, hel, h⟩ := Option.bind_eq_some_iff.1 h
            obtain ⟨rest, hrest, h⟩ := Option.map_eq_some_iff.1 h
            injection h with e1 e2; subst e1
            obtain ⟨es, k1, k2, k3⟩ := elems_read he ih (List.range len) elems (by simpa using hel)
            have hlen : es.length = len := by simpa using k1
            have hall : ∀ x ∈ es, ∃ j, es[j]? = some x ∧ (TyA P e x ∧ x.cells.length = P.cellsOf e ∧ x.clo = true ∧ ∀ (k : Nat) y, x.cells[k]? = some y → ∃ c, w.cell? ((a.add (j * P.cellsOf e)).add k) = some c ∧ VR (memGh w) y c) := fun x hx => by
              obtain ⟨j, hj, rfl⟩ := List.getElem_of_mem hx
              exact ⟨j, List.getElem?_eq_getElem hj, k2 j j _ (by rw [List.getElem?_range (by omega)]) (List.getElem?_eq_getElem hj)⟩
            have hsp : es = [] ∨ a = ⟨a.block, a.off, none⟩ := by
              cases hes : es with
              | nil => exact .inl rfl
              | cons x0 es' =>
                refine .inr ?_
                obtain ⟨_, h3, _, h4⟩ := k2 0 0 x0 (by rw [List.getElem?_range (by rw [← hlen, hes]; simp)]) (by rw [hes]; rfl)
                have hx0 : x0.cells[0]? = some (x0.cells[0]'(by omega)) := List.getElem?_eq_getElem (by omega)
                obtain ⟨c, hc, _⟩ := h4 0 _ hx0
                cases a with
                | mk b o s =>
                  cases s with
                  | none => rfl
                  | some v =>
                    exfalso
                    revert hc
                    simp only [World.cell?, Addr.add]
                    split <;> simp_all
            refine ⟨.isl es false, .one (.slice hu (fun x hx => (hall x hx).choose_spec.2.1)) rfl h1t rfl ?_ ?_ ?_⟩
            · rw [← hlen]
              refine isl_VR (b := a.block) (p := a.off) (s := P.cellsOf e) (fun x hx => ?_) hpos (hsp.imp id fun h => by rw [← h]) (fun hh => by cases hh) (by rw [hlen]; exact hb.2.1) fun i x hx => ?_
              · obtain ⟨j, _, _, h5, h6, _⟩ := hall x hx; exact ⟨h6, h5⟩
              · obtain ⟨j, k, x', hj, hk, rfl⟩ := flat_get (fun x hx => by obtain ⟨j, _, _, h5, _⟩ := hall x hx; exact h5) hpos hx
                obtain ⟨_, _, _, h7⟩ := k2 j j x' (by rw [List.getElem?_range (by have := (List.getElem?_eq_some_iff.1 hj).1; omega)]) hj
                obtain ⟨c, hc, hV⟩ := h7 k x hk
                refine ⟨c, ?_, hV⟩
                rcases hsp with hsp | hsp
                · rw [hsp] at hj; simp at hj
                · rw [hsp, addr_add, addr_add] at hc
                  simp only [memGh]; rw [← Nat.add_assoc]; exact hc
            · simp only [bulkA, Rows.uptoBulk]; omega
            · have : ∀ x ∈ es, x.clo = true := fun x hx => by obtain ⟨j, _, _, _, h6, _⟩ := hall x hx; exact h6
              rfl
          · cases h
      case struct fs =>
        simp only [Bool.and_eq_true, beq_iff_eq] at hsup
        obtain ⟨h1, h2⟩ := hsup
        have h : (if cs.length = P.cellsOf t then (fs.toList.mapM fun f => DataW.trod enc P w 0 sp true n f.type ((cs.drop f.offset).take (P.cellsOf f.type))).map fun xs => (DataW.agg (xs.map (·.1)), xs.flatMap (·.2)) else none) = some (d, ps) := by
          simpa only using h
        split at h
        · rename_i hlen
          obtain ⟨xs, hxs, e⟩ := Option.map_eq_some_iff.1 h
          injection e with e1 e2; subst e1
          obtain ⟨vs, k1, k2, k3, k4, k5, k6⟩ := fields_read ih fs.toList 0 _ xs (fun f hf => by have := List.all_eq_true.1 h1 f hf; simpa using this) h2 hxs
          refine ⟨.agg (flat vs), .struct hu k1 k2, by simp only [AV.cells]; omega, hlen, fun i y c hy hc => k4 i y c hy (by rw [Nat.zero_add]; exact hc), ?_, List.all_eq_true.2 k6⟩
          have := bulkAs_flat vs
          simp only [bulkA, Rows.uptoBulk]; omega
        · cases h
end
end Go.Mach
