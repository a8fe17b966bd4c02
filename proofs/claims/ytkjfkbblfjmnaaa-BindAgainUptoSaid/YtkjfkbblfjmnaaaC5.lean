import Derived.Test.YtkjfkbblfjmnaaaC4
import Derived.Test.YtkjfkbblfjmnaaaChecked
import Derived.Test.YtkjfkbblfjmnaaaC3
import Derived.KernelRfl
import Derived.WalkKit
import Derived.Lib.Bytealg
import Derived.BigFrameIn
import Derived.Laws.RangeAny
section
set_option linter.unusedVariables false
set_option linter.unusedSimpArgs false
set_option linter.unnecessarySimpa false
namespace Go.Proofs.Ytkjfkbblfjmnaaa
open Go.RowKit Go.Mach

set_option maxHeartbeats 1000000 in
/-- internal/bytealg.CompareString. -/
theorem cmp_calls (a b : ByteArray) (w : World) :
    Calls Try.prog 58 #[.string a, .string b] w fun e w' => e = .returned (.int .i64 (Lib.compareBytes a.data.toList b.data.toList)) ∧ w' = w := by
  go_enter Try.func58, Try.ntmps58
  go_wp2
  rw [run_callFunc_extern Try.func68 (by kernel_rfl) (by kernel_rfl) (by kernel_rfl) (e := Extern.BytealgCompare.compare) (by kernel_rfl), Lib.run_compareString]
  simp only [Result.andThen]
  rw [Oper.upon_value]
  go_wp2
  go_ret
  exact ⟨rfl, rfl⟩
def cmpP (args : List AV) (_ : Nat) (σ : Heap) : Option (AV × Heap) := match args with
  | [.str a, .str b] => some (.int .i64 (Lib.compareBytes a.data.toList b.data.toList), σ)
  | _ => none
theorem args1 {g : Gh} {x : AV} {cargs : Array Value} (hA : Args g [x] cargs) : ∃ c, cargs = #[c] ∧ VR g x c := by
  have h0 := hA.len
  match hcl : cargs.toList, (show cargs.toList.length = 1 by simpa using h0.symm) with
  | [c], _ => exact ⟨c, by rw [← Array.toArray_toList (xs := cargs), hcl], hA.val 0 _ c rfl (by rw [← Array.getElem?_toList, hcl]; rfl)⟩
theorem args2 {g : Gh} {x y : AV} {cargs : Array Value} (hA : Args g [x, y] cargs) : ∃ c d, cargs = #[c, d] ∧ VR g x c ∧ VR g y d := by
  have h0 := hA.len
  match hcl : cargs.toList, (show cargs.toList.length = 2 by simpa using h0.symm) with
  | [c, d], _ =>
    exact ⟨c, d, by rw [← Array.toArray_toList (xs := cargs), hcl], hA.val 0 _ c rfl (by rw [← Array.getElem?_toList, hcl]; rfl), hA.val 1 _ d rfl (by rw [← Array.getElem?_toList, hcl]; rfl)⟩
theorem cmp_ok : PrimOK Try.prog 58 cmpP := by
  intro args bs σ v σ' h hbs
  unfold cmpP at h
  split at h
  · rename_i a b
    injection h with h; injection h with e1 e2; subst e1 e2
    refine ⟨⟨_, Try.func58, by kernel_rfl, by kernel_rfl⟩, fun g ow w cargs hH hA => ?_⟩
    obtain ⟨c, d, rfl, hx, hy⟩ := args2 hA
    rw [hx.strv, hy.strv]
    refine (cmp_calls a b w).mono ?_
    rintro e w' ⟨rfl, rfl⟩
    exact ⟨_, g, ow, rfl, .int _ _, hH, .refl ..⟩
  · cases h
set_option maxHeartbeats 1000000 in
/-- slices.Grow of a nil slice of values. -/
theorem grow_calls (a : Option Addr) (n : Int) (h0 : 0 < n) (hn : n ≤ 1000000000) (w : World) :
    Calls Try.prog 90 #[.slice a 0 0, .int .i64 n] w fun e w' => ∃ c cv tag, e = .returned (.slice (some ⟨w.heap.size, 0, none⟩) 0 c) ∧
      w'.heap = w.heap.push (.cells cv tag (0, 0)) ∧ Same w w' ∧ c * 4 ≤ cv.size := by
  have hb : Try.t28.bytes = 56 := by rfl
  have hg : Builtin.nextslicecap n.toNat 0 = n.toNat := nextslicecap_zero (by omega)
  go_enter Try.func90, Try.ntmps90
  cases a
  all_goals (
    go_wp2
    all_goals first
      | (exfalso; simp only [hb, hg] at *; omega)
      | skip
    go_ret
    refine ⟨_, rfl, _, ⟨_, rfl⟩, ⟨rfl, rfl, rfl⟩, ?_⟩
    simp [Builtin.zeroCells, Question.cut]
    omega)
theorem grow_none (a : Option Addr) (w : World) :
    Calls Try.prog 90 #[.slice a 0 0, .int .i64 0] w fun e w' => e = .returned (.slice a 0 0) ∧ w' = w := by
  go_enter Try.func90, Try.ntmps90
  go_wp2
  go_ret
  exact ⟨rfl, rfl⟩
def growP (args : List AV) (_ : Nat) (σ : Heap) : Option (AV × Heap) := match args with
  | [.isl [] true, .int .i64 n] => if 0 < n ∧ n ≤ 1000000000 then some (.own σ.length [], σ ++ [.tok 0 4]) else if n = 0 then some (.isl [] true, σ) else none
  | _ => none
theorem grow_ok : PrimOK Try.prog 90 growP := by
  intro args bs σ v σ' h hbs
  unfold growP at h
  split at h
  · rename_i n
    refine ⟨⟨_, Try.func90, by kernel_rfl, by kernel_rfl⟩, fun g ow w cargs hH hA => ?_⟩
    obtain ⟨c, d, rfl, hx, hy⟩ := args2 hA
    have hy : d = .int .i64 n := by cases hy; rfl
    obtain ⟨ad, hc⟩ : ∃ ad, c = .slice ad 0 0 := by
      cases hx with
      | @isl _ _ ad c0 _ _ _ vs hc hs ha hcap hn hM hV => have := hcap rfl; simp at this; subst this; exact ⟨_, rfl⟩
    subst hc hy
    split at h
    · rename_i hn
      injection h with h; injection h with e1 e2; subst e1 e2
      refine (grow_calls ad n hn.1 hn.2 w).mono ?_
      rintro e w' ⟨c, cv, tag, rfl, hw, hs, hc⟩
      obtain ⟨hle, hH', hS⟩ := hH.tokNew (bs := bs) (n := 0) (s := 4) (c := c) hw hs (.inl ⟨rfl, rfl⟩) hc (Nat.zero_le _)
      refine ⟨_, _, _, rfl, own_VR (es := []) (s := 4) (by simp) (by omega) ?_ (Nat.zero_le _) (by simp [flat]), hH', hS⟩
      simp [Gh.tk]
    · split at h
      · rename_i h0; subst h0
        injection h with h; injection h with e1 e2; subst e1 e2
        refine (grow_none ad w).mono ?_
        rintro e w' ⟨rfl, rfl⟩
        exact ⟨_, g, ow, rfl, hx, hH, .refl ..⟩
      · cases h
  · cases h
theorem eq_nil {P : Program} {t e : TypeId} (ht : P.underlying t = some (.slice e)) (a : Option Addr) (c : Nat) (w : World) : Sem.run P (binOp .eql t (.slice a 0 c) (.slice none 0 0)) w = .ok (.bool a.isNone) w := by
  have heq : (Op.equal t (.slice a 0 c) (.slice none 0 0)).run P w = .ok a.isNone w := by
    have hd : ∀ d, (Op.equalIn (d + 1) t (.slice a 0 c) (.slice none 0 0)).run P w = .ok a.isNone w := fun d => by cases a <;> simp [Op.equalIn, run_und ht]
    exact hd 9999
  simp [binOp, heq]
set_option maxRecDepth 100000 in
set_option maxHeartbeats 1000000 in
theorem cloneV_nil (a : Option Addr) (c : Nat) (w : World) :
    Calls Try.prog 48 #[.slice a 0 c] w fun e w' => ∃ a', e = .returned (.slice a' 0 0) ∧ Same w w' ∧ w.heap.size ≤ w'.heap.size ∧ ∀ b, b < w.heap.size → w'.heap[b]? = w.heap[b]? := by
  go_enter Try.func48, Try.ntmps48
  have hu : Try.prog.underlying 23 = some (.slice 28) := by kernel_rfl
  cases a with
  | none =>
    have hb : ∀ w, Sem.run Try.prog (binOp .eql 23 (.slice none 0 c) (.slice none 0 0)) w = .ok (.bool true) w := fun w => eq_nil hu none c w
    go_wp2
    go_ret
    exact ⟨_, rfl, ⟨rfl, rfl, rfl⟩, Nat.le_refl _, fun _ _ => rfl⟩
  | some a =>
    have hb : ∀ w, Sem.run Try.prog (binOp .eql 23 (.slice (some a) 0 c) (.slice none 0 0)) w = .ok (.bool false) w := fun w => eq_nil hu (some a) c w
    go_wp2
    go_ret
    have hal : ∀ o, (w.alloc o).heap = w.heap.push o := fun _ => rfl
    exact ⟨_, rfl, ⟨rfl, rfl, rfl⟩, by rw [hal, Array.size_push]; exact Nat.le_succ _, fun b hb => by rw [hal, Array.getElem?_push, if_neg (Nat.ne_of_lt hb)]⟩
set_option maxRecDepth 100000 in
set_option maxHeartbeats 1000000 in
theorem cloneB_nil (a : Option Addr) (c : Nat) (w : World) :
    Calls Try.prog 36 #[.slice a 0 c] w fun e w' => ∃ a', e = .returned (.slice a' 0 0) ∧ Same w w' ∧ w.heap.size ≤ w'.heap.size ∧ ∀ b, b < w.heap.size → w'.heap[b]? = w.heap[b]? := by
  go_enter Try.func36, Try.ntmps36
  have hu : Try.prog.underlying 24 = some (.slice 43) := by kernel_rfl
  cases a with
  | none =>
    have hb : ∀ w, Sem.run Try.prog (binOp .eql 24 (.slice none 0 c) (.slice none 0 0)) w = .ok (.bool true) w := fun w => eq_nil hu none c w
    go_wp2
    go_ret
    exact ⟨_, rfl, ⟨rfl, rfl, rfl⟩, Nat.le_refl _, fun _ _ => rfl⟩
  | some a =>
    have hb : ∀ w, Sem.run Try.prog (binOp .eql 24 (.slice (some a) 0 c) (.slice none 0 0)) w = .ok (.bool false) w := fun w => eq_nil hu (some a) c w
    go_wp2
    go_ret
    have hal : ∀ o, (w.alloc o).heap = w.heap.push o := fun _ => rfl
    exact ⟨_, rfl, ⟨rfl, rfl, rfl⟩, by rw [hal, Array.size_push]; exact Nat.le_succ _, fun b hb => by rw [hal, Array.getElem?_push, if_neg (Nat.ne_of_lt hb)]⟩
end Go.Proofs.Ytkjfkbblfjmnaaa
end
section
set_option linter.unusedVariables false
set_option linter.unusedSimpArgs false
set_option linter.unnecessarySimpa false
namespace Go.Proofs.Ytkjfkbblfjmnaaa
open Go.RowKit Go.Mach

/-! ### slices.Clone -/
def TV : Tab := ⟨fun f => if f = 48 then some x48 else none, fun _ => none⟩
theorem TV_ok : TabOK Try.prog TV where
  mixed := by kernel_rfl
  fn f af h := by
    simp only [TV] at h
    split at h
    · rename_i e; injection h with h; subst h e; exact ⟨_, _, Try.func48, kx48⟩
    · cases h
  pr f p h := by cases h
theorem cloneV_run (es : List AV) (c : Bool) (bs : Nat) (σ : Heap) (hne : es ≠ []) (hf : (flat es).length = es.length * 4) (hl : es.length ≤ 10000000000) :
    evalFn TV 3 48 [.isl es c] bs σ = some (.sl (σ.length + 1) 0 es.length 4 true, σ ++ [.cells [] 0 false, .cells (flat es) 0 true]) := by
  have hnn : notNil (.isl es c) = true := by cases es with
    | nil => exact absurd rfl hne
    | cons x l => rfl
  have he0 : elemsA (σ ++ [.cells [] 0 false]) 4 true (.sl σ.length 0 0 4 true) = some [] := by
    simp [elemsA, window, chunk]
  have he1 : elemsN (σ ++ [.cells [] 0 false]) 4 true (.isl es c) = some es := rfl
  have hap : appendA (σ ++ [.cells [] 0 false]) 4 true 56 true (.sl σ.length 0 0 4 true) (.isl es c) = some (.sl (σ.length + 1) 0 es.length 4 true, σ ++ [.cells [] 0 false, .cells (flat es) 0 true]) := by
    have h1 : ¬ ((4 : Nat) = 0 ∨ (0 + es.length) * 56 > 70368744177664 ∨ 0 + es.length > 70368744177664) := by omega
    simp only [appendA, he0, he1, Option.bind_some, isSl, if_neg hne, List.length_nil, if_neg h1]
    simp [hf]
    simp [flat]
  simp [evalFn, TV, x48, exec, runOps, startA, stepAll, stepOp, ev, hnn, onNormal, finA, resA, res1, closeRes, closeArgs, dropA, baseA, guardA, chkO, setDst, fillA, hap]
def cloneVP (args : List AV) (bs : Nat) (σ : Heap) : Option (AV × Heap) := match args with
  | [.isl es c] => if es = [] then some (.isl [] true, σ) else if (flat es).length = es.length * 4 ∧ es.length ≤ 10000000000 then some (.sl (σ.length + 1) 0 es.length 4 true, σ ++ [.cells [] 0 false, .cells (flat es) 0 true]) else none
  | _ => none
theorem cloneV_ok : PrimOK Try.prog 48 cloneVP := by
  intro args bs σ v σ' h hbs
  unfold cloneVP at h
  split at h
  · rename_i es c
    split at h
    · rename_i he; subst he
      injection h with h; injection h with e1 e2; subst e1 e2
      refine ⟨⟨_, Try.func48, by kernel_rfl, by kernel_rfl⟩, fun g ow w cargs hH hA => ?_⟩
      obtain ⟨cc, rfl, hx⟩ := args1 hA
      obtain ⟨ad, cap, rfl⟩ : ∃ ad cap, cc = .slice ad 0 cap := by
        cases hx with
        | @isl _ _ ad c0 _ _ _ vs hc hs ha hcap hn hM hV => exact ⟨_, _, rfl⟩
      refine (cloneV_nil ad cap w).mono ?_
      rintro e w' ⟨a', rfl, hs, hsz, hheap⟩
      obtain ⟨h1, h2⟩ := hH.more (bs := bs) hsz hheap hs.os hs.tape hs.output
      exact ⟨_, g, ow, rfl, isl_VR (es := []) (b := 0) (p := 0) (s := 1) (a := a') (c := 0) (by simp) (by omega) (.inl rfl) (fun _ => rfl) (Nat.zero_le _) (by simp [flat]), h1, h2⟩
    · rename_i hne
      split at h
      · rename_i hc
        injection h with h; injection h with e1 e2; subst e1 e2
        exact eval_sound TV_ok 3 _ _ _ _ _ _ (cloneV_run es c bs σ hne hc.1 hc.2) hbs
      · cases h
  · cases h
def TB : Tab := ⟨fun f => if f = 36 then some x36 else none, fun _ => none⟩
theorem TB_ok : TabOK Try.prog TB where
  mixed := by kernel_rfl
  fn f af h := by
    simp only [TB] at h
    split at h
    · rename_i e; injection h with h; subst h e; exact ⟨_, _, Try.func36, kx36⟩
    · cases h
  pr f p h := by cases h
theorem cloneB_run (es : List AV) (c : Bool) (bs : Nat) (σ : Heap) (hne : es ≠ []) (hf : (flat es).length = es.length * 5) (hl : es.length ≤ 10000000000) :
    evalFn TB 3 36 [.isl es c] bs σ = some (.sl (σ.length + 1) 0 es.length 5 true, σ ++ [.cells [] 0 false, .cells (flat es) 0 true]) := by
  have hnn : notNil (.isl es c) = true := by cases es with
    | nil => exact absurd rfl hne
    | cons x l => rfl
  have he0 : elemsA (σ ++ [.cells [] 0 false]) 5 true (.sl σ.length 0 0 5 true) = some [] := by
    simp [elemsA, window, chunk]
  have he1 : elemsN (σ ++ [.cells [] 0 false]) 5 true (.isl es c) = some es := rfl
  have hap : appendA (σ ++ [.cells [] 0 false]) 5 true 72 true (.sl σ.length 0 0 5 true) (.isl es c) = some (.sl (σ.length + 1) 0 es.length 5 true, σ ++ [.cells [] 0 false, .cells (flat es) 0 true]) := by
    have h1 : ¬ ((5 : Nat) = 0 ∨ (0 + es.length) * 72 > 70368744177664 ∨ 0 + es.length > 70368744177664) := by omega
    simp only [appendA, he0, he1, Option.bind_some, isSl, if_neg hne, List.length_nil, if_neg h1]
    simp [hf]
    simp [flat]
  simp [evalFn, TB, x36, exec, runOps, startA, stepAll, stepOp, ev, hnn, onNormal, finA, resA, res1, closeRes, closeArgs, dropA, baseA, guardA, chkO, setDst, fillA, hap]
def cloneBP (args : List AV) (bs : Nat) (σ : Heap) : Option (AV × Heap) := match args with
  | [.isl es c] => if es = [] then some (.isl [] true, σ) else if (flat es).length = es.length * 5 ∧ es.length ≤ 10000000000 then some (.sl (σ.length + 1) 0 es.length 5 true, σ ++ [.cells [] 0 false, .cells (flat es) 0 true]) else none
  | _ => none
theorem cloneB_ok : PrimOK Try.prog 36 cloneBP := by
  intro args bs σ v σ' h hbs
  unfold cloneBP at h
  split at h
  · rename_i es c
    split at h
    · rename_i he; subst he
      injection h with h; injection h with e1 e2; subst e1 e2
      refine ⟨⟨_, Try.func36, by kernel_rfl, by kernel_rfl⟩, fun g ow w cargs hH hA => ?_⟩
      obtain ⟨cc, rfl, hx⟩ := args1 hA
      obtain ⟨ad, cap, rfl⟩ : ∃ ad cap, cc = .slice ad 0 cap := by
        cases hx with
        | @isl _ _ ad c0 _ _ _ vs hc hs ha hcap hn hM hV => exact ⟨_, _, rfl⟩
      refine (cloneB_nil ad cap w).mono ?_
      rintro e w' ⟨a', rfl, hs, hsz, hheap⟩
      obtain ⟨h1, h2⟩ := hH.more (bs := bs) hsz hheap hs.os hs.tape hs.output
      exact ⟨_, g, ow, rfl, isl_VR (es := []) (b := 0) (p := 0) (s := 1) (a := a') (c := 0) (by simp) (by omega) (.inl rfl) (fun _ => rfl) (Nat.zero_le _) (by simp [flat]), h1, h2⟩
    · rename_i hne
      split at h
      · rename_i hc
        injection h with h; injection h with e1 e2; subst e1 e2
        exact eval_sound TB_ok 3 _ _ _ _ _ _ (cloneB_run es c bs σ hne hc.1 hc.2) hbs
      · cases h
  · cases h
end Go.Proofs.Ytkjfkbblfjmnaaa
end
section
set_option linter.unusedVariables false
set_option linter.unusedSimpArgs false
set_option linter.unnecessarySimpa false
namespace Go.Proofs.Ytkjfkbblfjmnaaa
open Go.Mach

/-! ### The table -/
def prims : List (Nat × (List AV → Nat → Heap → Option (AV × Heap))) := [
  (58, cmpP),
  (90, growP),
  (48, cloneVP),
  (36, cloneBP),
  (1000000, fun _ _ _ => none)]
def T : Tab := ⟨fun f => (fns.find? (·.1 == f)).map (·.2), fun f => (prims.find? (·.1 == f)).map (·.2)⟩
theorem prims_ok : ∀ p ∈ prims, PrimOK Try.prog p.1 p.2 := by
  simp only [prims, List.forall_mem_cons]
  exact ⟨
    cmp_ok,
    grow_ok,
    cloneV_ok,
    cloneB_ok,
    (fun _ _ _ _ _ h => by cases h), fun _ h => by cases h⟩
theorem T_ok : TabOK Try.prog T where
  mixed := by kernel_rfl
  fn f af h := by
    obtain ⟨p, hp, rfl⟩ := Option.map_eq_some_iff.1 h
    have h1 := List.find?_some hp
    have h2 := fns_ok p (List.mem_of_find?_eq_some hp)
    have : p.1 = f := by simpa using h1
    rw [← this]; exact h2
  pr f p h := by
    obtain ⟨q, hq, rfl⟩ := Option.map_eq_some_iff.1 h
    have h1 := List.find?_some hq
    have h2 := prims_ok q (List.mem_of_find?_eq_some hq)
    have : q.1 = f := by simpa using h1
    rw [← this]; exact h2
end Go.Proofs.Ytkjfkbblfjmnaaa
end
section
set_option linter.unusedVariables false
set_option linter.unusedSimpArgs false
namespace Go.Mach

/-! ### Values of the language of rules -/
inductive GV where
  | mk (kind num : Int) (text : ByteArray) (items : List GV)
  deriving Inhabited
namespace GV
abbrev kind : GV → Int | .mk k _ _ _ => k
abbrev num : GV → Int | .mk _ n _ _ => n
abbrev text : GV → ByteArray | .mk _ _ t _ => t
abbrev items : GV → List GV | .mk _ _ _ l => l
mutual
def enc : GV → AV
  | .mk k n t l => .agg [.int .i64 k, .int .i64 n, .str t, .isl (encs l) false]
def encs : List GV → List AV
  | [] => []
  | v :: l => enc v :: encs l
end
theorem encs_map : ∀ l : List GV, encs l = l.map enc
  | [] => rfl
  | v :: l => by simp only [encs, List.map_cons, encs_map l]
@[simp] theorem encs_length (l : List GV) : (encs l).length = l.length := by simp [encs_map]
@[simp] theorem encs_get (l : List GV) (i : Nat) : (encs l)[i]? = l[i]?.map enc := by simp [encs_map]
@[simp] theorem encs_getE (l : List GV) (i : Nat) (h : i < (encs l).length) : (encs l)[i] = (l[i]'(by simpa using h)).enc := by simp [encs_map]
theorem enc_eq (v : GV) : v.enc = .agg [.int .i64 v.kind, .int .i64 v.num, .str v.text, .isl (encs v.items) false] := by cases v; simp only [enc, kind, num, text, items]
@[simp] theorem enc_fold (v : GV) : AV.agg [.int .i64 v.kind, .int .i64 v.num, .str v.text, .isl (encs v.items) false] = v.enc := (enc_eq v).symm
@[simp] theorem enc_cells (v : GV) : v.enc.cells = [.int .i64 v.kind, .int .i64 v.num, .str v.text, .isl (encs v.items) false] := by rw [enc_eq]; rfl
@[simp] theorem enc_solid (v : GV) : v.enc.solid = true := by rw [enc_eq]; rfl
@[simp] theorem enc_clean (v : GV) : v.enc.clean = true := by rw [enc_eq]; rfl
@[simp] theorem enc_closeA (σ : Heap) (v : GV) : closeA σ v.enc = some (v.enc, σ) := (clean_close (by simp)).1
@[simp] theorem enc_closeR (σ : Heap) (v : GV) : closeR σ v.enc = some (v.enc, σ) := by rw [enc_eq]; rfl
@[simp] theorem enc_datR (v : GV) : v.enc.datR = true := by rw [enc_eq]; rfl
@[simp] theorem enc_dat1 (v : GV) : v.enc.clo1 = false := by rw [enc_eq]; rfl
@[simp] theorem enc_dat (v : GV) : v.enc.dat = true := by rw [enc_eq]; rfl
@[simp] theorem enc_clo (v : GV) : v.enc.clo = true := by rw [enc_eq]; rfl
/-- Numbers in range, all the way down. -/
def i64ok (n : Int) : Prop := -9223372036854775808 ≤ n ∧ n ≤ 9223372036854775807
mutual
def ok : GV → Prop
  | .mk k n _ l => i64ok k ∧ i64ok n ∧ oks l
def oks : List GV → Prop
  | [] => True
  | v :: l => ok v ∧ oks l
end
theorem oks_iff : ∀ l : List GV, oks l ↔ ∀ v ∈ l, ok v
  | [] => by simp [oks]
  | v :: l => by simp [oks, oks_iff l]
mutual
def size : GV → Nat
  | .mk _ _ t l => t.size + sizes l + 5
def sizes : List GV → Nat
  | [] => 0
  | v :: l => size v + sizes l
end
mutual
theorem bulk_enc : ∀ v : GV, bulkA v.enc = v.size
  | .mk k n t l => by
    have h := bulk_encs l
    simp only [enc, bulkA, bulkAs, size, h]; omega
theorem bulk_encs : ∀ l : List GV, bulkAs (encs l) = sizes l
  | [] => by simp [encs, bulkAs, sizes]
  | v :: l => by
    have h1 := bulk_enc v
    have h2 := bulk_encs l
    simp only [encs, bulkAs, sizes, h1, h2]
end
end GV
/-- The type of values, in the program's table. -/
structure IsV (P : Program) (tV tL tI tS : TypeId) : Prop where
  fs : ∃ fs : Array Field, P.underlying tV = some (.struct fs) ∧ fs.toList.map (·.type) = [tI, tI, tS, tL]
  int : P.underlying tI = some (.int .i64)
  str : P.underlying tS = some .string
  list : P.underlying tL = some (.slice tV)
theorem field_ty {P : Program} {fs : Array Field} {ts : List TypeId} (h : fs.toList.map (·.type) = ts) {vs : List AV} (hv : ∀ (i : Nat) f x, fs.toList[i]? = some f → vs[i]? = some x → TyA P f.type x) {i : Nat} {t : TypeId} {x : AV} (ht : ts[i]? = some t) (hx : vs[i]? = some x) : TyA P t x := by
  rw [← h, List.getElem?_map] at ht
  obtain ⟨f, hf, rfl⟩ := Option.map_eq_some_iff.1 ht
  exact hv i f x hf hx
theorem TyA.asValue {P : Program} {tV tL tI tS : TypeId} (hV : IsV P tV tL tI tS) {t : TypeId} {x : AV} (h : TyA P t x) : (t = tV → ∃ v : GV, x = v.enc ∧ v.ok) ∧ (t = tL → ∃ l : List GV, x = .isl (GV.encs l) false ∧ GV.oks l) := by
  have e1 : IntKind.i64.min = -9223372036854775808 := by decide
  have e2 : IntKind.i64.max = 9223372036854775807 := by decide
  obtain ⟨fs0, hf0, hts⟩ := hV.fs
  induction h with
  | bool hu b => exact ⟨fun e => (by subst e; rw [hf0] at hu; cases hu), fun e => by subst e; rw [hV.list] at hu; cases hu⟩
  | int hu n hn => exact ⟨fun e => (by subst e; rw [hf0] at hu; cases hu), fun e => by subst e; rw [hV.list] at hu; cases hu⟩
  | str hu s => exact ⟨fun e => (by subst e; rw [hf0] at hu; cases hu), fun e => by subst e; rw [hV.list] at hu; cases hu⟩
  | @slice t e es hu hes ih =>
    refine ⟨fun e' => (by subst e'; rw [hf0] at hu; cases hu), fun e' => ?_⟩
    subst e'; rw [hV.list] at hu; injection hu with hu; injection hu with hu; subst hu
    have : ∀ l : List AV, (∀ y ∈ l, ∃ v : GV, y = v.enc ∧ v.ok) → ∃ l' : List GV, l = GV.encs l' ∧ GV.oks l' := by
      intro l
      induction l with
      | nil => intro _; exact ⟨[], rfl, trivial⟩
      | cons y l ihl =>
        intro h
        obtain ⟨v, rfl, hv⟩ := h y (by simp)
        obtain ⟨l', rfl, hl'⟩ := ihl fun z hz => h z (by simp [hz])
        exact ⟨v :: l', rfl, hv, hl'⟩
    obtain ⟨l', rfl, hl'⟩ := this es fun y hy => (ih y hy).1 rfl
    exact ⟨l', rfl, hl'⟩
  | @struct t fs vs hu hl hv ih =>
    refine ⟨fun e' => ?_, fun e' => by subst e'; rw [hV.list] at hu; cases hu⟩
    subst e'; rw [hf0] at hu; injection hu with hu; injection hu with hu; subst hu
    have hlen : vs.length = 4 := by rw [hl, ← List.length_map (f := (·.type)), hts]; rfl
    match vs, hlen with
    | [x0, x1, x2, x3], _ =>
      obtain ⟨k, rfl, k1, k2⟩ := (field_ty hts hv (i := 0) rfl rfl).asInt hV.int
      obtain ⟨n, rfl, n1, n2⟩ := (field_ty hts hv (i := 1) rfl rfl).asInt hV.int
      obtain ⟨s, rfl⟩ := (field_ty hts hv (i := 2) rfl rfl).asStr hV.str
      have h3 : fs0.toList[3]?.map (·.type) = some tL := by rw [← List.getElem?_map, hts]; rfl
      obtain ⟨f3, hf3, hft⟩ := Option.map_eq_some_iff.1 h3
      obtain ⟨l, rfl, hok⟩ := (ih 3 f3 x3 hf3 rfl).2 hft
      rw [e1] at k1 n1; rw [e2] at k2 n2
      refine ⟨.mk k n s l, by simp [GV.enc, flat], ⟨⟨k1, k2⟩, ⟨n1, n2⟩, hok⟩⟩
end Go.Mach
end
section
set_option linter.unusedVariables false
set_option linter.unusedSimpArgs false
namespace Go.Mach
@[simp] theorem hp_get0 (σ l : List AObj) : (σ ++ l)[σ.length]? = l[0]? := by rw [List.getElem?_append_right (Nat.le_refl _)]; simp
@[simp] theorem hp_get (σ l : List AObj) (k : Nat) : (σ ++ l)[σ.length + k]? = l[k]? := by rw [List.getElem?_append_right (by omega)]; simp
@[simp] theorem hp_set0 (σ l : List AObj) (x : AObj) : (σ ++ l).set σ.length x = σ ++ l.set 0 x := by rw [List.set_append_right _ _ (Nat.le_refl _)]; simp
@[simp] theorem hp_set (σ l : List AObj) (k : Nat) (x : AObj) : (σ ++ l).set (σ.length + k) x = σ ++ l.set k x := by rw [List.set_append_right _ _ (by omega)]; simp
end Go.Mach
namespace Go.Proofs.Ytkjfkbblfjmnaaa
open Go.Mach

/-! ### Which of two values comes first -/
def cmpI (a b : Int) : Int := if a < b then -1 else if b < a then 1 else 0
mutual
def cmpV : GV → GV → Int
  | .mk k n t l, b => if cmpI k b.kind ≠ 0 then cmpI k b.kind else if k = 1 then cmpI n b.num else if k = 2 ∨ k = 3 then Lib.compareBytes t.data.toList b.text.data.toList else if k = 4 then cmpVs l b.items else 0
def cmpVs : List GV → List GV → Int
  | [], [] => 0
  | [], _ :: _ => -1
  | _ :: _, [] => 1
  | x :: xs, y :: ys => if cmpV x y ≠ 0 then cmpV x y else cmpVs xs ys
end
theorem cmp68 (a b : Int) : pureT T c40 [.int .i64 a, .int .i64 b] = some (.int .i64 (cmpI a b)) := by
  have h76 : ∀ (n : Int) bs σ, callT T 57 [.int .i64 n] bs σ = some (.bool false, σ) := fun n bs σ => call_clean rfl rfl rfl rfl (by
    apply pure_enter (by simp [c57])
    simp [c57])
  apply pure_enter (by simp [c40])
  by_cases h1 : a < b
  · simp [c40, h76, h1, cmpI]
  · by_cases h2 : b < a
    · simp [c40, h76, h1, h2, cmpI]
    · simp [c40, h76, h1, h2, cmpI]
theorem call68 (a b : Int) (bs : Nat) (σ : Heap) : callT T 40 [.int .i64 a, .int .i64 b] bs σ = some (.int .i64 (cmpI a b), σ) := call_clean rfl rfl rfl rfl (cmp68 a b)
theorem call73 (a b : ByteArray) (bs : Nat) (σ : Heap) : callT T 58 [.str a, .str b] bs σ = some (.int .i64 (Lib.compareBytes a.data.toList b.data.toList), σ) := callT_pr (p := cmpP) _ _ _ rfl _
theorem call56 (a b : ByteArray) (bs : Nat) (σ : Heap) : callT T 41 [.str a, .str b] bs σ = some (.int .i64 (Lib.compareBytes a.data.toList b.data.toList), σ) := call_clean rfl rfl rfl rfl (by
  apply pure_enter (by simp [c41])
  simp [c41, call73])
theorem cmpVs_nil (l : List GV) : cmpVs [] l = if l = [] then 0 else -1 := by cases l <;> simp [cmpVs]
theorem cmpVs_nil2 (l : List GV) (h : l ≠ []) : cmpVs l [] = 1 := by cases l with
  | nil => exact absurd rfl h
  | cons x l => rfl
theorem cmpFunc (l l2 : List GV) (hn : l.length ≤ 100000000000) (h : ∀ x ∈ l, ∀ y ∈ l2, ∀ bs σ, callT T 21 [x.enc, y.enc] bs σ = some (.int .i64 (cmpV x y), σ)) :
    pureT T c42 [.isl (GV.encs l) false, .isl (GV.encs l2) false, .func 21 []] = some (.int .i64 (cmpVs l l2)) := by
  apply pure_enter (by simp [c42])
  simp [c42]
  refine W_upto T 0 39 l.length (fun i f σ => f 11 = .isl (GV.encs l) false ∧ f 12 = .int .i64 (l.length : Int) ∧ f 13 = .int .i64 (i : Int) ∧ f 0 = .isl (GV.encs l) false ∧ f 1 = .isl (GV.encs l2) false ∧ f 2 = .func 21 [] ∧ i ≤ l2.length ∧ cmpVs l l2 = cmpVs (l.drop i) (l2.drop i)) ?_ _ _ ?_
  · rintro i f σ Q' hi ⟨h11, h12, h13, h0, h1, h2, hi2, hcmp⟩ hnx hx
    by_cases hlt : i < l.length
    · by_cases hlt2 : i < l2.length
      · have e1 : l[i]? = some l[i] := List.getElem?_eq_getElem hlt
        have e2 : l2[i]? = some l2[i] := List.getElem?_eq_getElem hlt2
        have hc := h l[i] (List.getElem_mem hlt) l2[i] (List.getElem_mem hlt2)
        have hd : l.drop i = l[i] :: l.drop (i + 1) := (List.drop_eq_getElem_cons hlt)
        have hd2 : l2.drop i = l2[i] :: l2.drop (i + 1) := (List.drop_eq_getElem_cons hlt2)
        by_cases hz : cmpV l[i] l2[i] = 0
        · simp [h11, h12, h13, h0, h1, h2, hlt, hlt2, Nat.not_le.2 hlt2, hc, hz]
          refine hnx _ _ hlt ⟨by simp [h11], by simp [h12], ?_, by simp [h0], by simp [h1], by simp [h2], hlt2, ?_⟩
          · simp; rw [wr64 (by omega) (by omega)]
          · rw [hcmp, hd, hd2, cmpVs]; simp [hz]
        · simp [h11, h12, h13, h0, h1, h2, hlt, hlt2, Nat.not_le.2 hlt2, hc, hz]
          refine hx _ _ _ (by simp) (contQ_ret T 0 39 ?_)
          rw [hcmp, hd, hd2, cmpVs]; simp [hz]
      · have e1 : l[i]? = some l[i] := List.getElem?_eq_getElem hlt
        have hd : l.drop i = l[i] :: l.drop (i + 1) := (List.drop_eq_getElem_cons hlt)
        have hd2 : l2.drop i = [] := List.drop_eq_nil_of_le (by omega)
        simp [h11, h12, h13, h0, h1, h2, hlt, Nat.not_lt.1 hlt2]
        refine hx _ _ _ (by simp) (contQ_ret T 0 39 ?_)
        rw [hcmp, hd, hd2, cmpVs]; simp
    · have he : i = l.length := by omega
      subst he
      simp [h12, h13]
      refine hx _ _ _ (by simp) (contQ_exit T 0 39 ?_)
      have hd : l.drop l.length = [] := List.drop_length
      rw [hcmp, hd, cmpVs_nil]
      by_cases hlt2 : l.length < l2.length
      · have hne : l2.drop l.length ≠ [] := by simp; omega
        simp [h0, h1, hlt2, hne]
      · have hne : l2.drop l.length = [] := by simp; omega
        simp [h0, h1, hlt2, hne]
  · simp
theorem sizes_mem {l : List GV} {x : GV} (h : x ∈ l) : x.size + 5 ≤ GV.sizes l + 5 ∧ l.length ≤ GV.sizes l := by
  induction l with
  | nil => cases h
  | cons y l ih =>
    have hy : 5 ≤ y.size := by cases y; simp [GV.size]
    rcases List.mem_cons.1 h with rfl | h
    · refine ⟨by simp [GV.sizes], ?_⟩
      have : ∀ l : List GV, l.length ≤ GV.sizes l := fun l => by
        induction l with
        | nil => simp [GV.sizes]
        | cons z l ih => have : 5 ≤ z.size := (by cases z; simp [GV.size]); simp [GV.sizes]; omega
      have := this l
      simp [GV.sizes]; omega
    · obtain ⟨h1, h2⟩ := ih h
      simp [GV.sizes]; omega
theorem len_sizes (l : List GV) : l.length ≤ GV.sizes l := by
  cases l with
  | nil => simp
  | cons x l => exact (sizes_mem (List.mem_cons_self (a := x) (l := l))).2
theorem cmp58 : ∀ (n : Nat) (a b : GV), a.size ≤ n → n ≤ 100000000000 → pureT T c21 [a.enc, b.enc] = some (.int .i64 (cmpV a b)) := by
  intro n
  induction n with
  | zero => intro a b h; cases a; simp [GV.size] at h
  | succ n ih =>
    intro a b hs hn
    obtain ⟨k, num, t, l⟩ := a
    obtain ⟨k2, num2, t2, l2⟩ := b
    have hl : GV.sizes l ≤ n := by simp [GV.size] at hs; omega
    have hcall : ∀ x ∈ l, ∀ y ∈ l2, ∀ bs σ, callT T 21 [x.enc, y.enc] bs σ = some (.int .i64 (cmpV x y), σ) := fun x hx y _ bs σ =>
      call_clean rfl rfl rfl (by simp) (ih x y (by have := (sizes_mem hx).1; omega) (by omega))
    have hf : ∀ bs σ, callT T 42 [.isl (GV.encs l) false, .isl (GV.encs l2) false, .func 21 []] bs σ = some (.int .i64 (cmpVs l l2), σ) := fun bs σ =>
      call_clean rfl rfl rfl rfl (cmpFunc l l2 (by have := len_sizes l; omega) hcall)
    apply pure_enter (by simp [c21])
    by_cases h0 : cmpI k k2 = 0
    · by_cases h1 : k = 1
      · subst h1; simp [c21, GV.enc_eq, GV.kind, GV.num, GV.text, GV.items, call68, h0, cmpV]
      · by_cases h2 : k = 2
        · subst h2; simp [c21, GV.enc_eq, GV.kind, GV.num, GV.text, GV.items, call68, call56, h0, cmpV]
        · by_cases h3 : k = 3
          · subst h3; simp [c21, GV.enc_eq, GV.kind, GV.num, GV.text, GV.items, call68, call56, h0, cmpV]
          · by_cases h4 : k = 4
            · subst h4; simp [c21, GV.enc_eq, GV.kind, GV.num, GV.text, GV.items, call68, hf, h0, cmpV]
            · simp [c21, GV.enc_eq, GV.kind, GV.num, GV.text, GV.items, call68, h0, h1, h2, h3, h4, cmpV]
    · simp [c21, GV.enc_eq, GV.kind, GV.num, GV.text, GV.items, call68, h0, cmpV]
end Go.Proofs.Ytkjfkbblfjmnaaa
end
section
set_option linter.unusedVariables false
set_option linter.unusedSimpArgs false
set_option linter.unnecessarySimpa false
namespace Go.Proofs.Ytkjfkbblfjmnaaa
open Go.Mach

/-! ### Which values may be -/
def plainB (c : Nat) : Bool := decide (32 ≤ c) && decide (c ≤ 126) && !decide (c = 34) && !decide (c = 92)
def textOK (t : ByteArray) : Bool := t.data.toList.all (fun c => plainB c.toNat) && decide (t.size ≤ 32)
def letterB (c : Nat) : Bool := decide (97 ≤ c) && decide (c ≤ 122)
def innerB (c : Nat) : Bool := letterB c || decide (c = 95) || (decide (48 ≤ c) && decide (c ≤ 57))
def nameL : List UInt8 → Bool
  | [] => false
  | c :: l => letterB c.toNat && l.all (fun c => innerB c.toNat)
def nameOK (t : ByteArray) : Bool := nameL t.data.toList && decide (t.size ≤ 16)
def rightB (v : GV) (lst : Bool) : Bool :=
  if v.kind = 1 then decide (v.text = ⟨#[]⟩ ∧ v.items = [] ∧ v.num ≤ 2147483647 ∧ -2147483647 ≤ v.num)
  else if v.kind = 2 then decide (v.num = 0 ∧ v.items = [] ∧ textOK v.text = true)
  else if v.kind = 3 then decide (v.num = 0 ∧ v.items = [] ∧ nameOK v.text = true)
  else if v.kind = 4 then decide (v.num = 0 ∧ v.text = ⟨#[]⟩ ∧ lst = true)
  else false
def rightV : Nat → GV → Bool
  | 0, v => rightB v false
  | d + 1, v => rightB v (decide (v.items.length ≤ 16 ∧ v.items.all (rightV d) = true))

/-- A text's byte. -/
def bt (s : ByteArray) (i : Nat) : Nat := ((s.data.toList[i]?).getD 0).toNat
theorem bt_eq {s : ByteArray} {i : Nat} (h : i < s.size) : bt s i = (s.data.toList[i]'(by simpa using h)).toNat := by
  simp only [bt]; rw [List.getElem?_eq_getElem (by simpa using h)]; rfl
theorem bt_eq2 {s : ByteArray} {i : Nat} (h : i < s.size) : (s.data[i]'h).toNat = bt s i := by rw [bt_eq h]; simp
theorem bt_lt (s : ByteArray) (i : Nat) : bt s i < 256 := by simp only [bt]; exact UInt8.toNat_lt _
theorem bt_get {s : ByteArray} {i : Nat} (h : i < s.size) : ∃ b : UInt8, s.data.toList[i]? = some b ∧ b.toNat = bt s i := ⟨_, List.getElem?_eq_getElem (by simpa using h), (bt_eq h).symm⟩
theorem idx_bt {s : ByteArray} {i : Nat} (h : i < s.size) : (s.data.toList[i]?).map (fun b => (AV.int .u8 (b.toNat : Int))) = some (.int .u8 (bt s i)) := by
  obtain ⟨b, h1, h2⟩ := bt_get h; rw [h1, ← h2]; rfl
theorem all_bt (s : ByteArray) (p : Nat → Bool) : s.data.toList.all (fun c => p c.toNat) = true ↔ ∀ i, i < s.size → p (bt s i) = true := by
  rw [List.all_eq_true]
  constructor
  · intro h i hi
    rw [bt_eq hi]; exact h _ (List.getElem_mem _)
  · intro h c hc
    obtain ⟨i, hi, rfl⟩ := List.getElem_of_mem hc
    have hi' : i < s.size := by simpa using hi
    have := h i hi'
    rwa [bt_eq hi'] at this
theorem ba_empty (t : ByteArray) : t = ByteArray.empty ↔ t.size = 0 := ⟨fun h => by rw [h]; rfl, fun h => ByteArray.ext (Array.eq_empty_of_size_eq_zero h)⟩
theorem ba_nil (t : ByteArray) : t = ⟨#[]⟩ ↔ t.size = 0 := ⟨fun h => by rw [h]; rfl, fun h => ByteArray.ext (Array.eq_empty_of_size_eq_zero h)⟩
theorem ba_get {s : ByteArray} {i : Nat} (h : i < s.size) : s[i]'h = s.data.toList[i]'(by simpa using h) := by
  cases s; rfl
theorem dec_lo {s : ByteArray} {i : Nat} (h : i < s.size) (ha : bt s i < 128) : Utf8.decode s i = (bt s i, 1) := by
  rw [bt_eq h] at ha ⊢
  have := decode_ascii s i h (by rw [ba_get h]; exact ha)
  rw [this, ba_get h]
theorem dec_hi {s : ByteArray} {i : Nat} (h : i < s.size) (ha : 128 ≤ bt s i) : 128 ≤ (Utf8.decode s i).1 := by
  rw [bt_eq h] at ha
  exact (decode_high s i h (by rw [ba_get h]; exact ha)).1
theorem textOK_iff (t : ByteArray) : textOK t = true ↔ (∀ i, i < t.size → plainB (bt t i) = true) ∧ t.size ≤ 32 := by
  rw [textOK, Bool.and_eq_true, all_bt t plainB, decide_eq_true_eq]
theorem textOK_no {t : ByteArray} {i : Nat} (h : i < t.size) (hp : plainB (bt t i) = false) : textOK t = false := by
  rw [Bool.eq_false_iff, Ne, textOK_iff]; intro hh; rw [hh.1 i h] at hp; cases hp
theorem plain_ok (t : ByteArray) (ht : t.size ≤ 100000000000) : pureT T c87 [.str t] = some (.bool (textOK t)) := by
  apply pure_enter (by simp [c87])
  simp [c87]
  refine W_for T 0 27 t.size (fun i f σ => f 0 = .str t ∧ f 6 = .ptr 0 0 ∧ σ = [.iter t i] ∧ ∀ j, j < i → plainB (bt t j) = true) ?_ _ _ ?_
  · rintro i f σ hi ⟨h0, h6, rfl, hall⟩
    by_cases hlt : i < t.size
    · by_cases hlo : bt t i < 128
      · simp [h0, h6, hlt, dec_lo hlt hlo]
        have hno := @textOK_no t i hlt
        refine ⟨fun h => hno (by simp [plainB]; omega), fun h => ⟨fun h => hno (by simp [plainB]; omega), fun h => ⟨fun h => hno (by simp [plainB]; omega), fun h => ⟨fun h => hno (by simp [plainB]; omega), fun h j hj => ?_⟩⟩⟩⟩
        by_cases e : j = i
        · subst e; simp [plainB]; omega
        · exact hall j (by omega)
      · have := dec_hi hlt (by omega)
        simp [h0, h6, hlt]
        have hno := @textOK_no t i hlt
        refine ⟨fun h => by omega, fun h => ⟨fun h => hno (by simp [plainB]; omega), fun h => by omega⟩⟩
    · have he : i = t.size := by omega
      subst he
      simp [h0, h6]
      refine ⟨fun h => ?_, fun h => ?_⟩
      · exact (textOK_iff t).2 ⟨fun i hi => hall i hi, by omega⟩
      · refine Bool.eq_false_iff.2 fun hh => ?_
        have := ((textOK_iff t).1 hh).2
        omega
  · simp
def nameG (s : ByteArray) (i : Nat) : Bool := if i = 0 then letterB (bt s i) else innerB (bt s i)
theorem nameG_iff (s : ByteArray) (i : Nat) : nameG s i = true ↔ (97 ≤ bt s i ∧ bt s i ≤ 122) ∨ (i ≠ 0 ∧ (bt s i = 95 ∨ (48 ≤ bt s i ∧ bt s i ≤ 57))) := by
  unfold nameG
  split
  · simp [letterB]; omega
  · simp [letterB, innerB]; omega
theorem nameOK_iff (t : ByteArray) : nameOK t = true ↔ (∀ i, i < t.size → nameG t i = true) ∧ t.size ≠ 0 ∧ t.size ≤ 16 := by
  have hs : t.data.toList.length = t.size := by simp
  simp only [nameOK, Bool.and_eq_true, decide_eq_true_eq]
  match hl : t.data.toList with
  | [] =>
    rw [hl] at hs; simp at hs
    simp only [nameL, Bool.false_eq_true, false_and, false_iff]; omega
  | c :: l =>
    rw [hl] at hs; simp at hs
    have hb : ∀ i, bt t i = (((c :: l)[i]?).getD 0).toNat := fun i => by simp only [bt, hl]
    simp only [nameL, Bool.and_eq_true, List.all_eq_true]
    constructor
    · rintro ⟨⟨h1, h2⟩, h3⟩
      refine ⟨fun i hi => ?_, by omega, h3⟩
      unfold nameG
      cases i with
      | zero => simp [hb, h1]
      | succ i =>
        have hi' : i < l.length := by omega
        simp [hb, List.getElem?_eq_getElem hi', h2 l[i] (List.getElem_mem hi')]
    · rintro ⟨h1, h2, h3⟩
      refine ⟨⟨?_, fun x hx => ?_⟩, h3⟩
      · have := h1 0 (by omega)
        simpa [nameG, hb] using this
      · obtain ⟨i, hi, rfl⟩ := List.getElem_of_mem hx
        have := h1 (i + 1) (by omega)
        simpa [nameG, hb, List.getElem?_eq_getElem hi] using this
theorem nameOK_no {t : ByteArray} {i : Nat} (h : i < t.size) (hp : ¬ ((97 ≤ bt t i ∧ bt t i ≤ 122) ∨ (i ≠ 0 ∧ (bt t i = 95 ∨ (48 ≤ bt t i ∧ bt t i ≤ 57))))) : nameOK t = false := by
  rw [← nameG_iff] at hp
  rw [Bool.eq_false_iff, Ne, nameOK_iff]; intro hh; exact hp (hh.1 i h)
theorem name_ok (t : ByteArray) (ht : t.size ≤ 100000000000) : pureT T c88 [.str t] = some (.bool (nameOK t)) := by
  apply pure_enter (by simp [c88])
  simp [c88]
  refine W_for T 0 43 t.size (fun i f σ => f 0 = .str t ∧ f 7 = .ptr 0 0 ∧ σ = [.iter t i] ∧ ∀ j, j < i → nameG t j = true) ?_ _ _ ?_
  · rintro i f σ hi ⟨h0, h6, rfl, hall⟩
    by_cases hlt : i < t.size
    · have hno := @nameOK_no t i hlt
      have hyes : _ → ∀ j, j < i + 1 → nameG t j = true := fun h j hj => by
        by_cases e : j = i
        · subst e; exact (nameG_iff t j).2 h
        · exact hall j (by omega)
      by_cases hlo : bt t i < 128
      · simp [h0, h6, hlt, dec_lo hlt hlo]
        repeat' (first | apply And.intro | intro _)
        all_goals first | exact hno (by omega) | exact hyes (by omega) _ (by assumption)
      · have := dec_hi hlt (by omega)
        simp [h0, h6, hlt]
        repeat' (first | apply And.intro | intro _)
        all_goals first | exact hno (by omega) | omega
    · have he : i = t.size := by omega
      subst he
      have hb : (nameOK t = true) ↔ t.size ≠ 0 ∧ t.size ≤ 16 := by rw [nameOK_iff]; exact ⟨fun h => h.2, fun h => ⟨fun i hi => hall i hi, h⟩⟩
      simp [h0, h6, ba_empty, ba_nil, -ByteArray.size_eq_zero_iff]
      refine ⟨fun h => ⟨fun h2 => hb.2 ⟨h, by omega⟩, fun h2 => ?_⟩, fun h => ?_⟩
      all_goals (refine Bool.eq_false_iff.2 fun hh => ?_; have := hb.1 hh; omega)
  · simp
/-! ### value.Right -/
theorem empty_ok (k n : Int) (t : ByteArray) (es : List AV) : pureT T c86 [.agg [.int .i64 k, .int .i64 n, .str t, .isl es false]] = some (.bool (decide (k = 0) && decide (n = 0) && decide (t = ⟨#[]⟩) && decide (es = []))) := by
  apply pure_enter (by simp [c86])
  simp [c86]
  repeat' (first | apply And.intro | intro _)
  all_goals simp_all
theorem call_empty (k n : Int) (t : ByteArray) (es : List AV) (c : Bool) (bs : Nat) (σ : Heap) : callT T 86 [.agg [.int .i64 k, .int .i64 n, .str t, .isl es c]] bs σ = some (.bool (sym (decide (k = 0) && decide (n = 0) && decide (t = ⟨#[]⟩) && decide (es = []))), σ) :=
  call_scal rfl rfl rfl (empty_ok k n t es) rfl rfl rfl
/-- slices.IndexFunc and slices.ContainsFunc, of values. -/
def idxI (p : GV → Bool) (l : List GV) : Int := match l.findIdx? p with
  | some i => (i : Int)
  | none => -1
theorem findIdx_drop (p : GV → Bool) (l : List GV) (i : Nat) (hi : i < l.length) (h : ∀ j, (hj : j < l.length) → j < i → p l[j] = false) (hp : p l[i] = true) : l.findIdx? p = some i := by
  rw [List.findIdx?_eq_some_iff_getElem]
  exact ⟨hi, hp, fun j hj => by rw [h j (by omega) hj]; simp⟩
theorem index_ok (p : GV → Bool) (l : List GV) (g : Nat) (caps : List AV) (hl : l.length ≤ 100000000000) (hc : ∀ x ∈ l, ∀ bs σ, callT T g (x.enc :: caps) bs σ = some (.bool (p x), σ)) :
    pureT T c77 [.isl (GV.encs l) false, .func g caps] = some (.int .i64 (idxI p l)) := by
  apply pure_enter (by simp [c77])
  simp [c77]
  refine W_for T 0 19 l.length (fun i f σ => f 0 = .isl (GV.encs l) false ∧ f 1 = .func g caps ∧ f 7 = .int .i64 (l.length : Int) ∧ f 8 = .int .i64 (i : Int) ∧ ∀ j, (hj : j < l.length) → j < i → p l[j] = false) ?_ _ _ ?_
  · rintro i f σ hi ⟨h0, h1, h7, h8, hall⟩
    by_cases hlt : i < l.length
    · have e1 : l[i]? = some l[i] := List.getElem?_eq_getElem hlt
      have hcl := hc l[i] (List.getElem_mem hlt)
      cases hp : p l[i]
      · simp [h0, h1, h7, h8, hlt, hcl, hp]
        refine ⟨wr64 (by omega) (by omega), fun j hj hji => ?_⟩
        by_cases e : j = i
        · subst e; exact hp
        · exact hall j hj (by omega)
      · simp [h0, h1, h7, h8, hlt, hcl, hp]
        simp [idxI, findIdx_drop p l i hlt hall hp]
    · have he : i = l.length := by omega
      subst he
      have hn : l.findIdx? p = none := by
        rw [List.findIdx?_eq_none_iff]
        intro x hx
        obtain ⟨j, hj, rfl⟩ := List.getElem_of_mem hx
        exact hall j hj hj
      simp [h0, h1, h7, h8, idxI, hn]
  · simp
theorem contains_ok (p : GV → Bool) (l : List GV) (g : Nat) (caps : List AV) (hcl : caps.all AV.cleanC = true) (hl : l.length ≤ 100000000000) (hc : ∀ x ∈ l, ∀ bs σ, callT T g (x.enc :: caps) bs σ = some (.bool (p x), σ)) :
    pureT T c62 [.isl (GV.encs l) false, .func g caps] = some (.bool (l.any p)) := by
  have h1 : ∀ bs σ, callT T 77 [.isl (GV.encs l) false, .func g caps] bs σ = some (.int .i64 (idxI p l), σ) := fun bs σ => call_clean rfl rfl rfl (by simp [hcl]) (index_ok p l g caps hl hc)
  apply pure_enter (by simp [c62])
  have h2 : (0 ≤ idxI p l) ↔ l.any p = true := by
    unfold idxI
    cases h : l.findIdx? p with
    | none => rw [List.findIdx?_eq_none_iff] at h; simp only [List.any_eq_true]; exact ⟨fun h => by omega, fun ⟨x, hx, hp⟩ => by rw [h x hx] at hp; cases hp⟩
    | some i =>
      rw [List.findIdx?_eq_some_iff_getElem] at h
      obtain ⟨hi, hp, _⟩ := h
      exact ⟨fun _ => List.any_eq_true.2 ⟨_, List.getElem_mem hi, hp⟩, fun _ => by simp⟩
  simp [c62, h1]
  refine ⟨fun h => by simpa using h2.1 h, fun h => ?_⟩
  have : ¬ l.any p = true := fun hh => by have := h2.2 hh; omega
  simpa using this
theorem call_contains (p : GV → Bool) (l : List GV) (g : Nat) (caps : List AV) (hcl : caps.all AV.cleanC = true) (hl : l.length ≤ 100000000000) (hc : ∀ x ∈ l, ∀ bs σ, callT T g (x.enc :: caps) bs σ = some (.bool (p x), σ)) (bs : Nat) (σ : Heap) :
    callT T 62 [.isl (GV.encs l) false, .func g caps] bs σ = some (.bool (sym (l.any p)), σ) :=
  call_clean rfl rfl rfl (by simp [hcl]) (contains_ok p l g caps hcl hl hc)
theorem plain_call (t : ByteArray) (ht : t.size ≤ 100000000000) (bs : Nat) (σ : Heap) : callT T 87 [.str t] bs σ = some (.bool (sym (textOK t)), σ) := call_clean rfl rfl rfl rfl (plain_ok t ht)
theorem name_call (t : ByteArray) (ht : t.size ≤ 100000000000) (bs : Nat) (σ : Heap) : callT T 88 [.str t] bs σ = some (.bool (sym (nameOK t)), σ) := call_clean rfl rfl rfl rfl (name_ok t ht)
theorem encs_nil (l : List GV) : GV.encs l = [] ↔ l = [] := by cases l <;> simp [GV.encs]
theorem right_base (d : Nat) (lst : Bool) (k n : Int) (t : ByteArray) (l : List GV) (ht : t.size ≤ 100000000000) (hk : k ≠ 4) :
    pureT T c78 [(GV.mk k n t l).enc, .int .i64 d] = some (.bool (rightB (GV.mk k n t l) lst)) := by
  have hp := plain_call t ht
  have hn := name_call t ht
  apply pure_enter (by simp [c78])
  by_cases h1 : k = 1
  · subst h1; simp [c78, GV.enc_eq, GV.kind, GV.num, GV.text, GV.items, call_empty, rightB, setRun, encs_nil]
    repeat' (first | apply And.intro | intro _)
    all_goals grind
  by_cases h2 : k = 2
  · subst h2; simp [c78, GV.enc_eq, GV.kind, GV.num, GV.text, GV.items, call_empty, rightB, setRun, hp, encs_nil]
    repeat' (first | apply And.intro | intro _)
    all_goals grind
  by_cases h3 : k = 3
  · subst h3; simp [c78, GV.enc_eq, GV.kind, GV.num, GV.text, GV.items, call_empty, rightB, setRun, hn, encs_nil]
    repeat' (first | apply And.intro | intro _)
    all_goals grind
  simp [c78, GV.enc_eq, GV.kind, GV.num, GV.text, GV.items, call_empty, rightB, setRun, h1, h2, h3, hk]
theorem right_ok : ∀ (d : Nat) (v : GV), d ≤ 100 → v.size ≤ 100000000000 → pureT T c78 [v.enc, .int .i64 d] = some (.bool (rightV d v)) := by
  intro d
  induction d with
  | zero =>
    intro v hd hs
    obtain ⟨k, n, t, l⟩ := v
    simp only [GV.size] at hs
    by_cases h4 : k = 4
    · subst h4
      apply pure_enter (by simp [c78])
      simp [c78, GV.enc_eq, GV.kind, GV.num, GV.text, GV.items, call_empty, rightV, rightB, setRun]
    exact right_base 0 _ k n t l (by omega) h4
  | succ d ih =>
    intro v hd hs
    obtain ⟨k, n, t, l⟩ := v
    simp only [GV.size] at hs
    by_cases h4 : k = 4
    · subst h4
      have hw : IntKind.i64.wrap (d : Int) = (d : Int) := wr64 (by omega) (by omega)
      have hcl : ∀ x ∈ l, ∀ bs σ, callT T 89 [x.enc, .iptr [.int .i64 ((d : Int) + 1)] 0] bs σ = some (.bool (!rightV d x), σ) := fun x hx bs σ => by
        have hr : ∀ bs σ, callT T 78 [x.enc, .int .i64 d] bs σ = some (.bool (rightV d x), σ) := fun bs σ => call_clean rfl rfl rfl (by simp) (ih x (by omega) (by have := (sizes_mem hx).1; omega))
        refine call_clean rfl rfl rfl (by simp) (?_ : pureT T c89 [x.enc, .iptr [.int .i64 ((d : Int) + 1)] 0] = _)
        apply pure_enter (by simp [c89])
        simp [c89, hr, hw]
      have hlen := len_sizes l
      have hcont : ∀ bs A C, callT T 62 [.isl (GV.encs l) false, .func 89 [.ptr 1 0]] bs [A, .cells [.int .i64 ((d : Int) + 1)] 0 false, C] = some (.bool (sym (l.any fun x => !rightV d x)), [A, .cells [.int .i64 ((d : Int) + 1)] 0 false, C]) := fun bs A C =>
        call_scal rfl rfl rfl (contains_ok _ l 89 [.iptr [.int .i64 ((d : Int) + 1)] 0] (by simp) (by omega) hcl) rfl (by simp) (by simp [frz]; rfl)
      apply pure_enter (by simp [c78])
      simp [c78, GV.enc_eq, GV.kind, GV.num, GV.text, GV.items, call_empty, rightV, rightB, setRun, hcont, encs_nil]
      repeat' (first | apply And.intro | intro _)
      all_goals grind
    exact right_base _ _ k n t l (by omega) h4
end Go.Proofs.Ytkjfkbblfjmnaaa
end
section
set_option linter.unusedVariables false
set_option linter.unusedSimpArgs false
set_option linter.unnecessarySimpa false
namespace Go.Proofs.Ytkjfkbblfjmnaaa
open Go.Mach

/-! ### The document's answers for values -/
theorem refName_ok (t : ByteArray) (ht : t.size ≤ 100000000000) : pureT T c79 [.str t] = some (.bool (nameOK t)) := by
  apply pure_enter (by simp [c79])
  have hn : nameOK t = true ↔ (∀ i, i < t.size → nameG t i = true) ∧ t.size ≠ 0 ∧ t.size ≤ 16 := nameOK_iff t
  by_cases h0 : 1 ≤ t.size
  · have hno0 : ¬ (97 ≤ bt t 0 ∧ bt t 0 ≤ 122) → nameOK t = false := fun h => nameOK_no (i := 0) (by omega) (by omega)
    have hb := @idx_bt t 0 (by omega)
    have hb' : t.data[0]?.map (fun b => (AV.int .u8 (b.toNat : Int))) = some (.int .u8 (bt t 0)) := by simpa using hb
    have hlong : ¬ t.size ≤ 16 → nameOK t = false := fun h => by rw [Bool.eq_false_iff, Ne, hn]; omega
    simp [c79, hb']
    refine ⟨fun h => by omega, fun h => ⟨fun h => hlong (by omega), fun h2 => ⟨fun h => hno0 (by omega), fun h3 => ⟨fun h => hno0 (by omega), fun h4 => ?_⟩⟩⟩⟩
    refine W_for T 0 51 (t.size - 1) (fun i f σ => f 0 = .str t ∧ f 3 = .int .i64 ((i : Int) + 1) ∧ σ = [] ∧ ∀ j, j < i + 1 → nameG t j = true) ?_ _ _ ?_
    · rintro i f σ hi ⟨h0, h3, rfl, hall⟩
      by_cases hlt : i + 1 < t.size
      · have hno := @nameOK_no t (i + 1) hlt
        have hyes : _ → ∀ j, j < i + 1 + 1 → nameG t j = true := fun h j hj => by
          by_cases e : j = i + 1
          · subst e; exact (nameG_iff t (i + 1)).2 h
          · exact hall j (by omega)
        have hb := @idx_bt t (i + 1) hlt
        have hb' : t.data[i + 1]?.map (fun b => (AV.int .u8 (b.toNat : Int))) = some (.int .u8 (bt t (i + 1))) := by simpa using hb
        have hw : IntKind.i64.wrap ((i : Int) + 1 + 1) = (i : Int) + 1 + 1 := wr64 (by omega) (by omega)
        have hc1 : ((i : Int) + 1 < (t.size : Int)) := by omega
        have hc2 : (0 : Int) ≤ (i : Int) + 1 := by omega
        have hc3 : ((i : Int) + 1).toNat = i + 1 := by omega
        have hc4 : i < t.size - 1 := by omega
        simp [h0, h3, hc1, hc2, hc3, hb', hw, hc4]
        repeat' (first | apply And.intro | intro _)
        all_goals first | exact hno (by omega) | exact hyes (by omega) _ (by assumption)
      · have hc1 : ¬ ((i : Int) + 1 < (t.size : Int)) := by omega
        simp [h0, h3, hc1]
        exact hn.2 ⟨fun j hj => hall j (by omega), by omega, by omega⟩
    · simp
      exact (nameG_iff t 0).2 (by omega)
  · have : t.size = 0 := by omega
    have hf : nameOK t = false := by rw [Bool.eq_false_iff, Ne, hn]; omega
    simp [c79, this, hf]
theorem refName_call (t : ByteArray) (ht : t.size ≤ 100000000000) (bs : Nat) (σ : Heap) : callT T 79 [.str t] bs σ = some (.bool (sym (nameOK t)), σ) := call_clean rfl rfl rfl rfl (refName_ok t ht)
theorem deep_text (d : Int) (n : Int) (t : ByteArray) (l : List GV) (lst : Bool) (ht : t.size ≤ 100000000000) (hl : l.length ≤ 100000000000) : pureT T c67 [(GV.mk 2 n t l).enc, .int .i64 d] = some (.bool (rightB (GV.mk 2 n t l) lst)) := by
  apply pure_enter (by simp [c67])
  have hn := textOK_iff t
  have hr : rightB (GV.mk 2 n t l) lst = decide (n = 0 ∧ l = [] ∧ textOK t = true) := by rw [Bool.eq_iff_iff]; simp [rightB, GV.kind, GV.num, GV.text, GV.items]
  rw [hr]
  by_cases h0 : n = 0
  · subst h0
    simp [c67, GV.enc_eq, GV.kind, GV.num, GV.text, GV.items]
    refine W_for T 0 125 t.size (fun i f σ => f 2 = .ptr 0 0 ∧ f 5 = .int .i64 (i : Int) ∧ σ = [.cells [.int .i64 2, .int .i64 0, .str t, .isl (GV.encs l) false] 0 false] ∧ ∀ j, j < i → plainB (bt t j) = true) ?_ _ _ ?_
    · rintro i f σ hi ⟨h2, h5, rfl, hall⟩
      by_cases hlt : i < t.size
      · have hno := @textOK_no t i hlt
        have hb := @idx_bt t i hlt
        have hb' : t.data[i]?.map (fun b => (AV.int .u8 (b.toNat : Int))) = some (.int .u8 (bt t i)) := by simpa using hb
        have hw : IntKind.i64.wrap ((i : Int) + 1) = (i : Int) + 1 := wr64 (by omega) (by omega)
        have hbe := bt_eq2 hlt
        simp [h2, h5, hlt, hbe, hw]
        have hno' : ¬ (32 ≤ bt t i ∧ bt t i ≤ 126 ∧ bt t i ≠ 34 ∧ bt t i ≠ 92) → textOK t = false := fun h => hno (by simp [plainB]; omega)
        have hyes : (32 ≤ bt t i ∧ bt t i ≤ 126 ∧ bt t i ≠ 34 ∧ bt t i ≠ 92) → ∀ j, j < i + 1 → plainB (bt t j) = true := fun h j hj => by
          by_cases e : j = i
          · subst e; simp [plainB]; omega
          · exact hall j (by omega)
        refine ⟨fun h => ?_, fun h => ⟨fun h => ?_, fun h => ⟨fun h => ?_, fun h => ⟨fun h => ?_, fun h => ?_⟩⟩⟩⟩
        all_goals first | exact hyes (by omega) | (rw [hno' (by omega)]; simp)
      · have he : i = t.size := by omega
        subst he
        simp [h2, h5, encs_nil]
        have : textOK t = true ↔ t.size ≤ 32 := by rw [hn]; exact ⟨fun h => h.2, fun h => ⟨fun j hj => hall j hj, h⟩⟩
        grind
    · simp
  · simp [c67, GV.enc_eq, GV.kind, GV.num, GV.text, GV.items, h0]
theorem deep_list (d : Nat) (n : Int) (t : ByteArray) (l : List GV) (hd : d ≤ 100) (ht : t.size ≤ 100000000000) (hl : l.length ≤ 100000000000) (hc : ∀ x ∈ l, ∀ bs σ, 0 < d → callT T 67 [x.enc, .int .i64 ((d : Int) - 1)] bs σ = some (.bool (sym (rightV (d - 1) x)), σ)) :
    pureT T c67 [(GV.mk 4 n t l).enc, .int .i64 d] = some (.bool (rightV d (GV.mk 4 n t l))) := by
  apply pure_enter (by simp [c67])
  have hr : rightV d (GV.mk 4 n t l) = decide (n = 0 ∧ t = ⟨#[]⟩ ∧ 0 < d ∧ l.length ≤ 16 ∧ l.all (rightV (d - 1)) = true) := by
    rw [Bool.eq_iff_iff]; cases d <;> simp [rightV, rightB, GV.kind, GV.num, GV.text, GV.items]
  rw [hr]
  by_cases h0 : n = 0
  · subst h0
    simp [c67, GV.enc_eq, GV.kind, GV.num, GV.text, GV.items]
    refine ⟨fun h1 h2 h3 h4 => absurd h2 h1, fun h1 => ⟨fun h2 => by omega, fun h2 => ⟨fun h3 => by omega, fun h3 => ?_⟩⟩⟩
    refine W_for T 0 125 l.length (fun i f σ => f 1 = .int .i64 (d : Int) ∧ f 2 = .ptr 0 0 ∧ f 7 = .int .i64 (i : Int) ∧ σ = [.cells [.int .i64 4, .int .i64 0, .str t, .isl (GV.encs l) false] 0 false] ∧ ∀ j, (hj : j < l.length) → j < i → rightV (d - 1) l[j] = true) ?_ _ _ ?_
    · rintro i f σ hi ⟨hd1, h2', h7, rfl, hall⟩
      by_cases hlt : i < l.length
      · have hw : IntKind.i64.wrap ((i : Int) + 1) = (i : Int) + 1 := wr64 (by omega) (by omega)
        have hwd : IntKind.i64.wrap ((d : Int) - 1) = (d : Int) - 1 := wr64 (by omega) (by omega)
        have e1 : l[i]? = some l[i] := List.getElem?_eq_getElem hlt
        have hcl := fun bs σ => hc l[i] (List.getElem_mem hlt) bs σ (by omega)
        simp [hd1, h2', h7, hlt, hw, hwd, hcl]
        refine ⟨fun h j hj hji => ?_, fun h => ?_⟩
        · by_cases e : j = i
          · subst e; exact h
          · exact hall j hj (by omega)
        · intro _ _ _; exact ⟨_, List.getElem_mem hlt, h⟩
      · have he : i = l.length := by omega
        subst he
        simp [h2', h7]
        refine ⟨h1, by omega, by omega, fun x hx => ?_⟩
        obtain ⟨j, hj, rfl⟩ := List.getElem_of_mem hx
        exact hall j hj hj
    · simp
  · simp [c67, GV.enc_eq, GV.kind, GV.num, GV.text, GV.items, h0]
theorem deep_rest (d : Nat) (k n : Int) (t : ByteArray) (l : List GV) (hk : k ≠ 2) (hk4 : k ≠ 4) (ht : t.size ≤ 100000000000) : pureT T c67 [(GV.mk k n t l).enc, .int .i64 d] = some (.bool (rightV d (GV.mk k n t l))) := by
  apply pure_enter (by simp [c67])
  have hc := refName_call t ht
  have hr : rightV d (GV.mk k n t l) = (if k = 1 then decide (t = ⟨#[]⟩ ∧ l = [] ∧ n ≤ 2147483647 ∧ -2147483647 ≤ n) else if k = 3 then decide (n = 0 ∧ l = [] ∧ nameOK t = true) else false) := by
    rw [Bool.eq_iff_iff]; cases d <;> simp [rightV, rightB, GV.kind, GV.num, GV.text, GV.items, hk, hk4] <;> split <;> simp
  rw [hr]
  by_cases h1 : k = 1
  · subst h1
    simp [c67, GV.enc_eq, GV.kind, GV.num, GV.text, GV.items, encs_nil]
    grind
  · by_cases h0 : n = 0
    · by_cases h3 : k = 3
      · subst h3
        simp [c67, GV.enc_eq, GV.kind, GV.num, GV.text, GV.items, encs_nil, h0, hc]
        grind
      · simp [c67, GV.enc_eq, GV.kind, GV.num, GV.text, GV.items, encs_nil, h0, h1, h3, hk, hk4]
    · simp [c67, GV.enc_eq, GV.kind, GV.num, GV.text, GV.items, encs_nil, h0, h1]
theorem deep_ok : ∀ (d : Nat) (v : GV), d ≤ 100 → v.size ≤ 100000000000 → pureT T c67 [v.enc, .int .i64 d] = some (.bool (rightV d v)) := by
  intro d
  induction d with
  | zero =>
    intro v hd hs
    obtain ⟨k, n, t, l⟩ := v
    simp only [GV.size] at hs
    have hl := len_sizes l
    by_cases h2 : k = 2
    · subst h2; exact deep_text _ _ _ _ _ (by omega) (by omega)
    by_cases h4 : k = 4
    · subst h4; exact deep_list 0 _ _ _ (by omega) (by omega) (by omega) (fun x hx bs σ h => by omega)
    exact deep_rest _ _ _ _ _ h2 h4 (by omega)
  | succ d ih =>
    intro v hd hs
    obtain ⟨k, n, t, l⟩ := v
    simp only [GV.size] at hs
    have hl := len_sizes l
    by_cases h2 : k = 2
    · subst h2; exact deep_text _ _ _ _ _ (by omega) (by omega)
    by_cases h4 : k = 4
    · subst h4
      refine deep_list (d + 1) _ _ _ (by omega) (by omega) (by omega) (fun x hx bs σ h => ?_)
      have := ih x (by omega) (by have := (sizes_mem hx).1; omega)
      have e : (((d + 1 : Nat) : Int) - 1) = (d : Int) := by omega
      rw [e]
      exact call_clean rfl rfl rfl (by simp) this
    exact deep_rest _ _ _ _ _ h2 h4 (by omega)
/-- Which values may be: the limit is four lists within one another. -/
abbrev rightT (v : GV) : Bool := rightV 4 v
theorem valRight_ok (v : GV) (hs : v.size ≤ 100000000000) : pureT T c64 [v.enc] = some (.bool (rightT v)) := by
  have hr : ∀ bs σ, callT T 78 [v.enc, .int .i64 4] bs σ = some (.bool (sym (rightT v)), σ) := fun bs σ => call_clean rfl rfl rfl (by simp) (right_ok 4 v (by omega) hs)
  apply pure_enter (by simp [c64])
  simp [c64, hr]
theorem valRight (v : GV) (hs : v.size ≤ 100000000000) (bs : Nat) (σ : Heap) : callT T 64 [v.enc] bs σ = some (.bool (sym (rightT v)), σ) := call_clean rfl rfl rfl (by simp) (valRight_ok v hs)
theorem refRight_ok (v : GV) (hs : v.size ≤ 100000000000) : pureT T c49 [v.enc] = some (.bool (rightT v)) := by
  have hr : ∀ bs σ, callT T 67 [v.enc, .int .i64 4] bs σ = some (.bool (sym (rightT v)), σ) := fun bs σ => call_clean rfl rfl rfl (by simp) (deep_ok 4 v (by omega) hs)
  apply pure_enter (by simp [c49])
  simp [c49, hr]
theorem refRight (v : GV) (hs : v.size ≤ 100000000000) (bs : Nat) (σ : Heap) : callT T 49 [v.enc] bs σ = some (.bool (sym (rightT v)), σ) := call_clean rfl rfl rfl (by simp) (refRight_ok v hs)
/-! ### Which comes first -/
theorem sign_ok (x y : Bool) : pureT T c56 [.bool x, .bool y] = some (.int .i64 (if x then -1 else if y then 1 else 0)) := by
  apply pure_enter (by simp [c56])
  cases x <;> cases y <;> simp [c56]
theorem sign_call (x y : Bool) (bs : Nat) (σ : Heap) : callT T 56 [.bool x, .bool y] bs σ = some (.int .i64 (if x then -1 else if y then 1 else 0), σ) := call_clean rfl rfl rfl (by simp) (sign_ok x y)
theorem cmpB_eq : ∀ a b : List UInt8, Lib.compareBytes a b = if Op.bytesLess a b then -1 else if a = b then 0 else 1
  | [], [] => by simp [Lib.compareBytes, Op.bytesLess]
  | [], _ :: _ => by simp [Lib.compareBytes, Op.bytesLess]
  | _ :: _, [] => by simp [Lib.compareBytes, Op.bytesLess]
  | a :: l, b :: m => by
    have ih := cmpB_eq l m
    simp only [Lib.compareBytes, Op.bytesLess, Bool.or_eq_true, decide_eq_true_eq, Bool.and_eq_true, beq_iff_eq, List.cons.injEq]
    by_cases h1 : a < b
    · simp [h1]
    · by_cases h2 : b < a
      · have hne : ¬ a = b := fun e => by subst e; exact h1 h2
        simp [h1, h2, hne]
      · have he : a = b := by
          have h1' : ¬ a.toNat < b.toNat := fun h => h1 (UInt8.lt_iff_toNat_lt.2 h)
          have h2' : ¬ b.toNat < a.toNat := fun h => h2 (UInt8.lt_iff_toNat_lt.2 h)
          exact UInt8.toNat_inj.1 (by omega)
        subst he
        simp [h1, ih]
theorem cmpS_eq (s t : ByteArray) : (if Op.bytesLess s.toList t.toList = true then (-1 : Int) else if (!(Op.bytesLess s.toList t.toList || s.toList == t.toList)) = true then 1 else 0) = Lib.compareBytes s.data.toList t.data.toList := by
  rw [cmpB_eq, ByteArray.toList_eq, ByteArray.toList_eq]
  by_cases h : Op.bytesLess s.data.toList t.data.toList = true
  · simp [h]
  · simp only [Bool.not_eq_true] at h
    by_cases h2 : s.data.toList = t.data.toList
    · simp [h, h2]
    · have : (s.data.toList == t.data.toList) = false := by simpa using h2
      rw [h, this]; simp only [h2, if_false]; simp
theorem refCmp_ok : ∀ (n : Nat) (a b : GV), a.size ≤ n → n ≤ 100000000000 → pureT T c39 [a.enc, b.enc] = some (.int .i64 (cmpV a b)) := by
  intro n
  induction n with
  | zero => intro a b h; cases a; simp [GV.size] at h
  | succ n ih =>
    intro a b hs hn
    obtain ⟨k, num, t, l⟩ := a
    obtain ⟨k2, num2, t2, l2⟩ := b
    have hl : GV.sizes l ≤ n := by simp [GV.size] at hs; omega
    have hlen := len_sizes l
    have hcall : ∀ x ∈ l, ∀ y ∈ l2, ∀ bs σ, callT T 39 [x.enc, y.enc] bs σ = some (.int .i64 (cmpV x y), σ) := fun x hx y _ bs σ =>
      call_clean rfl rfl rfl (by simp) (ih x y (by have := (sizes_mem hx).1; omega) (by omega))
    apply pure_enter (by simp [c39])
    by_cases h0 : k = k2
    · subst h0
      have hz : cmpI k k = 0 := by simp [cmpI]
      by_cases h1 : k = 1
      · subst h1; simp [c39, GV.enc_eq, GV.kind, GV.num, GV.text, GV.items, sign_call, cmpV, hz]
        simp only [cmpI]; grind
      · by_cases h2 : k = 2
        · subst h2; simp [c39, GV.enc_eq, GV.kind, GV.num, GV.text, GV.items, sign_call, cmpV, hz]
          have := cmpS_eq t t2
          simp at this; exact this
        · by_cases h3 : k = 3
          · subst h3; simp [c39, GV.enc_eq, GV.kind, GV.num, GV.text, GV.items, sign_call, cmpV, hz]
            have := cmpS_eq t t2
            simp at this; exact this
          · by_cases h4 : k = 4
            · subst h4; simp [c39, GV.enc_eq, GV.kind, GV.num, GV.text, GV.items, sign_call, cmpV, hz]
              refine W_for T 0 92 l.length (fun i f σ => f 2 = .ptr 0 0 ∧ f 3 = .ptr 1 0 ∧ f 5 = .int .i64 (i : Int) ∧ σ = [.cells [.int .i64 4, .int .i64 num, .str t, .isl (GV.encs l) false] 0 false, .cells [.int .i64 4, .int .i64 num2, .str t2, .isl (GV.encs l2) false] 0 false] ∧ i ≤ l2.length ∧ cmpVs l l2 = cmpVs (l.drop i) (l2.drop i)) ?_ _ _ ?_
              · rintro i f σ hi ⟨g2, g3, g5, rfl, hi2, hcmp⟩
                have hw : IntKind.i64.wrap ((i : Int) + 1) = (i : Int) + 1 := wr64 (by omega) (by omega)
                by_cases hlt : i < l.length
                · have hd : l.drop i = l[i] :: l.drop (i + 1) := (List.drop_eq_getElem_cons hlt)
                  by_cases hlt2 : i < l2.length
                  · have hd2 : l2.drop i = l2[i] :: l2.drop (i + 1) := (List.drop_eq_getElem_cons hlt2)
                    have hc := hcall l[i] (List.getElem_mem hlt) l2[i] (List.getElem_mem hlt2)
                    simp [g2, g3, g5, hlt, hlt2, hc, hw]
                    rw [hcmp, hd, hd2, cmpVs]
                    refine ⟨fun h => by simp [h], fun h => ⟨by omega, by simp [h]⟩⟩
                  · have hd2 : l2.drop i = [] := List.drop_eq_nil_of_le (by omega)
                    have hlt3 : l2.length < l.length := by omega
                    have hlt4 : ¬ l.length < l2.length := by omega
                    simp [g2, g3, g5, hlt, hlt2, sign_call, hlt3, hlt4]
                    rw [hcmp, hd, hd2, cmpVs]
                · have he : i = l.length := by omega
                  subst he
                  simp [g2, g3, g5, sign_call]
                  rw [hcmp, List.drop_length, cmpVs_nil]
                  by_cases hlt2 : l.length < l2.length
                  · have hne : l2.drop l.length ≠ [] := by simp; omega
                    simp [hlt2, hne]
                    try omega
                  · have hne : l2.drop l.length = [] := by simp; omega
                    have hlt4 : ¬ l2.length < l.length := by omega
                    simp [hlt2, hne, hlt4]
              · simp
            · simp [c39, GV.enc_eq, GV.kind, GV.num, GV.text, GV.items, h1, h2, h3, h4, cmpV, hz]
    · simp [c39, GV.enc_eq, GV.kind, GV.num, GV.text, GV.items, sign_call, h0, cmpV]
      have : cmpI k k2 ≠ 0 := by simp only [cmpI]; grind
      simp only [if_neg this, cmpI]; grind
theorem refCmp (a b : GV) (hs : a.size ≤ 100000000000) (bs : Nat) (σ : Heap) : callT T 39 [a.enc, b.enc] bs σ = some (.int .i64 (cmpV a b), σ) := call_clean rfl rfl rfl (by simp) (refCmp_ok a.size a b (Nat.le_refl _) hs)
theorem valCmp (a b : GV) (hs : a.size ≤ 100000000000) (bs : Nat) (σ : Heap) : callT T 21 [a.enc, b.enc] bs σ = some (.int .i64 (cmpV a b), σ) := call_clean rfl rfl rfl (by simp) (cmp58 a.size a b (Nat.le_refl _) hs)
end Go.Proofs.Ytkjfkbblfjmnaaa
end
section
set_option linter.unusedVariables false
set_option linter.unusedSimpArgs false
set_option linter.unnecessarySimpa false
namespace Go.Mach
/-! ### Slices of bytes -/
def bv (l : List UInt8) : List AV := l.map fun b => .int .u8 (b.toNat : Int)
theorem u8s_bv (s : ByteArray) : u8s s = bv s.data.toList := rfl
@[simp] theorem bv_length (l : List UInt8) : (bv l).length = l.length := by simp [bv]
theorem bv_set (l : List UInt8) (i : Nat) (b : UInt8) : (bv l).set i (.int .u8 (b.toNat : Int)) = bv (l.set i b) := by simp [bv, List.map_set]
theorem bv_win {l : List UInt8} {i : Nat} (h : i < l.length) : window (bv l) i 1 = some [.int .u8 (l[i].toNat : Int)] := by
  unfold window
  rw [if_pos (by simp; omega)]
  congr 1
  apply List.ext_getElem?
  intro j
  rw [List.getElem?_take, List.getElem?_drop]
  cases j with
  | zero => simp [bv, h]
  | succ j => simp
theorem bv_all (l : List UInt8) : window (bv l) 0 l.length = some (bv l) := by
  unfold window
  rw [if_pos (by simp)]
  rw [List.drop_zero, List.take_of_length_le (by simp)]
theorem chunk_one : ∀ l : List AV, chunk 1 false l.length l = some l
  | [] => rfl
  | x :: l => by simp [chunk_one l]
theorem bytesA_bv (l : List UInt8) : bytesA (bv l) = some ⟨l.toArray⟩ := by
  have : (bv l).mapM ofU8 = some l := by
    induction l with
    | nil => rfl
    | cons b l ih =>
      show (AV.int .u8 (b.toNat : Int) :: bv l).mapM ofU8 = some (b :: l)
      rw [List.mapM_cons, ih]
      simp [ofU8]
  unfold bytesA; rw [this]; rfl
theorem elems_bv {σ : Heap} {id : Nat} {l : List UInt8} {fz : Nat} {ext : Bool} {n : Nat} (h : σ[id]? = some (.cells (bv l) fz ext)) (hn : n = l.length) : elemsA σ 1 false (.sl id 0 n 1 false) = some (bv l) := by
  subst hn
  simp only [elemsA, h, Nat.mul_one, bv_all, Option.bind_some]
  have := chunk_one (bv l)
  rwa [bv_length] at this
theorem b2s_bv {σ : Heap} {id : Nat} {l : List UInt8} {fz : Nat} {ext : Bool} {n : Nat} (h : σ[id]? = some (.cells (bv l) fz ext)) (hn : n = l.length) : b2sV σ (.sl id 0 n 1 false) = some (.str ⟨l.toArray⟩) := by
  simp [b2sV, isSl, elems_bv h hn, bytesA_bv]
theorem setRun_one (cs : List AV) (i : Nat) (v : AV) : setRun cs i [v] = cs.set i v := rfl
/-- A list of which a part is done. -/
def mp {α : Type} (g : α → α) (l : List α) (i : Nat) : List α := (l.take i).map g ++ l.drop i
section
variable {α : Type} {g : α → α} {l : List α} {i : Nat}
@[simp] theorem mp_len : (mp g l i).length = l.length := by simp [mp]; omega
theorem mp_zero : mp g l 0 = l := by simp [mp]
theorem mp_all : mp g l l.length = l.map g := by simp [mp]
theorem mp_get (h : i < l.length) : (mp g l i)[i]'(by simpa using h) = l[i] := by
  simp only [mp]
  rw [List.getElem_append_right (by simp; omega)]
  simp [Nat.min_eq_left (Nat.le_of_lt h)]
theorem mp_set (h : i < l.length) : (mp g l i).set i (g l[i]) = mp g l (i + 1) := by
  simp only [mp]
  rw [List.set_append_right _ _ (by simp; omega)]
  have : i - ((l.take i).map g).length = 0 := by simp; omega
  rw [this, List.drop_eq_getElem_cons h, List.set_cons_zero, List.take_add_one, List.getElem?_eq_getElem h, List.map_append]
  simp
end
end Go.Mach
namespace Go.Proofs.Ytkjfkbblfjmnaaa
open Go.Mach

/-! ### Raw values, made right -/
/-- Which of n things a raw number speaks of. -/
def pickN (c : Int) (n : Nat) : Nat := ((if c < 0 then -(c + 1) else c).toNat) % n
theorem pickN_lt {c : Int} {n : Nat} (h : 0 < n) : pickN c n < n := Nat.mod_lt _ h
theorem pick_eq (c : Int) (n : Nat) (h : 0 < n) (h1 : -9223372036854775808 ≤ c) (h2 : c ≤ 9223372036854775807) :
    ((if c < 0 then IntKind.i64.wrap (0 - IntKind.i64.wrap (c + 1)) else c).tmod n) = (pickN c n : Int) := by
  by_cases hc : c < 0
  · rw [if_pos hc, wr64 (n := c + 1) (by omega) (by omega), wr64 (by omega) (by omega)]
    simp only [pickN, if_pos hc]
    have : (0 - (c + 1) : Int) = (((-(c + 1)).toNat : Nat) : Int) := by omega
    rw [this]; rfl
  · rw [if_neg hc]
    simp only [pickN, if_neg hc]
    have : c = ((c.toNat : Nat) : Int) := by omega
    rw [this, Int.toNat_natCast]; rfl
theorem pick1_ok (c n : Int) (h : n ≠ 0) : pureT T c53 [.int .i64 c, .int .i64 n] = some (.int .i64 ((if c < 0 then IntKind.i64.wrap (0 - IntKind.i64.wrap (c + 1)) else c).tmod n)) := by
  apply pure_enter (by simp [c53])
  by_cases hc : c < 0
  · simp [c53, hc, h]
  · simp [c53, hc, h]
theorem pick1 (c : Int) (n : Nat) (h : 0 < n) (h1 : GV.i64ok c) (bs : Nat) (σ : Heap) :
    callT T 53 [.int .i64 c, .int .i64 (n : Int)] bs σ = some (.int .i64 (pickN c n : Int), σ) := by
  refine call_clean rfl rfl rfl rfl ?_
  rw [pick1_ok c n (by omega), pick_eq c n h h1.1 h1.2]
theorem pick4 (c : Int) (h1 : GV.i64ok c) (bs : Nat) (σ : Heap) : callT T 53 [.int .i64 c, .int .i64 4] bs σ = some (.int .i64 (pickN c 4 : Int), σ) := pick1 c 4 (by omega) h1 bs σ
theorem pickM (c : Int) (h1 : GV.i64ok c) (bs : Nat) (σ : Heap) : callT T 53 [.int .i64 c, .int .i64 4294967295] bs σ = some (.int .i64 (pickN c 4294967295 : Int), σ) := pick1 c 4294967295 (by omega) h1 bs σ
/-- A name's byte. -/
def nameC (b : UInt8) : UInt8 := if b.toNat % 37 < 26 then UInt8.ofNat (97 + b.toNat % 37) else if b.toNat % 37 < 36 then UInt8.ofNat (22 + b.toNat % 37) else 95
def nameFit (s : ByteArray) : ByteArray := ⟨(110 :: (s.data.toList.take 15).map nameC).toArray⟩
theorem tm (n m : Nat) : ((n : Int)).tmod (m : Int) = ((n % m : Nat) : Int) := rfl
theorem u8of {n : Nat} (h : n < 256) : ((UInt8.ofNat n).toNat : Int) = (n : Int) := by rw [UInt8.toNat_ofNat', Nat.mod_eq_of_lt h]
theorem lawName_ok (s : ByteArray) (hs : s.size ≤ 100000000000) : pureT T c44 [.str s] = some (.str (nameFit s)) := by
  apply pure_enter (by simp [c44])
  obtain ⟨m, hm, hmin⟩ : ∃ m : Nat, m = min s.size 15 ∧ (if (15 : Int) < (s.size : Int) then (15 : Int) else (s.size : Int)) = (m : Int) := ⟨_, rfl, by split <;> omega⟩
  generalize hl : s.data.toList.take m = l
  have hll : l.length = m := by rw [← hl]; simp; omega
  have hcat : u8s (⟨#[110]⟩ ++ s.extract 0 m) = bv (110 :: l) := by
    rw [u8s_bv]; congr 1; rw [← hl]; simp [ByteArray.data_append, ByteArray.data_extract]
  have hsz : (⟨#[110]⟩ ++ s.extract 0 m : ByteArray).size = m + 1 := by
    have := congrArg List.length hcat
    rw [u8s_len] at this; rw [this]; simp [hll]
  have hle : m ≤ s.size := by omega
  have hadd : (1 : Int) + (m : Int) ≤ 9223372036854775807 := by omega
  have hone : (⟨#[110]⟩ : ByteArray).size = 1 := rfl
  have hfit : nameFit s = ⟨(110 :: l.map nameC).toArray⟩ := by
    simp only [nameFit]
    rw [← hl, hm]
    congr 3
    rcases Nat.lt_or_ge s.size 15 with h | h
    · rw [List.take_of_length_le (by simp; omega), List.take_of_length_le (by simp; omega)]
    · rw [Nat.min_eq_right h]
  simp [c44, hmin, hcat, hle, hadd, hsz, hone]
  subst hll
  refine W_for T 0 44 l.length (fun i f σ => f 3 = .sl 0 0 (l.length + 1) 1 false ∧ f 4 = .int .i64 ((i : Int) + 1) ∧ σ = [.cells (bv (110 :: mp nameC l i)) 0 true]) ?_ _ _ ?_
  · rintro i f σ hi ⟨h3, h4, rfl⟩
    by_cases hlt : i < l.length
    · have hw : IntKind.i64.wrap ((i : Int) + 1 + 1) = (i : Int) + 1 + 1 := wr64 (by omega) (by omega)
      have hc2 : (0 : Int) ≤ (i : Int) + 1 := by omega
      have hc3 : ((i : Int) + 1).toNat = i + 1 := by omega
      have hc4 : i + 1 ≤ l.length := hlt
      have hwin := bv_win (l := 110 :: mp nameC l i) (i := i + 1) (by simp; omega)
      simp [mp_get hlt] at hwin
      have htm : ((l[i].toNat : Int)).tmod 37 = ((l[i].toNat % 37 : Nat) : Int) := rfl
      have hfin : ∀ v : Int, v = ((nameC l[i]).toNat : Int) → (bv (110 :: mp nameC l i)).set (i + 1) (.int .u8 v) = bv (110 :: mp nameC l (i + 1)) := by
        rintro _ rfl; rw [bv_set, List.set_cons_succ, mp_set hlt]
      generalize hk : l[i].toNat % 37 = k at *
      have hk37 : k < 37 := by omega
      have hn : nameC l[i] = (if k < 26 then UInt8.ofNat (97 + k) else if k < 36 then UInt8.ofNat (22 + k) else 95) := by simp only [nameC, hk]
      simp [h3, h4, hc2, hc3, hc4, hw, hlt, hwin, htm, setRun_one]
      refine ⟨fun h => hfin _ ?_, fun h => ⟨fun h2 => hfin _ ?_, fun h2 => hfin _ ?_⟩⟩
      · rw [hn, if_pos (by omega), u8of (by omega), wru8 (by omega) (by omega)]; omega
      · rw [hn, if_neg (by omega), if_pos (by omega), u8of (by omega), wru8 (n := 48 + (k : Int)) (by omega) (by omega), wru8 (by omega) (by omega)]; omega
      · rw [hn, if_neg (by omega), if_neg (by omega)]; rfl
    · have he : i = l.length := by omega
      subst he
      have hel := b2s_bv (σ := [.cells (bv (110 :: mp nameC l l.length)) 0 true]) (id := 0) (l := 110 :: mp nameC l l.length) rfl (n := l.length + 1) (by simp)
      rw [mp_all] at hel
      simp [h3, h4, mp_all, hel, hfit]
  · simp [mp_zero]
theorem lawName (s : ByteArray) (hs : s.size ≤ 100000000000) (bs : Nat) (σ : Heap) : callT T 44 [.str s] bs σ = some (.str (nameFit s), σ) := call_clean rfl rfl rfl (by simp) (lawName_ok s hs)
/-- A text's byte. -/
def textC (b : UInt8) : UInt8 := if 32 + b.toNat % 95 = 34 ∨ 32 + b.toNat % 95 = 92 then 32 else UInt8.ofNat (32 + b.toNat % 95)
def textFit (s : ByteArray) : ByteArray := ⟨((s.data.toList.take 32).map textC).toArray⟩
def fitV : Nat → GV → GV
  | d, v =>
    if pickN v.kind 4 = 0 then .mk 1 ((pickN v.num 4294967295 : Int) - 2147483647) ⟨#[]⟩ []
    else if pickN v.kind 4 = 1 then .mk 2 0 (textFit v.text) []
    else if pickN v.kind 4 = 2 then .mk 3 0 (nameFit v.text) []
    else match d with
      | 0 => .mk 4 0 ⟨#[]⟩ []
      | d + 1 => .mk 4 0 ⟨#[]⟩ ((v.items.take 16).map fun x => fitV d (if d = 0 ∧ pickN x.kind 4 = 3 then .mk 0 x.num x.text x.items else x))
theorem fit_text (d : Int) (v : GV) (hv : v.ok) (hs : v.text.size ≤ 100000000000) (hk : pickN v.kind 4 = 1) : pureT T c34 [v.enc, .int .i64 d] = some (GV.mk 2 0 (textFit v.text) []).enc := by
  apply pure_enter (by simp [c34])
  obtain ⟨k, n, s, items⟩ := v
  simp only [GV.ok] at hv
  replace hk : pickN k 4 = 1 := hk
  replace hs : s.size ≤ 100000000000 := hs
  have hp := pick4 k hv.1
  rw [hk] at hp
  obtain ⟨m, hm, hmin⟩ : ∃ m : Nat, m = min s.size 32 ∧ (if (32 : Int) < (s.size : Int) then (32 : Int) else (s.size : Int)) = (m : Int) := ⟨_, rfl, by split <;> omega⟩
  generalize hl : s.data.toList.take m = l
  have hll : l.length = m := by rw [← hl]; simp; omega
  have hcat : u8s (s.extract 0 m) = bv l := by
    rw [u8s_bv]; congr 1; rw [← hl]; simp [ByteArray.data_append, ByteArray.data_extract]
  have hle : m ≤ s.size := by omega
  have hsz : (s.extract 0 m : ByteArray).size = m := by rw [ByteArray.size_extract]; omega
  have hfit : textFit s = ⟨(l.map textC).toArray⟩ := by
    simp only [textFit]
    rw [← hl, hm]
    congr 3
    rcases Nat.lt_or_ge s.size 32 with h | h
    · rw [List.take_of_length_le (by simp; omega), List.take_of_length_le (by simp; omega)]
    · rw [Nat.min_eq_right h]
  simp [c34, GV.enc_eq, GV.kind, GV.num, GV.text, GV.items, hp, hmin, hle, hcat, hsz]
  subst hll
  refine W_for T 0 107 l.length (fun i f σ => f 4 = .ptr 1 0 ∧ f 6 = .sl 2 0 l.length 1 false ∧ f 7 = .int .i64 (i : Int) ∧ ∃ A, σ = [A, .cells [.int .i64 0, .int .i64 0, .str ⟨#[]⟩, .isl [] true] 0 false, .cells (bv (mp textC l i)) 0 true]) ?_ _ _ ?_
  · rintro i f σ hi ⟨h4, h6, h7, A, rfl⟩
    by_cases hlt : i < l.length
    · have hw : IntKind.i64.wrap ((i : Int) + 1) = (i : Int) + 1 := wr64 (by omega) (by omega)
      have hc4 : i + 1 ≤ l.length := hlt
      have hwin := bv_win (l := mp textC l i) (i := i) (by simp; omega)
      simp [mp_get hlt] at hwin
      have htm : ((l[i].toNat : Int)).tmod 95 = ((l[i].toNat % 95 : Nat) : Int) := rfl
      generalize hk : l[i].toNat % 95 = k at *
      have hk37 : k < 95 := by omega
      obtain ⟨b, hb, hbn⟩ : ∃ b : UInt8, b = UInt8.ofNat (32 + k) ∧ b.toNat = 32 + k := ⟨_, rfl, by rw [UInt8.toNat_ofNat', Nat.mod_eq_of_lt (by omega)]⟩
      have hn : textC l[i] = (if b.toNat = 34 ∨ b.toNat = 92 then 32 else b) := by simp only [textC, hk, hbn]; rw [hb]
      have hv : IntKind.u8.wrap (32 + (k : Int)) = (b.toNat : Int) := by rw [wru8 (by omega) (by omega)]; omega
      have hst : (bv (mp textC l i)).set i (.int .u8 (b.toNat : Int)) = bv ((mp textC l i).set i b) := bv_set ..
      have hwin2 := bv_win (l := (mp textC l i).set i b) (i := i) (by simp; omega)
      rw [List.getElem_set_self] at hwin2
      have hst2 : (bv ((mp textC l i).set i b)).set i (.int .u8 32) = bv ((mp textC l i).set i 32) := by
        have := bv_set ((mp textC l i).set i b) i 32
        rw [List.set_set] at this; exact this
      have e1 : b.toNat = 34 ∨ b.toNat = 92 → (mp textC l i).set i 32 = mp textC l (i + 1) := fun h => by rw [← mp_set hlt, hn, if_pos h]
      have e2 : ¬ (b.toNat = 34 ∨ b.toNat = 92) → (mp textC l i).set i b = mp textC l (i + 1) := fun h => by rw [← mp_set hlt, hn, if_neg h]
      simp [h4, h6, h7, hc4, hw, hlt, hwin, htm, hv, setRun_one, hst, hwin2, hst2]
      refine ⟨fun h => by rw [e1 (by omega)], fun h => ⟨fun h => by rw [e1 (by omega)], fun h => by rw [e2 (by omega)]⟩⟩
    · have he : i = l.length := by omega
      subst he
      have hel := b2s_bv (σ := [A, .cells [.int .i64 0, .int .i64 0, .str ⟨#[]⟩, .isl [] true] 0 false, .cells (bv (mp textC l l.length)) 0 true]) (id := 2) (l := mp textC l l.length) rfl (n := l.length) (by simp)
      rw [mp_all] at hel
      simp [h4, h6, h7, mp_all, hel, hfit, setRun, GV.encs]
  · simp [mp_zero]
end Go.Proofs.Ytkjfkbblfjmnaaa
end
section
set_option linter.unusedVariables false
set_option linter.unusedSimpArgs false
set_option linter.unnecessarySimpa false
namespace Go.Proofs.Ytkjfkbblfjmnaaa
open Go.Mach

theorem enc_mk (k n : Int) (t : ByteArray) (l : List GV) : AV.agg [.int .i64 k, .int .i64 n, .str t, .isl (GV.encs l) false] = (GV.mk k n t l).enc := by simp only [GV.enc]
theorem enc_mk0 (k n : Int) (t : ByteArray) : AV.agg [.int .i64 k, .int .i64 n, .str t, .isl [] false] = (GV.mk k n t []).enc := by simp only [GV.enc, GV.encs]
@[simp] theorem gv_eta (v : GV) : GV.mk v.kind v.num v.text v.items = v := by cases v; rfl
@[simp] theorem encs_nil' : GV.encs [] = [] := rfl
@[simp] theorem encs_one (v : GV) : GV.encs [v] = [v.enc] := rfl
@[simp] theorem encs_snoc (l : List GV) (v : GV) : GV.encs l ++ [v.enc] = GV.encs (l ++ [v]) := by simp [GV.encs_map]
@[simp] theorem encs_okEl (l : List GV) : (GV.encs l).all (okEl 4 true) = true := by
  rw [List.all_eq_true]
  intro x hx
  rw [GV.encs_map] at hx
  obtain ⟨v, _, rfl⟩ := List.mem_map.1 hx
  rw [GV.enc_eq]; rfl
/-- The list's part that is done; where it is. -/
def LstAt (rest : Heap) (off : Nat) (es : List AV) (sz : Nat) (lst : AV) : Prop :=
  (es = [] ∧ lst = .isl [] true) ∨ (∃ k, lst = .own (k + off) es ∧ k < rest.length ∧ rest[k]? = some (.tok es.length sz))
theorem fit_list (d : Nat) (hd : d ≤ 100) (k n : Int) (t : ByteArray) (items : List GV) (hv : (GV.mk k n t items).ok) (hl : items.length ≤ 100000000000) (hk : pickN k 4 = 3) (g : GV → GV)
    (hg : ∀ x ∈ items, ∀ bs σ, callT T 34 [(if d ≤ 1 ∧ pickN x.kind 4 = 3 then GV.mk 0 x.num x.text x.items else x).enc, .int .i64 ((d : Int) - 1)] bs σ = some ((g x).enc, σ)) :
    pureT T c34 [(GV.mk k n t items).enc, .int .i64 d] = some (GV.mk 4 0 ⟨#[]⟩ ((items.take 16).map g)).enc := by
  apply pure_enter (by simp [c34])
  simp only [GV.ok] at hv
  have hp := pick4 k hv.1
  rw [hk] at hp
  simp [c34, hp, setRun]
  refine W_for T 0 107 (min items.length 16) (fun i f σ => f 1 = .int .i64 (d : Int) ∧ f 2 = .ptr 0 0 ∧ f 4 = .ptr 1 0 ∧ f 8 = .ptr 2 0 ∧ f 9 = .int .i64 (i : Int) ∧ ∃ lst rest,
    σ = [.cells [.int .i64 k, .int .i64 n, .str t, .isl (GV.encs items) false] 0 false, .cells [.int .i64 0, .int .i64 0, .str ⟨#[]⟩, .isl [] true] 0 false, .cells [.int .i64 4, .int .i64 0, .str ⟨#[]⟩, lst] 0 false] ++ rest ∧
    LstAt rest 3 (GV.encs ((items.take i).map g)) 4 lst) ?_ _ _ ?_
  · rintro i f σ hi ⟨h1, h2, h4, h8, h9, lst, rest, rfl, hlst⟩
    by_cases hlt : i < min items.length 16
    · have hw : IntKind.i64.wrap ((i : Int) + 1) = (i : Int) + 1 := wr64 (by omega) (by omega)
      have hwd : IntKind.i64.wrap ((d : Int) - 1) = (d : Int) - 1 := wr64 (by omega) (by omega)
      have hc1 : i < items.length := by omega
      have hc2 : (i : Int) < 16 := by omega
      have hok : GV.ok items[i] := (GV.oks_iff items).1 hv.2.2 _ (List.getElem_mem hc1)
      have hpk := pick4 items[i].kind (by revert hok; cases items[i]; simp only [GV.ok]; exact fun h => h.1)
      have hcl := hg items[i] (List.getElem_mem hc1)
      have htk : (items.take (i + 1)).map g = (items.take i).map g ++ [g items[i]] := by rw [List.take_add_one, List.getElem?_eq_getElem hc1, List.map_append]; rfl
      have hlen : ((items.take i).map g).length = i := by simp; omega
      generalize (items.take i).map g = done at *
      rw [htk]
      have hdl : done.length ≤ 10000000000 := by omega
      have hown : ∀ kk X, kk < rest.length → LstAt (rest.set kk (.tok (done.length + 1) 4) ++ X) 3 (GV.encs (done ++ [g items[i]])) 4 (.own (kk + 3) (GV.encs (done ++ [g items[i]]))) := fun kk X hk => .inr ⟨kk, rfl, by simp; omega, by rw [List.getElem?_append_left (by simpa using hk)]; simp [hk]⟩
      by_cases hc3 : d ≤ 1
      · have hc4 : (d : Int) ≤ 1 := by omega
        by_cases hc6 : pickN items[i].kind 4 = 3
        · simp only [hc3, hc6, and_self, if_true] at hcl
          rcases hlst with ⟨he, rfl⟩ | ⟨kk, rfl, hkl, hkk⟩
          · have hd0 : done = [] := (encs_nil _).1 he
            simp [h1, h2, h4, h8, h9, hc1, hc2, hw, hwd, hpk, setRun, enc_mk, hc4, hcl, gv_eta, hc6]
            refine ⟨by omega, _, _, ⟨rfl, rfl⟩, .inr ⟨rest.length + 2, ?_, by simp, by simp [hd0]⟩⟩
            simp [hd0]
          · simp [h1, h2, h4, h8, h9, hc1, hc2, hw, hwd, hpk, setRun, enc_mk, hc4, hcl, gv_eta, hc6, List.getElem?_append_left hkl, hkk, List.set_append_left _ _ hkl, hdl]
            exact ⟨by omega, _, _, ⟨rfl, rfl⟩, hown kk _ hkl⟩
        · have hc5 : ¬ (d ≤ 1 ∧ pickN items[i].kind 4 = 3) := by omega
          have hc7 : ¬ ((pickN items[i].kind 4 : Int) = 3) := by omega
          simp only [if_neg hc5] at hcl
          rcases hlst with ⟨he, rfl⟩ | ⟨kk, rfl, hkl, hkk⟩
          · have hd0 : done = [] := (encs_nil _).1 he
            simp [h1, h2, h4, h8, h9, hc1, hc2, hw, hwd, hpk, setRun, enc_mk, hc4, hcl, gv_eta, hc7]
            refine ⟨by omega, _, _, ⟨rfl, rfl⟩, .inr ⟨rest.length + 2, ?_, by simp, by simp [hd0]⟩⟩
            simp [hd0]
          · simp [h1, h2, h4, h8, h9, hc1, hc2, hw, hwd, hpk, setRun, enc_mk, hc4, hcl, gv_eta, hc7, List.getElem?_append_left hkl, hkk, List.set_append_left _ _ hkl, hdl]
            exact ⟨by omega, _, _, ⟨rfl, rfl⟩, hown kk _ hkl⟩
      · have hc4 : ¬ (d : Int) ≤ 1 := by omega
        have hc5 : ¬ (d ≤ 1 ∧ pickN items[i].kind 4 = 3) := by omega
        simp only [if_neg hc5] at hcl
        rcases hlst with ⟨he, rfl⟩ | ⟨kk, rfl, hkl, hkk⟩
        · have hd0 : done = [] := (encs_nil _).1 he
          simp [h1, h2, h4, h8, h9, hc1, hc2, hw, hwd, hpk, setRun, enc_mk, hc4, hcl, gv_eta]
          refine ⟨by omega, _, _, ⟨rfl, rfl⟩, .inr ⟨rest.length + 2, ?_, by simp, by simp [hd0]⟩⟩
          simp [hd0]
        · simp [h1, h2, h4, h8, h9, hc1, hc2, hw, hwd, hpk, setRun, enc_mk, hc4, hcl, gv_eta, List.getElem?_append_left hkl, hkk, List.set_append_left _ _ hkl, hdl]
          exact ⟨by omega, _, _, ⟨rfl, rfl⟩, hown kk _ hkl⟩
    · have he : i = min items.length 16 := by omega
      have htake : items.take i = items.take 16 := by
        rw [he]
        rcases Nat.lt_or_ge items.length 16 with h | h
        · rw [List.take_of_length_le (by omega), List.take_of_length_le (by omega)]
        · rw [Nat.min_eq_right h]
      rw [htake] at hlst
      have hb : ¬ i < items.length ∨ (i < items.length ∧ ¬ (i : Int) < 16) := by omega
      rcases hb with hb | ⟨hb, hb2⟩
      · rcases hlst with ⟨he2, rfl⟩ | ⟨kk, rfl, hkl, hkk⟩
        · simp [h1, h2, h4, h8, h9, setRun, hb, GV.enc, ← List.map_take, he2]
        · simp [h1, h2, h4, h8, h9, setRun, hb, GV.enc, ← List.map_take]
      · rcases hlst with ⟨he2, rfl⟩ | ⟨kk, rfl, hkl, hkk⟩
        · simp [h1, h2, h4, h8, h9, setRun, hb, hb2, GV.enc, ← List.map_take, he2]
        · simp [h1, h2, h4, h8, h9, setRun, hb, hb2, GV.enc, ← List.map_take]
  · exact ⟨by simp, by simp, by simp, by simp, by simp, _, [], by simp, .inl ⟨by simp, rfl⟩⟩
theorem text_le (v : GV) : v.text.size ≤ v.size := by obtain ⟨k, n, t, l⟩ := v; show t.size ≤ _; simp only [GV.size]; omega
theorem items_le (v : GV) : GV.sizes v.items + 5 ≤ v.size := by obtain ⟨k, n, t, l⟩ := v; show GV.sizes l + 5 ≤ _; simp only [GV.size]; omega
theorem gv_ext (a b : GV) : a = b ↔ a.kind = b.kind ∧ a.num = b.num ∧ a.text = b.text ∧ a.items = b.items := by
  obtain ⟨k, n, t, l⟩ := a; obtain ⟨k2, n2, t2, l2⟩ := b; simp [GV.kind, GV.num, GV.text, GV.items]
theorem fit_other (d : Int) (v : GV) (hv : v.ok) (hs : v.size ≤ 100000000000) (hk : pickN v.kind 4 ≠ 3) (dd : Nat) : pureT T c34 [v.enc, .int .i64 d] = some (fitV dd v).enc := by
  have hlt := pickN_lt (c := v.kind) (n := 4) (by omega)
  have hts : v.text.size ≤ 100000000000 := Nat.le_trans (text_le v) hs
  have hkk : GV.i64ok v.kind ∧ GV.i64ok v.num := by revert hv; cases v; simp only [GV.ok]; exact fun h => ⟨h.1, h.2.1⟩
  have hp := pick4 v.kind hkk.1
  have hpm := pickM v.num hkk.2
  have hn := lawName v.text hts
  have hm := pickN_lt (c := v.num) (n := 4294967295) (by omega)
  have hw : IntKind.i64.wrap ((pickN v.num 4294967295 : Int) - 2147483647) = (pickN v.num 4294967295 : Int) - 2147483647 := wr64 (by omega) (by omega)
  have hcase : pickN v.kind 4 = 0 ∨ pickN v.kind 4 = 1 ∨ pickN v.kind 4 = 2 := by omega
  rcases hcase with h | h | h
  · rw [h] at hp
    apply pure_enter (by simp [c34])
    cases dd <;> simp [c34, hp, hpm, hw, setRun, fitV, h, GV.enc]
  · have := fit_text d v hv hts h
    rw [this]
    cases dd <;> simp [fitV, h]
  · rw [h] at hp
    apply pure_enter (by simp [c34])
    cases dd <;> simp [c34, hp, hn, setRun, fitV, h, GV.enc]
theorem fit_ok : ∀ (d : Nat) (v : GV), d ≤ 100 → v.ok → v.size ≤ 100000000000 → (d = 0 → pickN v.kind 4 ≠ 3) → pureT T c34 [v.enc, .int .i64 d] = some (fitV d v).enc := by
  intro d
  induction d with
  | zero => intro v hd hv hs h0; exact fit_other _ v hv hs (h0 rfl) 0
  | succ d ih =>
    intro v hd hv hs _
    by_cases hk : pickN v.kind 4 = 3
    · obtain ⟨k, n, t, items⟩ := v
      have hk' : pickN k 4 = 3 := hk
      have hv' := hv
      simp only [GV.ok] at hv'
      have hs' := hs
      simp only [GV.size] at hs'
      have hl := len_sizes items
      rw [fit_list (d + 1) hd k n t items hv (by omega) hk' (fun x => fitV d (if d = 0 ∧ pickN x.kind 4 = 3 then .mk 0 x.num x.text x.items else x)) (fun x hx bs σ => ?_)]
      · simp only [fitV]
        rw [if_neg (by show ¬ pickN k 4 = 0; omega), if_neg (by show ¬ pickN k 4 = 1; omega), if_neg (by show ¬ pickN k 4 = 2; omega)]
      · have hxo : x.ok := (GV.oks_iff items).1 hv'.2.2 x hx
        have hxs := (sizes_mem hx).1
        have e : (((d + 1 : Nat) : Int) - 1) = (d : Int) := by omega
        rw [e]
        have hcond : (d + 1 ≤ 1 ∧ pickN x.kind 4 = 3) ↔ (d = 0 ∧ pickN x.kind 4 = 3) := by omega
        simp only [hcond]
        refine call_clean rfl rfl rfl (by simp) (ih _ (by omega) ?_ ?_ ?_)
        · split
          · revert hxo; cases x; simp only [GV.ok]; exact fun h => ⟨by simp [GV.i64ok], h.2.1, h.2.2⟩
          · exact hxo
        · split
          · have : (GV.mk 0 x.num x.text x.items).size = x.size := by cases x; simp only [GV.size]
            omega
          · omega
        · intro h0
          split
          · show pickN 0 4 ≠ 3; decide
          · rename_i hc; intro h3; exact hc ⟨h0, h3⟩
    · exact fit_other _ v hv hs hk (d + 1)
/-- A raw value, made right. -/
def fit (v : GV) : GV := fitV 4 v
theorem Fit_ok (v : GV) (hv : v.ok) (hs : v.size ≤ 100000000000) : pureT T c15 [v.enc] = some (fit v).enc := by
  have hr : ∀ bs σ, callT T 34 [v.enc, .int .i64 4] bs σ = some ((fit v).enc, σ) := fun bs σ => call_clean rfl rfl rfl (by simp) (fit_ok 4 v (by omega) hv hs (by omega))
  apply pure_enter (by simp [c15])
  simp [c15, hr, setRun, enc_mk]
theorem callFit (v : GV) (hv : v.ok) (hs : v.size ≤ 100000000000) (bs : Nat) (σ : Heap) : callT T 15 [v.enc] bs σ = some ((fit v).enc, σ) := call_clean rfl rfl rfl (by simp) (Fit_ok v hv hs)

/-! ### Are two values the same? -/
mutual
def sameV : GV → GV → Bool
  | .mk k n t l, b => decide (k = b.kind) && decide (n = b.num) && decide (t = b.text) && sameVs l b.items
def sameVs : List GV → List GV → Bool
  | [], [] => true
  | x :: xs, y :: ys => sameV x y && sameVs xs ys
  | _, _ => false
end
mutual
theorem sameV_iff : ∀ a b : GV, sameV a b = true ↔ a = b
  | .mk k n t l, .mk k2 n2 t2 l2 => by
    have := sameVs_iff l l2
    simp [sameV, this, and_assoc]
theorem sameVs_iff : ∀ a b : List GV, sameVs a b = true ↔ a = b
  | [], [] => by simp [sameVs]
  | [], _ :: _ => by simp [sameVs]
  | _ :: _, [] => by simp [sameVs]
  | x :: xs, y :: ys => by
    have h1 := sameV_iff x y
    have h2 := sameVs_iff xs ys
    simp [sameVs, h1, h2]
end
instance : DecidableEq GV := fun a b => decidable_of_iff _ (sameV_iff a b)
theorem values_ok (l l2 : List GV) (hl : l.length ≤ 100000000000) (hc : ∀ x ∈ l, ∀ y ∈ l2, ∀ bs σ, callT T 14 [x.enc, y.enc] bs σ = some (.bool (sym (decide (x = y))), σ)) :
    pureT T c33 [.isl (GV.encs l) false, .isl (GV.encs l2) false] = some (.bool (decide (l = l2))) := by
  apply pure_enter (by simp [c33])
  by_cases hlen : l.length = l2.length
  · simp [c33, hlen]
    refine W_for T 0 29 l.length (fun i f σ => f 0 = .isl (GV.encs l) false ∧ f 1 = .isl (GV.encs l2) false ∧ f 5 = .int .i64 (i : Int) ∧ σ = [] ∧ ∀ j, (h1 : j < l.length) → (h2 : j < l2.length) → j < i → l[j] = l2[j]) ?_ _ _ ?_
    · rintro i f σ hi ⟨h0, h1, h5, rfl, hall⟩
      by_cases hlt : i < l.length
      · have hlt2 : i < l2.length := by omega
        have hw : IntKind.i64.wrap ((i : Int) + 1) = (i : Int) + 1 := wr64 (by omega) (by omega)
        have hcl := hc l[i] (List.getElem_mem hlt) l2[i] (List.getElem_mem hlt2)
        simp [h0, h1, h5, hlt, hlt2, hw, hcl]
        refine ⟨fun h j h1 h2 hj => ?_, fun h e => ?_⟩
        · by_cases e : j = i
          · subst e; exact h
          · exact hall j h1 h2 (by omega)
        · subst e; exact h rfl
      · have he : i = l.length := by omega
        subst he
        simp [h0, h1, h5]
        exact List.ext_getElem hlen fun j h1 h2 => hall j h1 h2 h1
    · simp
  · have hne : ¬ l = l2 := fun e => hlen (by rw [e])
    have hlen' : ¬ (l.length : Int) = (l2.length : Int) := by omega
    simp [c33, hlen', hne]
theorem same_ok : ∀ (n : Nat) (a b : GV), a.size ≤ n → n ≤ 100000000000 → pureT T c14 [a.enc, b.enc] = some (.bool (decide (a = b))) := by
  intro n
  induction n with
  | zero => intro a b h; cases a; simp [GV.size] at h
  | succ n ih =>
    intro a b hs hn
    have hl : GV.sizes a.items ≤ n := by have := items_le a; omega
    have hlen := len_sizes a.items
    have hv : ∀ bs σ, callT T 33 [.isl (GV.encs a.items) false, .isl (GV.encs b.items) false] bs σ = some (.bool (sym (decide (a.items = b.items))), σ) := fun bs σ =>
      call_clean rfl rfl rfl (by simp) (values_ok a.items b.items (by omega) fun x hx y hy bs σ => call_clean rfl rfl rfl (by simp) (ih x y (by have := (sizes_mem hx).1; omega) (by omega)))
    apply pure_enter (by simp [c14])
    simp [c14, hv, setRun, enc_mk]
    have := gv_ext a b
    grind
theorem callSame (a b : GV) (hs : a.size ≤ 100000000000) (bs : Nat) (σ : Heap) : callT T 14 [a.enc, b.enc] bs σ = some (.bool (sym (decide (a = b))), σ) := call_clean rfl rfl rfl (by simp) (same_ok a.size a b (Nat.le_refl _) hs)
end Go.Proofs.Ytkjfkbblfjmnaaa
end
section
set_option linter.unusedVariables false
set_option linter.unusedSimpArgs false
set_option linter.unnecessarySimpa false
namespace Go.Proofs.Ytkjfkbblfjmnaaa
open Go.Mach

/-! ### What is made right may be; what may be is small -/
theorem ba_list (t : ByteArray) (l : List UInt8) (h : t = ⟨l.toArray⟩) : t.data.toList = l ∧ t.size = l.length := by
  subst h; exact ⟨rfl, by show l.toArray.size = _; rw [List.size_toArray]⟩
theorem nameC_inner (b : UInt8) : innerB (nameC b).toNat = true := by
  have hb := b.toNat_lt
  generalize hk : b.toNat % 37 = k
  have hk37 : k < 37 := by omega
  simp only [nameC, hk]
  split
  · rw [UInt8.toNat_ofNat', Nat.mod_eq_of_lt (by omega)]; simp [innerB, letterB]; omega
  · split
    · rw [UInt8.toNat_ofNat', Nat.mod_eq_of_lt (by omega)]; simp [innerB, letterB]; omega
    · decide
theorem nameFit_list (s : ByteArray) : (nameFit s).data.toList = 110 :: (s.data.toList.take 15).map nameC ∧ (nameFit s).size = (110 :: (s.data.toList.take 15).map nameC : List UInt8).length := ba_list _ _ rfl
theorem nameFit_ok (s : ByteArray) : nameOK (nameFit s) = true := by
  obtain ⟨h1, h2⟩ := nameFit_list s
  simp only [nameOK, h1, h2, nameL, Bool.and_eq_true, decide_eq_true_eq, List.all_eq_true, List.length_cons, List.length_map, List.length_take]
  refine ⟨⟨by decide, fun c hc => ?_⟩, by omega⟩
  obtain ⟨b, _, rfl⟩ := List.mem_map.1 hc
  exact nameC_inner b
theorem nameFit_size (s : ByteArray) : 1 ≤ (nameFit s).size ∧ (nameFit s).size ≤ 16 := by
  rw [(nameFit_list s).2]
  simp only [List.length_cons, List.length_map, List.length_take]
  omega
theorem textC_plain (b : UInt8) : plainB (textC b).toNat = true := by
  generalize hk : b.toNat % 95 = k
  have hk37 : k < 95 := by omega
  simp only [textC, hk]
  split
  · decide
  · rw [UInt8.toNat_ofNat', Nat.mod_eq_of_lt (by omega)]; simp [plainB]; omega
theorem textFit_ok (s : ByteArray) : textOK (textFit s) = true := by
  obtain ⟨h1, h2⟩ := ba_list (textFit s) _ rfl
  simp only [textOK, h1, h2, Bool.and_eq_true, decide_eq_true_eq, List.all_eq_true, List.length_map, List.length_take]
  refine ⟨fun c hc => ?_, by omega⟩
  obtain ⟨b, _, rfl⟩ := List.mem_map.1 hc
  exact textC_plain b
theorem rb1 (m : Nat) (h : m < 4294967295) (lst : Bool) : rightB (.mk 1 ((m : Int) - 2147483647) ⟨#[]⟩ []) lst = true := by
  simp [rightB, GV.kind, GV.num, GV.text, GV.items]; omega
theorem rb2 (t : ByteArray) (h : textOK t = true) (lst : Bool) : rightB (.mk 2 0 t []) lst = true := by
  simp [rightB, GV.kind, GV.num, GV.text, GV.items, h]
theorem rb3 (t : ByteArray) (h : nameOK t = true) (lst : Bool) : rightB (.mk 3 0 t []) lst = true := by
  simp [rightB, GV.kind, GV.num, GV.text, GV.items, h]
theorem rb4 (l : List GV) (lst : Bool) (h : lst = true) : rightB (.mk 4 0 ⟨#[]⟩ l) lst = true := by
  simp [rightB, GV.kind, GV.num, GV.text, GV.items, h]
theorem rb_right (d : Nat) (v : GV) (h : ∀ lst, rightB v lst = true) : rightV d v = true := by cases d <;> exact h _
theorem fitV_right : ∀ (d : Nat) (v : GV), (d = 0 → pickN v.kind 4 ≠ 3) → rightV d (fitV d v) = true := by
  intro d
  induction d with
  | zero =>
    intro v h0
    have hlt := pickN_lt (c := v.kind) (n := 4) (by omega)
    have hm := pickN_lt (c := v.num) (n := 4294967295) (by omega)
    have h3 := h0 rfl
    unfold fitV
    by_cases h0 : pickN v.kind 4 = 0
    · rw [if_pos h0]; exact rb_right _ _ (rb1 _ hm)
    · rw [if_neg h0]
      by_cases h1 : pickN v.kind 4 = 1
      · rw [if_pos h1]; exact rb_right _ _ (rb2 _ (textFit_ok _))
      · have h2 : pickN v.kind 4 = 2 := by omega
        rw [if_neg h1, if_pos h2]; exact rb_right _ _ (rb3 _ (nameFit_ok _))
  | succ d ih =>
    intro v _
    have hm := pickN_lt (c := v.num) (n := 4294967295) (by omega)
    unfold fitV
    by_cases h0 : pickN v.kind 4 = 0
    · rw [if_pos h0]; exact rb_right _ _ (rb1 _ hm)
    · rw [if_neg h0]
      by_cases h1 : pickN v.kind 4 = 1
      · rw [if_pos h1]; exact rb_right _ _ (rb2 _ (textFit_ok _))
      · rw [if_neg h1]
        by_cases h2 : pickN v.kind 4 = 2
        · rw [if_pos h2]; exact rb_right _ _ (rb3 _ (nameFit_ok _))
        · rw [if_neg h2]
          refine rb4 _ _ (decide_eq_true ⟨by simp; omega, ?_⟩)
          show ((v.items.take 16).map _).all (rightV d) = true
          rw [List.all_eq_true]
          intro x hx
          obtain ⟨y, _, rfl⟩ := List.mem_map.1 hx
          refine ih _ fun h0 => ?_
          split
          · show pickN 0 4 ≠ 3; decide
          · rename_i hc; intro h3; exact hc ⟨h0, h3⟩
theorem fit_right (v : GV) : rightT (fit v) = true := fitV_right 4 v (by omega)
def maxSize : Nat → Nat
  | 0 => 42
  | d + 1 => 42 + 16 * maxSize d
theorem sizes_le {l : List GV} {m : Nat} (h : ∀ x ∈ l, x.size ≤ m) : GV.sizes l ≤ l.length * m := by
  induction l with
  | nil => simp [GV.sizes]
  | cons x l ih =>
    have h1 := h x (by simp)
    have h2 := ih fun y hy => h y (by simp [hy])
    simp only [GV.sizes, List.length_cons, Nat.add_mul]; omega
theorem right_size : ∀ (d : Nat) (v : GV), rightV d v = true → v.size ≤ maxSize d := by
  have base : ∀ (v : GV) (lst : Bool), rightB v lst = true → (lst = true → GV.sizes v.items ≤ 16 * 0 + GV.sizes v.items) → v.size ≤ 42 + (if v.kind = 4 ∧ lst = true then GV.sizes v.items else 0) := by
    intro v lst h _
    obtain ⟨k, n, t, l⟩ := v
    simp only [rightB, GV.kind, GV.num, GV.text, GV.items] at h
    simp only [GV.size, GV.kind, GV.items]
    have hnil : l = [] → GV.sizes l = 0 := fun e => by subst e; rfl
    by_cases h1 : k = 1
    · rw [if_pos h1, decide_eq_true_eq] at h; have := hnil h.2.1; have ht : t.size = 0 := by rw [h.1]; rfl
      omega
    · rw [if_neg h1] at h
      by_cases h2 : k = 2
      · rw [if_pos h2, decide_eq_true_eq] at h; have := hnil h.2.1; have := ((textOK_iff t).1 h.2.2).2; omega
      · rw [if_neg h2] at h
        by_cases h3 : k = 3
        · rw [if_pos h3, decide_eq_true_eq] at h; have := hnil h.2.1; have := ((nameOK_iff t).1 h.2.2).2.2; omega
        · rw [if_neg h3] at h
          by_cases h4 : k = 4
          · rw [if_pos h4, decide_eq_true_eq] at h
            have ht : t.size = 0 := by rw [h.2.1]; rfl
            rw [if_pos ⟨h4, h.2.2⟩]; omega
          · rw [if_neg h4] at h; cases h
  intro d
  induction d with
  | zero =>
    intro v h
    have := base v false h (fun h => by cases h)
    simp only [Bool.false_eq_true, and_false, if_false] at this
    simpa [maxSize] using this
  | succ d ih =>
    intro v h
    have hb := base v _ h (fun _ => by omega)
    simp only [maxSize]
    split at hb
    · rename_i hc
      have hl := hc.2
      rw [decide_eq_true_eq] at hl
      have hs := sizes_le (l := v.items) (m := maxSize d) fun x hx => ih x (List.all_eq_true.1 hl.2 x hx)
      have : v.items.length * maxSize d ≤ 16 * maxSize d := Nat.mul_le_mul_right _ hl.1
      omega
    · omega
theorem rightT_size {v : GV} (h : rightT v = true) : v.size ≤ 2936010 := Nat.le_trans (right_size 4 v h) (by decide)
theorem fit_size (v : GV) : (fit v).size ≤ 2936010 := rightT_size (fit_right v)
end Go.Proofs.Ytkjfkbblfjmnaaa
end
section
set_option linter.unusedVariables false
set_option linter.unusedSimpArgs false
set_option linter.unnecessarySimpa false
namespace Go.Mach

/-! ### Terms, and what is bound -/
inductive GT where
  | mk (kind : Int) (name : ByteArray) (value : GV) (args : List GT)
  deriving Inhabited
namespace GT
abbrev kind : GT → Int | .mk k _ _ _ => k
abbrev name : GT → ByteArray | .mk _ n _ _ => n
abbrev value : GT → GV | .mk _ _ v _ => v
abbrev args : GT → List GT | .mk _ _ _ l => l
mutual
def enc : GT → AV
  | .mk k n v l => .agg [.int .i64 k, .str n, .int .i64 v.kind, .int .i64 v.num, .str v.text, .isl (GV.encs v.items) false, .isl (encs l) false]
def encs : List GT → List AV
  | [] => []
  | v :: l => enc v :: encs l
end
theorem encs_map : ∀ l : List GT, encs l = l.map enc
  | [] => rfl
  | v :: l => by simp only [encs, List.map_cons, encs_map l]
@[simp] theorem encs_length (l : List GT) : (encs l).length = l.length := by simp [encs_map]
@[simp] theorem encs_get (l : List GT) (i : Nat) : (encs l)[i]? = l[i]?.map enc := by simp [encs_map]
@[simp] theorem encs_getE (l : List GT) (i : Nat) (h : i < (encs l).length) : (encs l)[i] = (l[i]'(by simpa using h)).enc := by simp [encs_map]
theorem encs_nil (l : List GT) : encs l = [] ↔ l = [] := by cases l <;> simp [encs]
@[simp] theorem encs_nil' : encs [] = [] := rfl
@[simp] theorem encs_one (v : GT) : encs [v] = [v.enc] := rfl
@[simp] theorem encs_snoc (l : List GT) (v : GT) : encs l ++ [v.enc] = encs (l ++ [v]) := by simp [encs_map]
@[simp] theorem eta (v : GT) : GT.mk v.kind v.name v.value v.args = v := by cases v; rfl
theorem enc_eq (v : GT) : v.enc = .agg [.int .i64 v.kind, .str v.name, .int .i64 v.value.kind, .int .i64 v.value.num, .str v.value.text, .isl (GV.encs v.value.items) false, .isl (encs v.args) false] := by cases v; simp only [enc]
theorem enc_mk (k : Int) (n : ByteArray) (vk vn : Int) (vt : ByteArray) (vl : List GV) (l : List GT) :
    AV.agg [.int .i64 k, .str n, .int .i64 vk, .int .i64 vn, .str vt, .isl (GV.encs vl) false, .isl (encs l) false] = (GT.mk k n (.mk vk vn vt vl) l).enc := by simp only [enc]
@[simp] theorem enc_cells (v : GT) : v.enc.cells = [.int .i64 v.kind, .str v.name, .int .i64 v.value.kind, .int .i64 v.value.num, .str v.value.text, .isl (GV.encs v.value.items) false, .isl (encs v.args) false] := by rw [enc_eq]; rfl
@[simp] theorem enc_solid (v : GT) : v.enc.solid = true := by rw [enc_eq]; rfl
@[simp] theorem enc_clean (v : GT) : v.enc.clean = true := by rw [enc_eq]; rfl
@[simp] theorem enc_closeA (σ : Heap) (v : GT) : closeA σ v.enc = some (v.enc, σ) := (clean_close (by simp)).1
@[simp] theorem enc_closeR (σ : Heap) (v : GT) : closeR σ v.enc = some (v.enc, σ) := by rw [enc_eq]; rfl
@[simp] theorem enc_datR (v : GT) : v.enc.datR = true := by rw [enc_eq]; rfl
@[simp] theorem enc_dat (v : GT) : v.enc.dat = true := by rw [enc_eq]; rfl
@[simp] theorem enc_clo (v : GT) : v.enc.clo = true := by rw [enc_eq]; rfl
@[simp] theorem encs_okEl (l : List GT) : (encs l).all (okEl 7 true) = true := by
  rw [List.all_eq_true]
  intro x hx
  rw [encs_map] at hx
  obtain ⟨v, _, rfl⟩ := List.mem_map.1 hx
  rw [enc_eq]; rfl
mutual
def ok : GT → Prop
  | .mk k _ v l => GV.i64ok k ∧ v.ok ∧ oks l
def oks : List GT → Prop
  | [] => True
  | v :: l => ok v ∧ oks l
end
theorem oks_iff : ∀ l : List GT, oks l ↔ ∀ v ∈ l, ok v
  | [] => by simp [oks]
  | v :: l => by simp [oks, oks_iff l]
mutual
def size : GT → Nat
  | .mk k n v l => n.size + v.size + sizes l + 3
def sizes : List GT → Nat
  | [] => 0
  | v :: l => size v + sizes l
end
mutual
theorem bulk_enc : ∀ v : GT, bulkA v.enc = v.size
  | .mk k n v l => by
    have h := bulk_encs l
    have h2 := GV.bulk_enc v
    rw [GV.enc_eq] at h2
    simp only [enc, bulkA, bulkAs, size, h] at h2 ⊢; omega
theorem bulk_encs : ∀ l : List GT, bulkAs (encs l) = sizes l
  | [] => by simp [encs, bulkAs, sizes]
  | v :: l => by
    have h1 := bulk_enc v
    have h2 := bulk_encs l
    simp only [encs, bulkAs, sizes, h1, h2]
end
theorem sizes_mem {l : List GT} {x : GT} (h : x ∈ l) : x.size + 5 ≤ GT.sizes l + 5 ∧ l.length ≤ GT.sizes l := by
  induction l with
  | nil => cases h
  | cons y l ih =>
    have hy : 5 ≤ y.size := by obtain ⟨k, n, v, l⟩ := y; cases v; simp [GT.size, GV.size]; omega
    rcases List.mem_cons.1 h with rfl | h
    · refine ⟨by simp [GT.sizes], ?_⟩
      have : ∀ l : List GT, l.length ≤ GT.sizes l := fun l => by
        induction l with
        | nil => simp [GT.sizes]
        | cons z l ih => have : 5 ≤ z.size := (by obtain ⟨k, n, v, l⟩ := z; cases v; simp [GT.size, GV.size]; omega); simp [GT.sizes]; omega
      have := this l
      simp [GT.sizes]; omega
    · obtain ⟨h1, h2⟩ := ih h
      simp [GT.sizes]; omega
theorem len_sizes (l : List GT) : l.length ≤ GT.sizes l := by
  cases l with
  | nil => simp
  | cons x l => exact (sizes_mem (List.mem_cons_self (a := x) (l := l))).2
theorem name_le (v : GT) : v.name.size ≤ v.size := by obtain ⟨k, n, t, l⟩ := v; show n.size ≤ _; simp only [GT.size]; omega
theorem value_le (v : GT) : v.value.size ≤ v.size := by obtain ⟨k, n, t, l⟩ := v; show t.size ≤ _; simp only [GT.size]; omega
theorem args_le (v : GT) : GT.sizes v.args + 3 ≤ v.size := by obtain ⟨k, n, t, l⟩ := v; show GT.sizes l + 3 ≤ _; simp only [GT.size]; omega
end GT
/-- What is bound. -/
structure GB where
  name : ByteArray
  value : GV
  deriving Inhabited
namespace GB
def enc (b : GB) : AV := .agg [.str b.name, .int .i64 b.value.kind, .int .i64 b.value.num, .str b.value.text, .isl (GV.encs b.value.items) false]
def encs (l : List GB) : List AV := l.map enc
@[simp] theorem encs_length (l : List GB) : (encs l).length = l.length := by simp [encs]
@[simp] theorem encs_get (l : List GB) (i : Nat) : (encs l)[i]? = l[i]?.map enc := by simp [encs]
@[simp] theorem encs_getE (l : List GB) (i : Nat) (h : i < (encs l).length) : (encs l)[i] = (l[i]'(by simpa using h)).enc := by simp [encs]
theorem encs_nil (l : List GB) : encs l = [] ↔ l = [] := by cases l <;> simp [encs]
@[simp] theorem encs_nil' : encs [] = [] := rfl
@[simp] theorem encs_one (v : GB) : encs [v] = [v.enc] := rfl
@[simp] theorem encs_snoc (l : List GB) (v : GB) : encs l ++ [v.enc] = encs (l ++ [v]) := by simp [encs]
theorem enc_mk (n : ByteArray) (vk vn : Int) (vt : ByteArray) (vl : List GV) :
    AV.agg [.str n, .int .i64 vk, .int .i64 vn, .str vt, .isl (GV.encs vl) false] = (GB.mk n (.mk vk vn vt vl)).enc := rfl
@[simp] theorem enc_cells (b : GB) : b.enc.cells = [.str b.name, .int .i64 b.value.kind, .int .i64 b.value.num, .str b.value.text, .isl (GV.encs b.value.items) false] := rfl
@[simp] theorem enc_solid (v : GB) : v.enc.solid = true := rfl
@[simp] theorem enc_clean (v : GB) : v.enc.clean = true := rfl
@[simp] theorem enc_closeA (σ : Heap) (v : GB) : closeA σ v.enc = some (v.enc, σ) := (clean_close (by simp)).1
@[simp] theorem enc_closeR (σ : Heap) (v : GB) : closeR σ v.enc = some (v.enc, σ) := rfl
@[simp] theorem enc_datR (v : GB) : v.enc.datR = true := rfl
@[simp] theorem enc_dat (v : GB) : v.enc.dat = true := rfl
@[simp] theorem enc_clo (v : GB) : v.enc.clo = true := rfl
@[simp] theorem encs_okEl (l : List GB) : (encs l).all (okEl 5 true) = true := by
  rw [List.all_eq_true]
  intro x hx
  obtain ⟨v, _, rfl⟩ := List.mem_map.1 hx
  rfl
def size (b : GB) : Nat := b.name.size + b.value.size + 1
def ok (b : GB) : Prop := b.value.ok
theorem bulk_enc (b : GB) : bulkA b.enc = b.size := by
  have h2 := GV.bulk_enc b.value
  rw [GV.enc_eq] at h2
  simp only [enc, bulkA, bulkAs, size] at h2 ⊢; omega
theorem size_mem {l : List GB} {b : GB} (h : b ∈ l) : b.size ≤ bulkAs (encs l) := by
  induction l with
  | nil => cases h
  | cons c l ih =>
    simp only [encs, List.map_cons, bulkAs]
    have e := bulk_enc c
    rcases List.mem_cons.1 h with rfl | h
    · omega
    · have := ih h; simp only [encs] at this; omega
theorem len_le (l : List GB) : l.length ≤ bulkAs (encs l) := by
  induction l with
  | nil => simp
  | cons c l ih =>
    simp only [encs, List.map_cons, bulkAs, List.length_cons] at ih ⊢
    have e := bulk_enc c
    have : 1 ≤ c.size := by simp only [size]; omega
    omega
end GB
end Go.Mach
end
section
set_option linter.unusedVariables false
set_option linter.unusedSimpArgs false
set_option linter.unnecessarySimpa false
namespace Go.Proofs.Ytkjfkbblfjmnaaa
open Go.Mach

/-! ### Raw terms, made right -/
abbrev sCons : ByteArray := ⟨#[102, 95, 99, 111, 110, 115]⟩
abbrev sAppend : ByteArray := ⟨#[102, 95, 97, 112, 112, 101, 110, 100]⟩
abbrev sConcat : ByteArray := ⟨#[102, 95, 99, 111, 110, 99, 97, 116]⟩
abbrev sMember : ByteArray := ⟨#[102, 95, 109, 101, 109, 98, 101, 114]⟩
abbrev sSize : ByteArray := ⟨#[102, 95, 115, 105, 122, 101]⟩
abbrev sFirst : ByteArray := ⟨#[102, 95, 102, 105, 114, 115, 116]⟩
abbrev sLast : ByteArray := ⟨#[102, 95, 108, 97, 115, 116]⟩
abbrev sRest : ByteArray := ⟨#[102, 95, 114, 101, 115, 116]⟩
abbrev sReverse : ByteArray := ⟨#[102, 95, 114, 101, 118, 101, 114, 115, 101]⟩
def arityOf (s : ByteArray) : Int :=
  if s = sCons ∨ s = sAppend ∨ s = sConcat ∨ s = sMember then 2
  else if s = sSize ∨ s = sFirst ∨ s = sLast ∨ s = sRest ∨ s = sReverse then 1 else -1
theorem refArity_ok (s : ByteArray) : pureT T c28 [.str s] = some (.int .i64 (arityOf s)) := by
  apply pure_enter (by simp [c28])
  simp [c28]
  unfold arityOf
  grind
theorem refArity (s : ByteArray) (bs : Nat) (σ : Heap) : callT T 28 [.str s] bs σ = some (.int .i64 (arityOf s), σ) := call_clean rfl rfl rfl (by simp) (refArity_ok s)
def varOf (s : ByteArray) : ByteArray := ⟨#[86]⟩ ++ (nameFit s).extract 1 (nameFit s).size
theorem lawVar_ok (s : ByteArray) (hs : s.size ≤ 100000000000) : pureT T c26 [.str s] = some (.str (varOf s)) := by
  have hn := nameFit_size s
  have hc := lawName s hs
  have h1 : (⟨#[86]⟩ : ByteArray).size = 1 := rfl
  have h2 : ((nameFit s).extract 1 (nameFit s).size).size = (nameFit s).size - 1 := by rw [ByteArray.size_extract]; omega
  apply pure_enter (by simp [c26])
  have h0 : (1 : Int) ≤ ((nameFit s).size : Int) := by omega
  have h3 : (1 : Int) + (((nameFit s).size - 1 : Nat) : Int) ≤ 9223372036854775807 := by omega
  simp [c26, hc, h0, h1, h3, varOf]
theorem lawVar (s : ByteArray) (hs : s.size ≤ 100000000000) (bs : Nat) (σ : Heap) : callT T 26 [.str s] bs σ = some (.str (varOf s), σ) := call_clean rfl rfl rfl (by simp) (lawVar_ok s hs)
def relOf (s : ByteArray) : ByteArray := if 0 ≤ arityOf (nameFit s) ∨ nameFit s = ⟨#[109, 97, 116, 101, 114, 105, 97, 108, 105, 122, 101]⟩ then ⟨#[110]⟩ else nameFit s
theorem lawRel_ok (s : ByteArray) (hs : s.size ≤ 100000000000) : pureT T c27 [.str s] = some (.str (relOf s)) := by
  have hc := lawName s hs
  have ha := refArity (nameFit s)
  apply pure_enter (by simp [c27])
  simp [c27, hc, ha]
  unfold relOf
  grind
theorem lawRel (s : ByteArray) (hs : s.size ≤ 100000000000) (bs : Nat) (σ : Heap) : callT T 27 [.str s] bs σ = some (.str (relOf s), σ) := call_clean rfl rfl rfl (by simp) (lawRel_ok s hs)
theorem pick4_ok (c n : Int) (h : n ≠ 0) : pureT T c25 [.int .i64 c, .int .i64 n] = some (.int .i64 ((if c < 0 then IntKind.i64.wrap (0 - IntKind.i64.wrap (c + 1)) else c).tmod n)) := by
  apply pure_enter (by simp [c25])
  by_cases hc : c < 0
  · simp [c25, hc, h]
  · simp [c25, hc, h]
theorem pickQ (c : Int) (n : Nat) (h : 0 < n) (h1 : GV.i64ok c) (bs : Nat) (σ : Heap) :
    callT T 25 [.int .i64 c, .int .i64 (n : Int)] bs σ = some (.int .i64 (pickN c n : Int), σ) := by
  refine call_clean rfl rfl rfl rfl ?_
  rw [pick4_ok c n (by omega), pick_eq c n h h1.1 h1.2]
theorem pickQ4 (c : Int) (h1 : GV.i64ok c) (bs : Nat) (σ : Heap) : callT T 25 [.int .i64 c, .int .i64 4] bs σ = some (.int .i64 (pickN c 4 : Int), σ) := pickQ c 4 (by omega) h1 bs σ
theorem pickQ6 (c : Int) (h1 : GV.i64ok c) (bs : Nat) (σ : Heap) : callT T 25 [.int .i64 c, .int .i64 6] bs σ = some (.int .i64 (pickN c 6 : Int), σ) := pickQ c 6 (by omega) h1 bs σ
theorem pickQ3 (c : Int) (h1 : GV.i64ok c) (bs : Nat) (σ : Heap) : callT T 25 [.int .i64 c, .int .i64 3] bs σ = some (.int .i64 (pickN c 3 : Int), σ) := pickQ c 3 (by omega) h1 bs σ
theorem wrap_ok (n : Int) : GV.i64ok (IntKind.i64.wrap n) := by unfold GV.i64ok; rw [IntKind.wrap_i64]; omega
/-- What a call's name is. -/
def fnOf (n : Nat) : ByteArray := if n = 0 then sCons else if n = 1 then sSize else if n = 2 then sMember else if n = 3 then sFirst else if n = 4 then sReverse else sConcat
def opOf (n : Nat) : ByteArray := if n = 0 then ⟨#[43]⟩ else if n = 1 then ⟨#[45]⟩ else ⟨#[42]⟩
def nilV : GV := .mk 0 0 ⟨#[]⟩ []
def valOf (v : GV) : GV := if (fit v).kind = 3 then .mk (fit v).kind (fit v).num (relOf (fit v).text) (fit v).items else fit v
def leafT (t : GT) : GT := if pickN t.kind 4 % 2 = 0 then .mk 1 (varOf t.name) nilV [] else .mk 2 ⟨#[]⟩ (valOf t.value) []
def termV : Nat → GT → GT
  | 0, t => leafT t
  | d + 1, t =>
    if d = 0 ∨ t.args.length < 2 then leafT t
    else if pickN t.kind 4 = 0 then .mk 1 (varOf t.name) nilV []
    else if pickN t.kind 4 = 1 then .mk 2 ⟨#[]⟩ (valOf t.value) []
    else if pickN t.kind 4 = 2 then
      .mk 3 (fnOf (pickN (IntKind.i64.wrap ((t.name.size : Int) + t.kind)) 6)) nilV ((t.args.take (arityOf (fnOf (pickN (IntKind.i64.wrap ((t.name.size : Int) + t.kind)) 6))).toNat).map (termV d))
    else .mk 4 (opOf (pickN t.name.size 3)) nilV ((t.args.take 2).map (termV d))
theorem term_leaf (d : Int) (t : GT) (ht : t.ok) (hs : t.size ≤ 100000000000) (h : d ≤ 1 ∨ t.args.length < 2) : pureT T c11 [t.enc, .int .i64 d] = some (leafT t).enc := by
  have hk : GV.i64ok t.kind ∧ t.value.ok := by revert ht; cases t; simp only [GT.ok]; exact fun h => ⟨h.1, h.2.1⟩
  have hp := pickQ4 t.kind hk.1
  have hv := lawVar t.name (Nat.le_trans (GT.name_le t) hs)
  have hf := callFit t.value hk.2 (Nat.le_trans (GT.value_le t) hs)
  have hpl := pickN_lt (c := t.kind) (n := 4) (by omega)
  have htm : ((pickN t.kind 4 : Int)).tmod 2 = ((pickN t.kind 4 % 2 : Nat) : Int) := rfl
  have hfs : (fit t.value).text.size ≤ 100000000000 := Nat.le_trans (Nat.le_trans (text_le _) (fit_size _)) (by omega)
  have hr := lawRel (fit t.value).text hfs
  apply pure_enter (by simp [c11])
  have hcond : d ≤ 1 ∨ (¬ d ≤ 1 ∧ ((t.args.length : Int) < 2)) := by omega
  rcases hcond with hd | ⟨hd, hl⟩
  · by_cases hz : pickN t.kind 4 % 2 = 0
    · simp [c11, hp, htm, hd, hz, hv, setRun]
      simp [leafT, hz, GT.enc, nilV]
    · have hz1 : pickN t.kind 4 % 2 = 1 := by omega
      simp [c11, hp, htm, hd, hz1, hf, setRun, enc_mk, hr]
      refine ⟨fun h => ?_, fun h => ?_⟩
      all_goals simp [leafT, hz1, GT.enc, valOf, h]
  · by_cases hz : pickN t.kind 4 % 2 = 0
    · simp [c11, hp, htm, hd, hl, hz, hv, setRun]
      simp [leafT, hz, GT.enc, nilV]
    · have hz1 : pickN t.kind 4 % 2 = 1 := by omega
      simp [c11, hp, htm, hd, hl, hz1, hf, setRun, enc_mk, hr]
      refine ⟨fun h => ?_, fun h => ?_⟩
      all_goals simp [leafT, hz1, GT.enc, valOf, h]
theorem fnOf_arity (n : Nat) : arityOf (fnOf n) = if n = 0 ∨ n = 2 ∨ 5 ≤ n then 2 else 1 := by
  unfold fnOf
  by_cases h0 : n = 0
  · subst h0; decide
  · by_cases h1 : n = 1
    · subst h1; decide
    · by_cases h2 : n = 2
      · subst h2; decide
      · by_cases h3 : n = 3
        · subst h3; decide
        · by_cases h4 : n = 4
          · subst h4; decide
          · rw [if_neg h0, if_neg h1, if_neg h2, if_neg h3, if_neg h4, if_pos (by omega)]; decide
theorem term_call (d : Nat) (hd0 : 0 < d) (hd : d ≤ 100) (t : GT) (ht : t.ok) (hs : t.size ≤ 100000000000) (h2 : 2 ≤ t.args.length) (hk : pickN t.kind 4 = 2) (g : GT → GT)
    (hg : ∀ x ∈ t.args, ∀ bs σ, callT T 11 [x.enc, .int .i64 (d : Int)] bs σ = some ((g x).enc, σ)) (fn : ByteArray) (hfn : fn = fnOf (pickN (IntKind.i64.wrap ((t.name.size : Int) + t.kind)) 6)) :
    pureT T c11 [t.enc, .int .i64 ((d : Int) + 1)] = some (GT.mk 3 fn nilV ((t.args.take (arityOf fn).toNat).map g)).enc := by
  have hk1 : GV.i64ok t.kind := by revert ht; cases t; simp only [GT.ok]; exact fun h => h.1
  have hp := pickQ4 t.kind hk1
  rw [hk] at hp
  have hp6 := pickQ6 _ (wrap_ok ((t.name.size : Int) + t.kind))
  have hlt := pickN_lt (c := IntKind.i64.wrap ((t.name.size : Int) + t.kind)) (n := 6) (by omega)
  have har := fnOf_arity (pickN (IntKind.i64.wrap ((t.name.size : Int) + t.kind)) 6)
  rw [← hfn] at har
  generalize pickN (IntKind.i64.wrap ((t.name.size : Int) + t.kind)) 6 = m at *
  have hdd : ¬ ((d : Int) + 1 ≤ 1) := by omega
  have hll : ¬ ((t.args.length : Int) < 2) := by omega
  have hget : ∀ σ : Heap, ∀ L : List AV, L = [AV.str sCons, .str sSize, .str sMember, .str sFirst, .str sReverse, .str sConcat] → (window L m 1).bind (mk false) = some (.str fn) := by
    intro σ L e; subst e hfn
    match m, hlt with
    | 0, _ => rfl
    | 1, _ => rfl
    | 2, _ => rfl
    | 3, _ => rfl
    | 4, _ => rfl
    | 5, _ => rfl
  obtain ⟨a, ha, ha1, ha2⟩ : ∃ a : Nat, arityOf fn = (a : Int) ∧ 1 ≤ a ∧ a ≤ 2 := by
    rw [har]; split
    · exact ⟨2, rfl, by omega, by omega⟩
    · exact ⟨1, rfl, by omega, by omega⟩
  have hary := refArity fn
  rw [ha] at hary ⊢
  have hw2 := hget [] _ rfl
  have hlt' : (m : Int) < 6 := by omega
  apply pure_enter (by simp [c11])
  simp [c11, hp, hdd, hll, hp6, hlt', setRun, hw2]
  refine W_for T 0 103 a (fun i f σ => f 1 = .int .i64 ((d : Int) + 1) ∧ f 2 = .ptr 0 0 ∧ f 4 = .ptr 1 0 ∧ f 7 = .str fn ∧ f 8 = .ptr 3 0 ∧ f 9 = .int .i64 (i : Int) ∧ ∃ S lst rest,
    σ = [.cells [.int .i64 t.kind, .str t.name, .int .i64 t.value.kind, .int .i64 t.value.num, .str t.value.text, .isl (GV.encs t.value.items) false, .isl (GT.encs t.args) false] 0 false,
      .cells [.int .i64 0, .str ⟨#[]⟩, .int .i64 0, .int .i64 0, .str ⟨#[]⟩, .isl [] true, .isl [] true] 0 false, S,
      .cells [.int .i64 3, .str fn, .int .i64 0, .int .i64 0, .str ⟨#[]⟩, .isl [] true, lst] 0 false] ++ rest ∧
    LstAt rest 4 (GT.encs ((t.args.take i).map g)) 7 lst) ?_ _ _ ?_
  · rintro i f σ hi ⟨h1, h2', h4, h7, h8, h9, S, lst, rest, rfl, hlst⟩
    by_cases hia : i < a
    · have hw : IntKind.i64.wrap ((i : Int) + 1) = (i : Int) + 1 := wr64 (by omega) (by omega)
      have hwd : IntKind.i64.wrap (d : Int) = (d : Int) := wr64 (by omega) (by omega)
      have hc1 : i < t.args.length := by omega
      have hcl := hg t.args[i] (List.getElem_mem hc1)
      have htk : (t.args.take (i + 1)).map g = (t.args.take i).map g ++ [g t.args[i]] := by rw [List.take_add_one, List.getElem?_eq_getElem hc1, List.map_append]; rfl
      have hlen : ((t.args.take i).map g).length = i := by simp; omega
      rw [htk]
      generalize (t.args.take i).map g = done at *
      have hdl : done.length ≤ 10000000000 := by omega
      rcases hlst with ⟨he, rfl⟩ | ⟨kk, rfl, hkl, hkk⟩
      · have hd0 : done = [] := (GT.encs_nil _).1 he
        simp [h1, h2', h4, h7, h8, h9, hia, hc1, hw, hwd, hary, setRun, hcl, GT.enc_mk]
        exact ⟨_, _, _, ⟨rfl, rfl, rfl⟩, .inr ⟨rest.length + 1, by simp [hd0], by simp, by simp [hd0]⟩⟩
      · simp [h1, h2', h4, h7, h8, h9, hia, hc1, hw, hwd, hary, setRun, hcl, GT.enc_mk, List.getElem?_append_left hkl, hkk, List.set_append_left _ _ hkl, hdl]
        exact ⟨_, _, _, ⟨rfl, rfl, rfl⟩, .inr ⟨kk, rfl, by simp; omega, by rw [List.getElem?_append_left (by simpa using hkl)]; simp [hkl]⟩⟩
    · have he : i = a := by omega
      subst he
      rcases hlst with ⟨he2, rfl⟩ | ⟨kk, rfl, hkl, hkk⟩
      · simp [h1, h2', h4, h7, h8, h9, hary, setRun, GT.enc, he2, ← List.map_take, nilV]
      · simp [h1, h2', h4, h7, h8, h9, hary, setRun, GT.enc, ← List.map_take, nilV]
  · exact ⟨by simp, by simp, by simp, by simp, by simp, by simp, _, _, [], rfl, .inl ⟨by simp, rfl⟩⟩
theorem term_op (d : Nat) (hd0 : 0 < d) (hd : d ≤ 100) (t : GT) (ht : t.ok) (hs : t.size ≤ 100000000000) (h2 : 2 ≤ t.args.length) (hk : pickN t.kind 4 = 3) (g : GT → GT)
    (hg : ∀ x ∈ t.args, ∀ bs σ, callT T 11 [x.enc, .int .i64 (d : Int)] bs σ = some ((g x).enc, σ)) (fn : ByteArray) (hfn : fn = opOf (pickN t.name.size 3)) :
    pureT T c11 [t.enc, .int .i64 ((d : Int) + 1)] = some (GT.mk 4 fn nilV ((t.args.take 2).map g)).enc := by
  have hk1 : GV.i64ok t.kind := by revert ht; cases t; simp only [GT.ok]; exact fun h => h.1
  have hp := pickQ4 t.kind hk1
  rw [hk] at hp
  have hns := GT.name_le t
  have hp3 := pickQ3 (t.name.size : Int) ⟨by omega, by omega⟩
  have hlt := pickN_lt (c := (t.name.size : Int)) (n := 3) (by omega)
  generalize pickN (t.name.size : Int) 3 = m at *
  have hdd : ¬ ((d : Int) + 1 ≤ 1) := by omega
  have hll : ¬ ((t.args.length : Int) < 2) := by omega
  have hget : ∀ L : List AV, L = [AV.str ⟨#[43]⟩, .str ⟨#[45]⟩, .str ⟨#[42]⟩] → (window L m 1).bind (mk false) = some (.str fn) := by
    intro L e; subst e hfn
    match m, hlt with
    | 0, _ => rfl
    | 1, _ => rfl
    | 2, _ => rfl
  have hw2 := hget _ rfl
  have hlt' : (m : Int) < 3 := by omega
  obtain ⟨x, y, l, hargs⟩ : ∃ x y l, t.args = x :: y :: l := by
    match t.args, h2 with
    | x :: y :: l, _ => exact ⟨x, y, l, rfl⟩
  have hx := hg x (by simp [hargs])
  have hy := hg y (by simp [hargs])
  have hwd : IntKind.i64.wrap (d : Int) = (d : Int) := wr64 (by omega) (by omega)
  have he : GT.encs t.args = x.enc :: y.enc :: GT.encs l := by rw [hargs]; rfl
  have hll : ¬ ((l.length : Int) + 1 + 1 < 2) := by omega
  apply pure_enter (by simp [c11])
  simp [c11, hp, hdd, hll, hp3, hlt', setRun, hw2, he, hwd, hx, hy, hargs, GT.enc_mk]
  simp [close1, close0, window, chunk, mk, GT.encs, GT.enc, GT.enc_eq (g x), GT.enc_eq (g y), nilV]
theorem term_ok : ∀ (d : Nat) (t : GT), d ≤ 100 → t.ok → t.size ≤ 100000000000 → pureT T c11 [t.enc, .int .i64 (d : Int)] = some (termV d t).enc := by
  intro d
  induction d with
  | zero => intro t hd ht hs; exact term_leaf 0 t ht hs (.inl (by omega))
  | succ d ih =>
    intro t hd ht hs
    unfold termV
    by_cases hl : d = 0 ∨ t.args.length < 2
    · rw [if_pos hl]
      refine term_leaf _ t ht hs ?_
      rcases hl with h | h
      · exact .inl (by omega)
      · exact .inr h
    · have hlt := pickN_lt (c := t.kind) (n := 4) (by omega)
      have hok : GT.oks t.args := by revert ht; cases t; simp only [GT.ok]; exact fun h => h.2.2
      have hargs := GT.args_le t
      have hcl : ∀ x ∈ t.args, ∀ bs σ, callT T 11 [x.enc, .int .i64 (d : Int)] bs σ = some ((termV d x).enc, σ) := fun x hx bs σ =>
        call_clean rfl rfl rfl (by simp) (ih x (by omega) ((GT.oks_iff _).1 hok x hx) (by have := (GT.sizes_mem hx).1; omega))
      have e : (((d + 1 : Nat)) : Int) = (d : Int) + 1 := by omega
      rw [if_neg hl, e]
      by_cases h2 : pickN t.kind 4 = 2
      · rw [if_neg (by omega), if_neg (by omega), if_pos h2]
        exact term_call d (by omega) (by omega) t ht hs (by omega) h2 _ hcl _ rfl
      · by_cases h3 : pickN t.kind 4 = 3
        · rw [if_neg (by omega), if_neg (by omega), if_neg h2]
          exact term_op d (by omega) (by omega) t ht hs (by omega) h3 _ hcl _ rfl
        · have hk1 : GV.i64ok t.kind ∧ t.value.ok := by revert ht; cases t; simp only [GT.ok]; exact fun h => ⟨h.1, h.2.1⟩
          have hp := pickQ4 t.kind hk1.1
          have hv := lawVar t.name (Nat.le_trans (GT.name_le t) hs)
          have hf := callFit t.value hk1.2 (Nat.le_trans (GT.value_le t) hs)
          have hfs : (fit t.value).text.size ≤ 100000000000 := Nat.le_trans (Nat.le_trans (text_le _) (fit_size _)) (by omega)
          have hr := lawRel (fit t.value).text hfs
          have hdd : ¬ ((d : Int) + 1 ≤ 1) := by omega
          have hll : ¬ ((t.args.length : Int) < 2) := by omega
          apply pure_enter (by simp [c11])
          by_cases h0 : pickN t.kind 4 = 0
          · rw [h0] at hp
            rw [if_pos h0]
            simp [c11, hp, hdd, hll, hv, setRun, GT.enc, nilV]
          · have h1 : pickN t.kind 4 = 1 := by omega
            rw [h1] at hp
            rw [if_neg h0, if_pos h1]
            simp [c11, hp, hdd, hll, hf, hr, setRun, enc_mk]
            refine ⟨fun h => ?_, fun h => ?_⟩
            all_goals simp [GT.enc, valOf, h]
theorem callTerm (d : Nat) (t : GT) (hd : d ≤ 100) (ht : t.ok) (hs : t.size ≤ 100000000000) (bs : Nat) (σ : Heap) : callT T 11 [t.enc, .int .i64 (d : Int)] bs σ = some ((termV d t).enc, σ) := call_clean rfl rfl rfl (by simp) (term_ok d t hd ht hs)
end Go.Proofs.Ytkjfkbblfjmnaaa
end
section
set_option linter.unusedVariables false
set_option linter.unusedSimpArgs false
set_option linter.unnecessarySimpa false
namespace Go.Mach
/-! ### Slices of structs -/
theorem setRun_take : ∀ (vs cs : List AV) (o : Nat), o + vs.length ≤ cs.length → setRun cs o vs = cs.take o ++ vs ++ cs.drop (o + vs.length)
  | [], cs, o, h => by simp [setRun]
  | v :: vs, cs, o, h => by
    simp only [List.length_cons] at h
    rw [setRun, setRun_take vs _ _ (by simp; omega)]
    rw [List.take_set, List.take_add_one, List.drop_set]
    have h1 : o < cs.length := by omega
    rw [if_pos (by omega)]
    simp only [List.getElem?_eq_getElem h1, Option.toList_some, List.length_cons]
    rw [List.set_append_right _ _ (by simp; omega)]
    simp only [List.length_take, Nat.min_eq_left (Nat.le_of_lt h1), Nat.sub_self, List.set_cons_zero]
    rw [show o + 1 + vs.length = o + (vs.length + 1) by omega]
    simp
theorem flat_cons (x : AV) (es : List AV) : flat (x :: es) = x.cells ++ flat es := by simp [flat]
theorem flat_len {s : Nat} : ∀ {es : List AV}, (∀ e ∈ es, e.cells.length = s) → (flat es).length = es.length * s
  | [], _ => by simp [flat]
  | x :: es, h => by
    rw [flat_cons, List.length_append, flat_len fun e he => h e (by simp [he]), h x (by simp), List.length_cons, Nat.add_mul]; omega
theorem flat_win {s : Nat} : ∀ {es : List AV} {i : Nat} (hi : i < es.length), (∀ e ∈ es, e.cells.length = s) → window (flat es) (i * s) s = some es[i].cells
  | x :: es, 0, hi, h => by
    have hx := h x (by simp)
    unfold window
    rw [flat_cons, if_pos (by simp; omega)]
    simp only [Nat.zero_mul, List.drop_zero, List.getElem_cons_zero]
    rw [List.take_append_of_le_length (by omega), List.take_of_length_le (by omega)]
  | x :: es, i + 1, hi, h => by
    have hx := h x (by simp)
    have hi' : i < es.length := by simpa using hi
    have ih := flat_win hi' (fun e he => h e (by simp [he]))
    have hl : (flat es).length = es.length * s := flat_len (fun e he => h e (List.mem_cons_of_mem _ he))
    unfold window at ih ⊢
    split at ih
    · rename_i hc
      rw [flat_cons, if_pos (by simp; rw [Nat.add_mul]; omega)]
      injection ih with ih
      rw [List.getElem_cons_succ, ← ih]
      have e : (i + 1) * s = x.cells.length + i * s := by rw [Nat.add_mul]; omega
      rw [e, List.drop_append, List.drop_of_length_le (by omega), List.nil_append, Nat.add_sub_cancel_left]
    · cases ih
theorem flat_set {s : Nat} {v : AV} (hv : v.cells.length = s) : ∀ {es : List AV} {i : Nat} (hi : i < es.length), (∀ e ∈ es, e.cells.length = s) → setRun (flat es) (i * s) v.cells = flat (es.set i v)
  | x :: es, 0, hi, h => by
    have hx := h x (by simp)
    rw [setRun_take _ _ _ (by rw [flat_cons]; simp; omega), flat_cons, List.set_cons_zero, flat_cons]
    simp only [Nat.zero_mul, List.take_zero, List.nil_append, Nat.zero_add]
    rw [List.drop_append, List.drop_of_length_le (by omega), hv, hx]; simp
  | x :: es, i + 1, hi, h => by
    have hx := h x (by simp)
    have hi' : i < es.length := by simpa using hi
    have ih := flat_set hv hi' (fun e he => h e (by simp [he]))
    have hl : (flat es).length = es.length * s := flat_len (fun e he => h e (List.mem_cons_of_mem _ he))
    have hle : i * s + s ≤ es.length * s := by rw [← Nat.succ_mul]; exact Nat.mul_le_mul_right _ hi'
    have hl' : (flat es).length = es.length * s := flat_len fun e he => h e (by simp [he])
    rw [setRun_take _ _ _ (by omega)] at ih
    rw [setRun_take _ _ _ (by rw [flat_cons, List.length_append, hl, Nat.add_mul]; omega), flat_cons, List.set_cons_succ, flat_cons, ← ih]
    have e : (i + 1) * s = x.cells.length + i * s := by rw [Nat.add_mul]; omega
    rw [e, List.take_append, List.drop_append]
    simp only [List.append_assoc]
    rw [List.take_of_length_le (by omega), List.drop_of_length_le (by omega)]
    simp only [List.nil_append]
    congr 2
    · rw [Nat.add_sub_cancel_left]
    · congr 2
      omega
theorem flat_chunk {s : Nat} : ∀ {es : List AV}, (∀ e ∈ es, ∃ cs, e = .agg cs ∧ cs.length = s) → chunk s true es.length (flat es) = some es
  | [], _ => rfl
  | x :: es, h => by
    obtain ⟨cs, rfl, hl⟩ := h x (by simp)
    have ih := flat_chunk (es := es) (fun e he => h e (List.mem_cons_of_mem _ he))
    simp only [List.length_cons, chunk]
    rw [flat_cons]
    show ((mk true ((cs ++ flat es).take s)).bind _) = _
    rw [List.take_append_of_le_length (by omega), List.take_of_length_le (by omega)]
    show ((chunk s true es.length ((cs ++ flat es).drop s)).map _) = _
    rw [List.drop_append, List.drop_of_length_le (by omega), hl, Nat.sub_self, List.drop_zero, List.nil_append, ih]; rfl
theorem encsV_len (l : List GV) : ∀ e ∈ GV.encs l, e.cells.length = 4 := fun e he => by
  rw [GV.encs_map] at he; obtain ⟨v, _, rfl⟩ := List.mem_map.1 he; simp
theorem encsV_agg (l : List GV) : ∀ e ∈ GV.encs l, ∃ cs, e = .agg cs ∧ cs.length = 4 := fun e he => by
  rw [GV.encs_map] at he; obtain ⟨v, _, rfl⟩ := List.mem_map.1 he; exact ⟨_, GV.enc_eq v, rfl⟩
def clo1n : AV → Bool
  | .isl _ true => false
  | x => x.clo1
theorem clo1n_all {l : List AV} (h : l.all clo1n = true) : l.all AV.clo1 = true ∧ l.map AV.nrm = l := by
  induction l with
  | nil => exact ⟨rfl, rfl⟩
  | cons x l ih =>
    simp only [List.all_cons, Bool.and_eq_true] at h
    obtain ⟨h1, h2⟩ := ih h.2
    have hx : x.clo1 = true ∧ x.nrm = x := by
      have := h.1
      cases x <;> first | exact ⟨rfl, rfl⟩ | (cases this; done) | skip
      rename_i es c
      cases c
      · exact ⟨rfl, rfl⟩
      · cases this
    exact ⟨by simp [h1, hx.1], by simp only [List.map_cons, hx.2, h2]⟩
theorem encsV_clo (l : List GV) : (flat (GV.encs l)).all clo1n = true := by
  rw [List.all_eq_true]; intro x hx
  obtain ⟨e, he, hxe⟩ := List.mem_flatMap.1 hx
  rw [GV.encs_map] at he; obtain ⟨v, _, rfl⟩ := List.mem_map.1 he
  rw [GV.enc_cells] at hxe
  simp at hxe; rcases hxe with rfl | rfl | rfl | rfl <;> rfl
theorem encsB_len (l : List GB) : ∀ e ∈ GB.encs l, e.cells.length = 5 := fun e he => by
  obtain ⟨v, _, rfl⟩ := List.mem_map.1 he; rfl
theorem encsB_agg (l : List GB) : ∀ e ∈ GB.encs l, ∃ cs, e = .agg cs ∧ cs.length = 5 := fun e he => by
  obtain ⟨v, _, rfl⟩ := List.mem_map.1 he; exact ⟨_, rfl, rfl⟩
theorem encsT_len (l : List GT) : ∀ e ∈ GT.encs l, e.cells.length = 7 := fun e he => by
  rw [GT.encs_map] at he; obtain ⟨v, _, rfl⟩ := List.mem_map.1 he; simp
theorem encsT_agg (l : List GT) : ∀ e ∈ GT.encs l, ∃ cs, e = .agg cs ∧ cs.length = 7 := fun e he => by
  rw [GT.encs_map] at he; obtain ⟨v, _, rfl⟩ := List.mem_map.1 he; exact ⟨_, GT.enc_eq v, rfl⟩
theorem encsT_clo (l : List GT) : (flat (GT.encs l)).all clo1n = true := by
  rw [List.all_eq_true]; intro x hx
  obtain ⟨e, he, hxe⟩ := List.mem_flatMap.1 hx
  rw [GT.encs_map] at he; obtain ⟨v, _, rfl⟩ := List.mem_map.1 he
  rw [GT.enc_cells] at hxe
  simp at hxe; rcases hxe with rfl | rfl | rfl | rfl | rfl | rfl | rfl <;> rfl
theorem encsB_clo (l : List GB) : (flat (GB.encs l)).all clo1n = true := by
  rw [List.all_eq_true]; intro x hx
  obtain ⟨e, he, hxe⟩ := List.mem_flatMap.1 hx
  obtain ⟨v, _, rfl⟩ := List.mem_map.1 he
  rw [GB.enc_cells] at hxe
  simp at hxe; rcases hxe with rfl | rfl | rfl | rfl | rfl <;> rfl
theorem close1_flat {σ : Heap} {id s fz : Nat} {ext : Bool} {es : List AV} (h : σ[id]? = some (.cells (flat es) fz ext)) (hne : es ≠ []) (ha : ∀ e ∈ es, ∃ cs, e = .agg cs ∧ cs.length = s) (hc : (flat es).all clo1n = true) :
    close1 σ (.sl id 0 es.length s true) = some (.isl es false, frz σ id (es.length * s)) := by
  have hl : ∀ e ∈ es, e.cells.length = s := fun e he => by obtain ⟨cs, rfl, hl⟩ := ha e he; exact hl
  have h0 : es.length ≠ 0 := fun e => hne (List.eq_nil_of_length_eq_zero e)
  apply close1_of0
  simp only [close0, if_neg h0, h]
  rw [window_full (flat_len hl), Option.bind_some, if_pos (clo1n_all hc).1, (clo1n_all hc).2, flat_chunk ha]
  simp
/-! ### append of a closed slice -/
theorem app_isl_nil {σ : Heap} {sz bytes : Nat} {ag mt c : Bool} {k : Nat} {es : List AV} : appendA σ sz ag bytes mt (.own k es) (.isl [] c) = some (.own k es, σ) := rfl
theorem app_isl_nil2 {σ : Heap} {sz bytes : Nat} {ag mt c c2 : Bool} {es : List AV} : appendA σ sz ag bytes mt (.isl es c2) (.isl [] c) = some (.isl es c2, σ) := rfl
theorem app_isl_nil3 {σ : Heap} {sz bytes id fz : Nat} {ext c : Bool} {cs : List AV} (hs : σ[id]? = some (.cells cs fz ext)) (hl1 : cs.length = sz) : appendA σ sz true bytes false (.sl id 0 1 sz true) (.isl [] c) = some (.sl id 0 1 sz true, σ) := by
  have he := elems_ag1 hs hl1
  have he2 : elemsN σ sz true (.isl [] c) = some [] := rfl
  simp only [appendA, he, he2, Option.bind_some, isSl]
  simp
theorem app_isl_own {σ : Heap} {sz bytes : Nat} {ag c : Bool} {k : Nat} {es xs : List AV} (hx : xs ≠ []) (h1 : es.all (okEl sz ag) = true) (h2 : xs.all (okEl sz ag) = true) (hl : es.length + xs.length ≤ 10000000000) (hb : bytes ≤ 1000) (h0 : 0 < sz) (hk : σ[k]? = some (.tok es.length sz)) :
    appendA σ sz ag bytes false (.own k es) (.isl xs c) = some (.own k (es ++ xs), σ.set k (.tok (es.length + xs.length) sz)) := by
  have he : elemsA σ sz ag (.own k es) = some es := rfl
  have he2 : elemsN σ sz ag (.isl xs c) = some xs := rfl
  have hmul : (es.length + xs.length) * bytes ≤ 10000000000 * 1000 := Nat.mul_le_mul hl hb
  have : ¬ (sz = 0 ∨ (es.length + xs.length) * bytes > 70368744177664 ∨ es.length + xs.length > 70368744177664) := by omega
  simp only [appendA, he, he2, Option.bind_some, isSl, if_neg hx, if_neg this]
  simp [h1, h2, hk]
theorem app_isl_new {σ : Heap} {sz bytes : Nat} {ag c : Bool} {xs : List AV} (hx : xs ≠ []) (h2 : xs.all (okEl sz ag) = true) (hl : xs.length ≤ 10000000000) (hb : bytes ≤ 1000) (h0 : 0 < sz) :
    appendA σ sz ag bytes false (.isl [] true) (.isl xs c) = some (.own σ.length xs, σ ++ [.tok xs.length sz]) := by
  have he : elemsA σ sz ag (.isl [] true) = some [] := rfl
  have he2 : elemsN σ sz ag (.isl xs c) = some xs := rfl
  have hmul : xs.length * bytes ≤ 10000000000 * 1000 := Nat.mul_le_mul hl hb
  have : ¬ (sz = 0 ∨ xs.length * bytes > 70368744177664 ∨ xs.length > 70368744177664) := by omega
  simp only [appendA, he, he2, Option.bind_some, isSl, if_neg hx, List.length_nil, Nat.zero_add, if_neg this]
  simp [h2]
/-- An append to a whole literal of one struct. -/
theorem app_isl_sl1 {σ : Heap} {sz bytes id : Nat} {c : Bool} {cs xs : List AV} (hs : σ[id]? = some (.cells cs 0 false)) (hl1 : cs.length = sz) (hc : cs.all AV.clo1 = true) (hx : xs ≠ []) (h2 : xs.all (okEl sz true) = true) (hl : 1 + xs.length ≤ 10000000000) (hb : bytes ≤ 1000) (h0 : 0 < sz) :
    appendA σ sz true bytes false (.sl id 0 1 sz true) (.isl xs c) = some (.own σ.length (.agg cs :: xs), σ ++ [.tok (1 + xs.length) sz]) := by
  have he := elems_ag1 hs hl1
  have he2 : elemsN σ sz true (.isl xs c) = some xs := rfl
  have hmul : (1 + xs.length) * bytes ≤ 10000000000 * 1000 := Nat.mul_le_mul hl hb
  have : ¬ (sz = 0 ∨ (1 + xs.length) * bytes > 70368744177664 ∨ 1 + xs.length > 70368744177664) := by omega
  have hok : okEl sz true (.agg cs) = true := by simp only [okEl, AV.clo, hc, AV.cells, hl1, decide_true, Bool.and_self]
  simp only [appendA, he, he2, Option.bind_some, isSl, if_neg hx, List.length_singleton, if_neg this]
  simp [h2, hs, hok, hl1]
theorem slSl_tail {sz : Nat} {x : AV} {es : List AV} {c : Bool} (h : ∀ e ∈ x :: es, e.cells.length = sz) : slSlV sz (some (.int .i64 1)) none (.isl (x :: es) c) = some (.isl es false) := by
  have hall : (x :: es).all (lenIs sz) = true := by rw [List.all_eq_true]; intro y hy; simp [lenIs, h y hy]
  have h1 : slSlA sz 1 (x :: es).length (.isl (x :: es) c) = some (.isl es false) := by
    have hc : 1 ≤ (x :: es).length ∧ (x :: es).length ≤ (x :: es).length ∧ (1 = 0 ∨ (x :: es).all (lenIs sz) = true) := ⟨by simp, Nat.le_refl _, .inr hall⟩
    simp only [slSlA, if_pos hc, List.take_of_length_le (Nat.le_refl _)]; rfl
  have h2 : bndV (x :: es).length 0 (some (.int .i64 1)) = some 1 := by
    simp only [bndV]; rw [if_pos ⟨by omega, by simp only [List.length_cons]; omega⟩]; rfl
  have h0 : ¬ isSl (.isl (x :: es) c) = false := by simp [isSl]
  have hl : lenA (.isl (x :: es) c) = some (x :: es).length := rfl
  unfold slSlV
  rw [if_neg h0, hl]
  simp only [Option.bind_some, bndV_none, h2, h1]
theorem slSl_head {sz : Nat} {x : AV} {es : List AV} {c : Bool} : slSlV sz none (some (.int .i64 1)) (.isl (x :: es) c) = some (.isl [x] false) := by
  have h1 : slSlA sz 0 1 (.isl (x :: es) c) = some (.isl [x] false) := by
    have hc : 0 ≤ 1 ∧ 1 ≤ (x :: es).length ∧ (0 = 0 ∨ (x :: es).all (lenIs sz) = true) := ⟨by omega, by simp, .inl rfl⟩
    simp only [slSlA, if_pos hc]; rfl
  have h2 : bndV (x :: es).length (x :: es).length (some (.int .i64 1)) = some 1 := by
    simp only [bndV]; rw [if_pos ⟨by omega, by simp only [List.length_cons]; omega⟩]; rfl
  have h0 : ¬ isSl (.isl (x :: es) c) = false := by simp [isSl]
  have hl : lenA (.isl (x :: es) c) = some (x :: es).length := rfl
  unfold slSlV
  rw [if_neg h0, hl]
  simp only [Option.bind_some, bndV_none, h2, h1]
end Go.Mach
end
section
set_option linter.unusedVariables false
set_option linter.unusedSimpArgs false
set_option linter.unnecessarySimpa false
namespace Go.Proofs.Ytkjfkbblfjmnaaa
open Go.Mach

/-! ### Values out of functions -/
/-- A value and whether there is one. -/
def resO (o : Option GV) : AV := .tup [(o.getD nilV).enc, .bool o.isSome]
def numV (n : Int) : GV := .mk 1 n ⟨#[]⟩ []
def listV (l : List GV) : GV := .mk 4 0 ⟨#[]⟩ l
def made (v : GV) : Option GV := if rightT v then some v else none
theorem nilV_enc : AV.agg [.int .i64 0, .int .i64 0, .str ⟨#[]⟩, .isl [] false] = nilV.enc := by simp [nilV, GV.enc]
theorem resO_some (v : GV) : resO (some v) = .tup [v.enc, .bool true] := rfl
theorem resO_none : resO none = .tup [nilV.enc, .bool false] := rfl
@[simp] theorem resO_scal (o : Option GV) : (resO o).scal = false := by
  have : (o.getD nilV).enc.scal1 = false := by rw [GV.enc_eq]; rfl
  simp [resO, AV.scal, this]
theorem number_ok (n : Int) : pureT T c23 [.int .i64 n] = some (numV n).enc := by
  apply pure_enter (by simp [c23])
  simp [c23, setRun, numV, GV.enc]
theorem callNumber (n : Int) (bs : Nat) (σ : Heap) : callT T 23 [.int .i64 n] bs σ = some ((numV n).enc, σ) := call_clean rfl rfl rfl (by simp) (number_ok n)
theorem refNumber_ok (n : Int) : pureT T c51 [.int .i64 n] = some (numV n).enc := by
  apply pure_enter (by simp [c51])
  simp [c51, setRun, numV, GV.enc]
theorem callRefNumber (n : Int) (bs : Nat) (σ : Heap) : callT T 51 [.int .i64 n] bs σ = some ((numV n).enc, σ) := call_clean rfl rfl rfl (by simp) (refNumber_ok n)
theorem callClone0 (c : Bool) (bs : Nat) (σ : Heap) : callT T 48 [.isl [] c] bs σ = some (.isl [] true, σ) := callT_pr (p := cloneVP) _ _ _ rfl _
theorem callClone (l : List GV) (c : Bool) (hne : l ≠ []) (hl : l.length ≤ 10000000000) (bs : Nat) (σ : Heap) : callT T 48 [.isl (GV.encs l) c] bs σ = some (.sl (σ.length + 1) 0 l.length 4 true, σ ++ [.cells [] 0 false, .cells (flat (GV.encs l)) 0 true]) := by
  rw [callT_pr (p := cloneVP) _ _ _ rfl _]
  have hf := flat_len (encsV_len l)
  rw [GV.encs_length] at hf
  simp only [cloneVP, if_neg (fun h => hne ((encs_nil l).1 h)), GV.encs_length]
  rw [if_pos ⟨hf, hl⟩]
/-- value.List: with nothing in it, and else. -/
theorem callList0 (x : AV) (σ : Heap) (hx : close1 σ x = some (.isl [] false, σ)) (hA : closeA σ x = close1 σ x) : callT T 80 [x] 0 σ = some (.agg [.int .i64 4, .int .i64 0, .str ⟨#[]⟩, .isl [] true], σ ++ [.cells [.int .i64 4, .int .i64 0, .str ⟨#[]⟩, .isl [] true] 0 false]) := by
  refine heap_enter (af := c80) (args' := [.isl [] false]) (σ1 := σ) rfl rfl (by simp [c80]) (by simp [c80]) ?_ ?_
  · simp [c80, closeArgs, closeT, hA, hx]
  · simp [c80, callClone0, setRun, baseA]
theorem callListN (l : List GV) (hne : l ≠ []) (hl : l.length ≤ 10000000000) (x : AV) (σ σ1 : Heap) (hx : close1 σ x = some (.isl (GV.encs l) false, σ1)) (hA : closeA σ x = close1 σ x) : callT T 80 [x] 0 σ = some (.agg [.int .i64 4, .int .i64 0, .str ⟨#[]⟩, .sl (σ1.length + 2) 0 l.length 4 true],
    σ1 ++ [.cells [.int .i64 4, .int .i64 0, .str ⟨#[]⟩, .sl (σ1.length + 2) 0 l.length 4 true] 0 false, .cells [] 0 false, .cells (flat (GV.encs l)) 0 true]) := by
  refine heap_enter (af := c80) (args' := [.isl (GV.encs l) false]) (σ1 := σ1) rfl rfl (by simp [c80]) (by simp [c80]) ?_ ?_
  · simp [c80, closeArgs, closeT, hA, hx]
  · simp [c80, callClone l false hne hl, setRun, baseA]
theorem right2_ok (v : GV) (hs : v.size ≤ 100000000000) : pureT T c66 [v.enc] = some (resO (made v)) := by
  have hr := valRight v hs
  apply pure_enter (by simp [c66])
  simp [c66, hr, setRun, enc_mk, enc_mk0, nilV_enc]
  refine ⟨fun h => ?_, fun h => ?_⟩
  · simp [made, h, resO]
  · simp [made, h, resO, nilV, GV.enc]
theorem callRight2 (v : GV) (hs : v.size ≤ 100000000000) (bs : Nat) (σ : Heap) : callT T 66 [v.enc] bs σ = some (resO (made v), σ) := call_clean rfl rfl rfl (by simp) (right2_ok v hs)
theorem callRight0 (c : Bool) (bs : Nat) (σ : Heap) : callT T 66 [.agg [.int .i64 4, .int .i64 0, .str ⟨#[]⟩, .isl [] c]] bs σ = some (resO (made (listV [])), σ) := by
  have h := right2_ok (listV []) (by decide)
  exact call_data rfl rfl rfl h (resO_scal _) (by simp) (by simp [closeT, listV, GV.enc])
theorem callRightN {l : List GV} {id fz : Nat} {ext : Bool} {σ : Heap} (hne : l ≠ []) (hs : (listV l).size ≤ 100000000000) (h : σ[id]? = some (.cells (flat (GV.encs l)) fz ext)) (bs : Nat) :
    callT T 66 [.agg [.int .i64 4, .int .i64 0, .str ⟨#[]⟩, .sl id 0 l.length 4 true]] bs σ = some (resO (made (listV l)), frz σ id (l.length * 4)) := by
  have hr := right2_ok (listV l) hs
  have hc := close1_flat h (fun e => hne ((encs_nil l).1 e)) (encsV_agg l) (encsV_clo l)
  rw [GV.encs_length] at hc
  exact call_data rfl rfl rfl hr (resO_scal _) (by simp) (by simp [closeT, hc, listV, GV.enc])
/-- How many elements there are in the first so many of some lists. -/
def pre {α : Type} (ls : List (List α)) (i : Nat) : Nat := ((ls.take i).map List.length).sum
theorem pre_succ {α : Type} {ls : List (List α)} {i : Nat} (h : i < ls.length) : pre ls (i + 1) = pre ls i + ls[i].length := by
  unfold pre; rw [List.take_add_one, List.getElem?_eq_getElem h, List.map_append, List.sum_append]; simp
theorem pre_zero {α : Type} (ls : List (List α)) : pre ls 0 = 0 := rfl
theorem pre_le {α : Type} (ls : List (List α)) (i : Nat) : pre ls i ≤ ls.flatten.length := by
  have : ls = ls.take i ++ ls.drop i := (List.take_append_drop i ls).symm
  rw [List.length_flatten]
  conv => rhs; rw [this, List.map_append, List.sum_append]
  unfold pre; omega
theorem pre_all {α : Type} (ls : List (List α)) : pre ls ls.length = ls.flatten.length := by
  unfold pre; rw [List.take_length, List.length_flatten]
def cat {α : Type} (ls : List (List α)) (i : Nat) : List α := (ls.take i).flatten
theorem cat_succ {α : Type} {ls : List (List α)} {i : Nat} (h : i < ls.length) : cat ls (i + 1) = cat ls i ++ ls[i] := by
  unfold cat; rw [List.take_add_one, List.getElem?_eq_getElem h, List.flatten_append]; simp
theorem cat_len {α : Type} (ls : List (List α)) (i : Nat) : (cat ls i).length = pre ls i := by unfold cat pre; rw [List.length_flatten]
theorem cat_all {α : Type} (ls : List (List α)) : cat ls ls.length = ls.flatten := by unfold cat; rw [List.take_length]
theorem cat_zero {α : Type} (ls : List (List α)) : cat ls 0 = [] := rfl
theorem grow_call (n : Nat) (hn : n ≤ 1000000000) (bs : Nat) (σ : Heap) : callT T 90 [.isl [] true, .int .i64 (n : Int)] bs σ = if n = 0 then some (.isl [] true, σ) else some (.own σ.length [], σ ++ [.tok 0 4]) := by
  rw [callT_pr (p := growP) _ _ _ rfl _]
  simp only [growP]
  by_cases h : n = 0
  · subst h; rfl
  · rw [if_pos ⟨by omega, by omega⟩, if_neg h]
theorem concat_ok (ls : List (List GV)) (hn : ls.length ≤ 1000) (hl : ls.flatten.length ≤ 1000000000) : pureT T c81 [.isl (ls.map fun l => .isl (GV.encs l) false) false] = some (.isl (GV.encs ls.flatten) false) := by
  apply pure_enter (by simp [c81])
  simp [c81]
  refine W_for T 0 36 ls.length (fun i f σ => f 0 = .isl (ls.map fun l => .isl (GV.encs l) false) false ∧ f 9 = .isl (ls.map fun l => .isl (GV.encs l) false) false ∧ f 10 = .int .i64 (ls.length : Int) ∧ f 11 = .int .i64 (i : Int) ∧ f 3 = .int .i64 (pre ls i : Int) ∧ σ = []) ?_ _ _ ?_
  · rintro i f σ hi ⟨h0, h9, h10, h11, h3, rfl⟩
    by_cases hlt : i < ls.length
    · have hw : IntKind.i64.wrap ((i : Int) + 1) = (i : Int) + 1 := wr64 (by omega) (by omega)
      have hts := pre_succ hlt
      have hs1 := pre_le ls (i + 1)
      have hw2 : IntKind.i64.wrap ((pre ls i : Int) + (ls[i].length : Int)) = (pre ls (i + 1) : Int) := by rw [wr64 (by omega) (by omega), hts]; omega
      have hneg : ¬ ((pre ls (i + 1) : Int) < 0) := by omega
      simp [h0, h9, h10, h11, h3, hlt, hw, hw2, hneg]
    · have he : i = ls.length := by omega
      subst he
      rw [pre_all] at h3
      have hg := grow_call ls.flatten.length hl
      by_cases hz : ls.flatten.length = 0
      · have hall : ∀ l ∈ ls, l = [] := fun l h => by
          have := List.eq_nil_of_length_eq_zero hz
          rw [List.flatten_eq_nil_iff] at this
          exact this l h
        rw [hz] at hg h3
        simp only [if_true] at hg
        have hg' : ∀ bs σ, callT T 90 [.isl [] true, .int .i64 0] bs σ = some (.isl [] true, σ) := hg
        have hfe : ls.flatten = [] := List.eq_nil_of_length_eq_zero hz
        rw [hfe]
        have h3' : f 3 = .int .i64 0 := h3
        simp [h0, h9, h10, h11, h3', hg']
        refine W_for T 0 36 ls.length (fun i f σ => f 25 = .isl (ls.map fun l => .isl (GV.encs l) false) false ∧ f 26 = .int .i64 (ls.length : Int) ∧ f 27 = .int .i64 (i : Int) ∧ f 6 = .isl [] true ∧ σ = []) ?_ _ _ ?_
        · rintro i f σ hi ⟨h25, h26, h27, h6, rfl⟩
          by_cases hlt : i < ls.length
          · have hw : IntKind.i64.wrap ((i : Int) + 1) = (i : Int) + 1 := wr64 (by omega) (by omega)
            have he := hall ls[i] (List.getElem_mem hlt)
            simp [h25, h26, h27, h6, hlt, hw, he, app_isl_nil2]
          · have he : i = ls.length := by omega
            subst he
            simp [h25, h26, h27, h6]
        · simp
      · simp only [if_neg hz] at hg
        have hpl := fun i => pre_le ls i
        generalize ls.flatten.length = N at *
        simp [h0, h9, h10, h11, h3, hg]
        refine W_for T 0 36 ls.length (fun i f σ => f 25 = .isl (ls.map fun l => .isl (GV.encs l) false) false ∧ f 26 = .int .i64 (ls.length : Int) ∧ f 27 = .int .i64 (i : Int) ∧ f 6 = .own 0 (GV.encs (cat ls i)) ∧ σ = [.tok (pre ls i) 4]) ?_ _ _ ?_
        · rintro i f σ hi ⟨h25, h26, h27, h6, rfl⟩
          by_cases hlt : i < ls.length
          · have hw : IntKind.i64.wrap ((i : Int) + 1) = (i : Int) + 1 := wr64 (by omega) (by omega)
            have hts := pre_succ hlt
            have hs1 := hpl (i + 1)
            have hcl := cat_len ls i
            by_cases he : ls[i] = []
            · have : cat ls (i + 1) = cat ls i := by rw [cat_succ hlt, he, List.append_nil]
              have h2 : pre ls (i + 1) = pre ls i := by rw [hts, he]; rfl
              simp [h25, h26, h27, h6, hlt, hw, he, app_isl_nil, this, h2]
            · have ha := app_isl_own (σ := [.tok (pre ls i) 4]) (sz := 4) (bytes := 56) (ag := true) (c := false) (k := 0) (es := GV.encs (cat ls i)) (xs := GV.encs ls[i]) (fun e => he ((encs_nil _).1 e)) (encs_okEl _) (encs_okEl _) (by simp [hcl]; omega) (by omega) (by omega) (by simp [hcl])
              have hap : GV.encs (cat ls i) ++ GV.encs ls[i] = GV.encs (cat ls (i + 1)) := by rw [cat_succ hlt]; simp [GV.encs_map]
              have hlen : (cat ls i).length + ls[i].length = pre ls (i + 1) := by rw [hcl, hts]
              rw [hap] at ha
              simp [hlen] at ha
              simp [h25, h26, h27, h6, hlt, hw, ha]
          · have he : i = ls.length := by omega
            subst he
            simp [h25, h26, h27, h6, cat_all]
        · simp [pre_zero, cat_zero]
  · simp [pre_zero]
/-- A list of two lists, as a literal. -/
theorem callConcat2 (a b : List GV) (hl : a.length + b.length ≤ 1000000000) (id : Nat) (σ : Heap) (h : σ[id]? = some (.cells [.isl (GV.encs a) false, .isl (GV.encs b) false] 0 false)) (bs : Nat) :
    callT T 81 [.sl id 0 2 1 false] bs σ = some (.isl (GV.encs (a ++ b)) false, frz σ id 2) := by
  have hc := concat_ok [a, b] (by simp) (by simpa using hl)
  simp only [List.map_cons, List.map_nil, List.flatten_cons, List.flatten_nil, List.append_nil] at hc
  exact call_data rfl rfl rfl hc rfl rfl (by simp [closeT, close1, close0, h, window, chunk, mk])
/-! ### The functions of lists -/
def doCons (l args : List GV) : Option GV := match args with | a :: _ => made (listV (a :: l)) | [] => none
def doAppend (l args : List GV) : Option GV := made (listV (l ++ args.tail))
def doConcat (l args : List GV) : Option GV := match args with | _ :: b :: _ => if b.kind = 4 then made (listV (l ++ b.items)) else none | _ => none
def doMember (l args : List GV) : Option GV := match args with | _ :: b :: _ => some (numV (if l.any (fun x => decide (cmpV x b = 0)) then 1 else 0)) | _ => none
theorem enc_tup (v : GV) (b : Bool) (o : Option GV) (h : o.getD nilV = v) (h2 : o.isSome = b) : AV.tup [v.enc, .bool b] = resO o := by subst h h2; rfl
theorem listV_size (l : List GV) : (listV l).size = GV.sizes l + 5 := by
  have : (⟨#[]⟩ : ByteArray).size = 0 := rfl
  simp only [listV, GV.size, this]; omega
theorem sizes_append (a b : List GV) : GV.sizes (a ++ b) = GV.sizes a + GV.sizes b := by
  induction a with
  | nil => simp [GV.sizes]
  | cons x a ih => simp only [List.cons_append, GV.sizes, ih]; omega
theorem cons_ok (l : List GV) (a : GV) (as' : List GV) (hs : GV.sizes l + a.size ≤ 1000000000) : pureT T c69 [.isl (GV.encs l) false, .isl (GV.encs (a :: as')) false] = some (resO (doCons l (a :: as'))) := by
  have hlen := len_sizes l
  have hsz : (listV (a :: l)).size ≤ 100000000000 := by rw [listV_size]; simp only [GV.sizes]; omega
  have he : GV.encs (a :: as') = a.enc :: GV.encs as' := rfl
  apply pure_enter (by simp [c69])
  by_cases hl : l = []
  · subst hl
    have hc : ∀ A, close1 [A, .cells a.enc.cells 0 false] (.sl 1 0 1 4 true) = some (.isl (GV.encs [a]) false, [A, .cells a.enc.cells 4 false]) := fun A => by
      have := close1_flat (σ := [A, .cells a.enc.cells 0 false]) (id := 1) (fz := 0) (ext := false) (es := GV.encs [a]) (by rw [show flat (GV.encs [a]) = a.enc.cells by simp [flat]]; rfl) (by simp) (encsV_agg _) (encsV_clo _)
      simpa [frz] using this
    have hL := fun A => callListN [a] (by simp) (by simp) (.sl 1 0 1 4 true) _ _ (hc A) rfl
    have ha := fun A => app_isl_nil3 (σ := [A, .cells a.enc.cells 0 false]) (id := 1) (bytes := 56) (c := false) (sz := 4) rfl (by simp)
    have hR := fun A B C D => callRightN (l := [a]) (id := 4) (σ := [A, B, C, D, .cells (flat (GV.encs [a])) 0 true]) (by simp) hsz rfl 0
    simp at hL hR ha
    simp [c69, he, setRun, ha, hL, hR, resO, frz, enc_mk]
    exact ⟨rfl, rfl⟩
  · have ha := fun B => app_isl_sl1 (σ := [B, .cells a.enc.cells 0 false]) (sz := 4) (bytes := 56) (id := 1) (c := false) (cs := a.enc.cells) (xs := GV.encs l) rfl (by simp) (by simp) (fun e => hl ((encs_nil _).1 e)) (encs_okEl l) (by simp; omega) (by omega) (by omega)
    have hae : AV.agg a.enc.cells :: GV.encs l = GV.encs (a :: l) := by rw [GV.enc_cells, GV.enc_fold]; rfl
    simp only [hae] at ha
    have hL := fun σ k => callListN (a :: l) (by simp) (by simp; omega) (.own k (GV.encs (a :: l))) σ σ rfl rfl
    have hR := fun A B C D E => callRightN (l := a :: l) (id := 5) (σ := [A, B, C, D, E, .cells (flat (GV.encs (a :: l))) 0 true]) (by simp) hsz rfl 0
    simp at ha hL hR
    simp [c69, he, setRun, ha, hL, hR, resO, frz, enc_mk]
    exact ⟨rfl, rfl⟩
/-- What appended and concat make of two lists. -/
theorem both_lists (l : List GV) (hs : GV.sizes l ≤ 1000000000) (S : Heap) (hlen : S.length = 2) :
    (l = [] → ∀ c, callT T 80 [.isl (GV.encs l) c] 0 S = some (.agg [.int .i64 4, .int .i64 0, .str ⟨#[]⟩, .isl [] true], S ++ [.cells [.int .i64 4, .int .i64 0, .str ⟨#[]⟩, .isl [] true] 0 false])) ∧
    (l ≠ [] → ∀ c, callT T 80 [.isl (GV.encs l) c] 0 S = some (.agg [.int .i64 4, .int .i64 0, .str ⟨#[]⟩, .sl 4 0 l.length 4 true], S ++ [.cells [.int .i64 4, .int .i64 0, .str ⟨#[]⟩, .sl 4 0 l.length 4 true] 0 false, .cells [] 0 false, .cells (flat (GV.encs l)) 0 true])) := by
  have hl := len_sizes l
  refine ⟨fun h c => ?_, fun h c => ?_⟩
  · subst h; exact callList0 (.isl [] c) S rfl rfl
  · have := callListN l h (by omega) (.isl (GV.encs l) c) S S rfl rfl
    rw [hlen] at this; exact this
theorem append_ok (l as' : List GV) (a : GV) (hs : GV.sizes l + GV.sizes as' ≤ 1000000000) : pureT T c70 [.isl (GV.encs l) false, .isl (GV.encs (a :: as')) false] = some (resO (doAppend l (a :: as'))) := by
  have hl1 := len_sizes l
  have hl2 := len_sizes as'
  have hsz : (listV (l ++ as')).size ≤ 100000000000 := by rw [listV_size, sizes_append]; omega
  have he : GV.encs (a :: as') = a.enc :: GV.encs as' := rfl
  have hd : doAppend l (a :: as') = made (listV (l ++ as')) := rfl
  have hC := fun A => callConcat2 l as' (by omega) 1 [A, .cells [.isl (GV.encs l) false, .isl (GV.encs as') false] 0 false] rfl
  have hall := encsV_len (a :: as')
  have hcl : ∀ x ∈ GV.encs as', x.cells.length = 4 := fun x hx => encsV_len as' x hx
  have hL := fun A B => both_lists (l ++ as') (by rw [sizes_append]; omega) [A, B] rfl
  apply pure_enter (by simp [c70])
  have hsl := slSl_tail (c := false) (fun e h => encsV_len (a :: as') e h)
  by_cases hn : l ++ as' = []
  · have hL := fun A B => (hL A B).1 hn
    simp only [hn] at hL hC
    simp at hL hC
    have hR := callRight0
    simp [c70, he, setRun, hsl, hC, hL, hR, frz, resO, enc_mk]
    simp [doAppend, hn]
  · have hL := fun A B => (hL A B).2 hn
    have hR := fun A B C D => callRightN (l := l ++ as') (id := 4) (σ := [A, B, C, D, .cells (flat (GV.encs (l ++ as'))) 0 true]) hn hsz rfl 0
    generalize l ++ as' = r at *
    simp at hL hC hR
    simp [c70, he, setRun, hsl, hC, hL, hR, frz, resO, enc_mk, hd]
theorem concatF_ok (l as' : List GV) (a b : GV) (hs : GV.sizes l + b.size ≤ 1000000000) : pureT T c71 [.isl (GV.encs l) false, .isl (GV.encs (a :: b :: as')) false] = some (resO (doConcat l (a :: b :: as'))) := by
  have hl1 := len_sizes l
  have hl2 := len_sizes b.items
  have hbs := items_le b
  have hsz : (listV (l ++ b.items)).size ≤ 100000000000 := by rw [listV_size, sizes_append]; omega
  have he : GV.encs (a :: b :: as') = a.enc :: b.enc :: GV.encs as' := rfl
  have hd : doConcat l (a :: b :: as') = if b.kind = 4 then made (listV (l ++ b.items)) else none := rfl
  rw [hd]
  have hC := fun A => callConcat2 l b.items (by omega) 1 [A, .cells [.isl (GV.encs l) false, .isl (GV.encs b.items) false] 0 false] rfl
  have hL := fun A B => both_lists (l ++ b.items) (by rw [sizes_append]; omega) [A, B] rfl
  apply pure_enter (by simp [c71])
  by_cases hk : b.kind = 4
  · rw [if_pos hk]
    by_cases hn : l ++ b.items = []
    · have hL := fun A B => (hL A B).1 hn
      simp only [hn] at hL hC
      have hR := callRight0
      try simp at hL
      simp [c71, he, setRun, hk, hC, hL, hR, frz, resO, enc_mk, hn]
    · have hL := fun A B => (hL A B).2 hn
      have hR := fun A B C D => callRightN (l := l ++ b.items) (id := 4) (σ := [A, B, C, D, .cells (flat (GV.encs (l ++ b.items))) 0 true]) hn hsz rfl 0
      generalize l ++ b.items = r at *
      try simp at hL
      try simp at hR
      simp [c71, he, setRun, hk, hC, hL, hR, frz, resO, enc_mk]
  · rw [if_neg hk]
    simp [c71, he, setRun, hk, resO, nilV, GV.enc]
theorem size_ok (l args : List GV) (hl : l.length ≤ 1000000000) : pureT T c73 [.isl (GV.encs l) false, .isl (GV.encs args) false] = some (resO (some (numV l.length))) := by
  apply pure_enter (by simp [c73])
  simp [c73, setRun, callNumber, resO, enc_mk]
theorem rest_ok (l args : List GV) (hl : l.length ≤ 1000000000) : pureT T c75 [.isl (GV.encs l) false, .isl (GV.encs args) false] = some (resO (if l = [] then none else some (listV l.tail))) := by
  apply pure_enter (by simp [c75])
  cases l with
  | nil => simp [c75, setRun, resO, nilV, GV.enc]
  | cons x l =>
    have he : GV.encs (x :: l) = x.enc :: GV.encs l := rfl
    have hsl := slSl_tail (c := false) (fun e h => encsV_len (x :: l) e h)
    simp at hl
    have hlen : (GV.encs (x :: l)).length = l.length + 1 := by simp
    by_cases hn : l = []
    · subst hn
      have hL := fun A => callList0 (.isl [] false) [A] rfl rfl
      have hsl := slSl_tail (sz := 4) (x := x.enc) (es := []) (c := false) (by simp)
      try simp at hL
      simp [c75, he, setRun, hsl, hL, resO, listV, GV.enc]
    · have hL := fun A => callListN l hn (by omega) (.isl (GV.encs l) false) [A] [A] rfl rfl
      have hcl := fun A B C => close1_flat (σ := [A, B, C, .cells (flat (GV.encs l)) 0 true]) (id := 3) rfl (fun e => hn ((encs_nil l).1 e)) (encsV_agg l) (encsV_clo l)
      try simp at hL
      try simp at hcl
      have hne : ¬ ((l.length : Int) + 1 = 0) := by omega
      simp [c75, he, setRun, hsl, hL, resO, listV, GV.enc, hne, hcl, frz]
theorem indexE_ok (p : GV → Bool) (l : List GV) (g : Nat) (caps : List AV) (hl : l.length ≤ 100000000000) (hc : ∀ x ∈ l, ∀ bs σ, callT T g (x.enc :: caps) bs σ = some (.bool (p x), σ)) :
    pureT T c91 [.isl (GV.encs l) false, .func g caps] = some (.int .i64 (idxI p l)) := by
  apply pure_enter (by simp [c91])
  simp [c91]
  refine W_for T 0 19 l.length (fun i f σ => f 0 = .isl (GV.encs l) false ∧ f 1 = .func g caps ∧ f 7 = .int .i64 (l.length : Int) ∧ f 8 = .int .i64 (i : Int) ∧ ∀ j, (hj : j < l.length) → j < i → p l[j] = false) ?_ _ _ ?_
  · rintro i f σ hi ⟨h0, h1, h7, h8, hall⟩
    by_cases hlt : i < l.length
    · have e1 : l[i]? = some l[i] := List.getElem?_eq_getElem hlt
      have hcl := hc l[i] (List.getElem_mem hlt)
      cases hp : p l[i]
      · simp [h0, h1, h7, h8, hlt, hcl, hp]
        refine ⟨wr64 (by omega) (by omega), fun j hj hji => ?_⟩
        by_cases e : j = i
        · subst e; exact hp
        · exact hall j hj (by omega)
      · simp [h0, h1, h7, h8, hlt, hcl, hp]
        simp [idxI, findIdx_drop p l i hlt hall hp]
    · have he : i = l.length := by omega
      subst he
      have hn : l.findIdx? p = none := by
        rw [List.findIdx?_eq_none_iff]
        intro x hx
        obtain ⟨j, hj, rfl⟩ := List.getElem_of_mem hx
        exact hall j hj hj
      simp [h0, h1, h7, h8, idxI, hn]
  · simp
theorem containsE_ok (p : GV → Bool) (l : List GV) (g : Nat) (caps : List AV) (hcl : caps.all AV.cleanC = true) (hl : l.length ≤ 100000000000) (hc : ∀ x ∈ l, ∀ bs σ, callT T g (x.enc :: caps) bs σ = some (.bool (p x), σ)) :
    pureT T c82 [.isl (GV.encs l) false, .func g caps] = some (.bool (l.any p)) := by
  have h1 : ∀ bs σ, callT T 91 [.isl (GV.encs l) false, .func g caps] bs σ = some (.int .i64 (idxI p l), σ) := fun bs σ => call_clean rfl rfl rfl (by simp [hcl]) (indexE_ok p l g caps hl hc)
  apply pure_enter (by simp [c82])
  have h2 : (0 ≤ idxI p l) ↔ l.any p = true := by
    unfold idxI
    cases h : l.findIdx? p with
    | none => rw [List.findIdx?_eq_none_iff] at h; simp only [List.any_eq_true]; exact ⟨fun h => by omega, fun ⟨x, hx, hp⟩ => by rw [h x hx] at hp; cases hp⟩
    | some i =>
      rw [List.findIdx?_eq_some_iff_getElem] at h
      obtain ⟨hi, hp, _⟩ := h
      exact ⟨fun _ => List.any_eq_true.2 ⟨_, List.getElem_mem hi, hp⟩, fun _ => by simp⟩
  simp [c82, h1]
  refine ⟨fun h => by simpa using h2.1 h, fun h => ?_⟩
  have : ¬ l.any p = true := fun hh => by have := h2.2 hh; omega
  simpa using this
theorem call_containsE (p : GV → Bool) (l : List GV) (g : Nat) (caps : List AV) (hcl : caps.all AV.cleanC = true) (hl : l.length ≤ 100000000000) (hc : ∀ x ∈ l, ∀ bs σ, callT T g (x.enc :: caps) bs σ = some (.bool (p x), σ)) (bs : Nat) (σ : Heap) :
    callT T 82 [.isl (GV.encs l) false, .func g caps] bs σ = some (.bool (sym (l.any p)), σ) :=
  call_clean rfl rfl rfl (by simp [hcl]) (containsE_ok p l g caps hcl hl hc)
theorem member1_ok (x : GV) (a b : GV) (as' : List GV) (hs : x.size ≤ 100000000000) : pureT T c83 [x.enc, .iptr [.isl (GV.encs (a :: b :: as')) false] 0] = some (.bool (decide (cmpV x b = 0))) := by
  have he : GV.encs (a :: b :: as') = a.enc :: b.enc :: GV.encs as' := rfl
  have hc := valCmp x b hs
  apply pure_enter (by simp [c83])
  simp [c83, he, hc]
theorem member_ok (l as' : List GV) (a b : GV) (hs : GV.sizes l ≤ 1000000000) : pureT T c72 [.isl (GV.encs l) false, .isl (GV.encs (a :: b :: as')) false] = some (resO (doMember l (a :: b :: as'))) := by
  have hl1 := len_sizes l
  have hcl : ∀ x ∈ l, ∀ bs σ, callT T 83 [x.enc, .iptr [.isl (GV.encs (a :: b :: as')) false] 0] bs σ = some (.bool (decide (cmpV x b = 0)), σ) := fun x hx bs σ =>
    call_clean rfl rfl rfl (by simp) (member1_ok x a b as' (by have := (sizes_mem hx).1; omega))
  have hcont : ∀ bs A, callT T 82 [.isl (GV.encs l) false, .func 83 [.ptr 0 0]] bs [.cells [.isl (GV.encs (a :: b :: as')) false] 0 false, A] = some (.bool (sym (l.any fun x => decide (cmpV x b = 0))), [.cells [.isl (GV.encs (a :: b :: as')) false] 0 false, A]) := fun bs A =>
    call_scal rfl rfl rfl (containsE_ok _ l 83 [.iptr [.isl (GV.encs (a :: b :: as')) false] 0] (by simp) (by omega) hcl) rfl (by simp) (by simp [frz]; rfl)
  have hd : doMember l (a :: b :: as') = some (numV (if l.any (fun x => decide (cmpV x b = 0)) then 1 else 0)) := rfl
  rw [hd]
  generalize GV.encs (a :: b :: as') = es at *
  apply pure_enter (by simp [c72])
  generalize (l.any fun x => decide (cmpV x b = 0)) = r at *
  cases r <;> simp [c72, setRun, hcont, callNumber, resO, enc_mk]
end Go.Proofs.Ytkjfkbblfjmnaaa
end
section
set_option linter.unusedVariables false
set_option linter.unusedSimpArgs false
set_option linter.unnecessarySimpa false
namespace Go.Proofs.Ytkjfkbblfjmnaaa
open Go.Mach

/-! ### slices.Reverse -/
/-- A list of which the first and the last so many have changed places. -/
def sw (l : List GV) (k : Nat) : List GV := (List.range l.length).map fun p => if p < k ∨ l.length - k ≤ p then l.getD (l.length - 1 - p) default else l.getD p default
@[simp] theorem sw_len (l : List GV) (k : Nat) : (sw l k).length = l.length := by simp [sw]
def gd (l : List GV) (p : Nat) : GV := (l[p]?).getD default
theorem gd_get {l : List GV} {p : Nat} (h : p < l.length) : l[p]? = some (gd l p) := by simp [gd, h]
theorem sw_get (l : List GV) (k p : Nat) : (sw l k)[p]? = if p < l.length then some (if p < k ∨ l.length - k ≤ p then gd l (l.length - 1 - p) else gd l p) else none := by
  simp only [sw, List.getElem?_map]
  by_cases h : p < l.length
  · rw [List.getElem?_range h, if_pos h]; rfl
  · rw [List.getElem?_eq_none (by simp; omega), if_neg h]; rfl
theorem sw_zero (l : List GV) : sw l 0 = l := by
  apply List.ext_getElem?
  intro p
  rw [sw_get]
  by_cases h : p < l.length
  · rw [if_pos h, if_neg (by omega), gd_get h]
  · rw [if_neg h, List.getElem?_eq_none (by omega)]
theorem sw_end (l : List GV) (k : Nat) (h : k = l.length / 2) : sw l k = l.reverse := by
  apply List.ext_getElem?
  intro p
  rw [sw_get]
  by_cases hp : p < l.length
  · rw [if_pos hp, List.getElem?_reverse hp, gd_get (by omega)]
    split
    · rfl
    · congr 2; omega
  · rw [if_neg hp, List.getElem?_eq_none (by simp; omega)]
theorem sw_step (l : List GV) (k : Nat) (h : 2 * k + 1 < l.length) : ((sw l k).set k (gd l (l.length - 1 - k))).set (l.length - 1 - k) (gd l k) = sw l (k + 1) := by
  apply List.ext_getElem?
  intro p
  rw [List.getElem?_set, List.getElem?_set, sw_get, sw_get, List.length_set, sw_len]
  by_cases hp : p < l.length
  · simp only [if_pos hp]
    by_cases e1 : l.length - 1 - k = p
    · rw [if_pos e1, if_pos (by omega), if_pos (by omega)]
      congr 2; omega
    · rw [if_neg e1]
      by_cases e2 : k = p
      · rw [if_pos e2, if_pos (by omega), if_pos (by omega)]
        congr 2; omega
      · rw [if_neg e2]
        by_cases e3 : p < k ∨ l.length - k ≤ p
        · rw [if_pos e3, if_pos (by omega)]
        · rw [if_neg e3, if_neg (by omega)]
  · rw [if_neg (by omega), if_neg (by omega), if_neg hp, if_neg hp]
theorem List.set_getElem?_self {α : Type} {l : List α} {i : Nat} {x : α} (h : l[i]? = some x) : l.set i x = l := by
  obtain ⟨hi, rfl⟩ := List.getElem?_eq_some_iff.1 h
  simp
theorem reverse_call0 (c : Bool) (bs : Nat) (σ : Heap) : callT T 85 [.isl [] c] bs σ = some (.tup [], σ) := by
  refine heap_enter (af := c85) (args' := [.isl [] c]) (σ1 := σ) rfl rfl (by simp [c85]) (by simp [c85]) rfl ?_
  simp [c85]
  refine W_for T _ 28 0 (fun i f σ' => f 2 = .int .i64 0 ∧ f 3 = .int .i64 (-1) ∧ σ' = σ) ?_ _ _ ?_
  · rintro i f σ' hi ⟨h2, h3, rfl⟩
    simp [h2, h3, res1]
  · simp [wr64]
theorem reverse_call (l : List GV) (id : Nat) (bs : Nat) (σ : Heap) (hl : l.length ≤ 1000000000) (h : σ[id]? = some (.cells (flat (GV.encs l)) 0 true)) :
    callT T 85 [.sl id 0 l.length 4 true] bs σ = some (.tup [], σ.set id (.cells (flat (GV.encs l.reverse)) 0 true)) := by
  have hid : id < σ.length := (List.getElem?_eq_some_iff.1 h).1
  refine heap_enter (af := c85) (args' := [.sl id 0 l.length 4 true]) (σ1 := σ) rfl rfl (by simp [c85]) (by simp [c85]) rfl ?_
  have hw0 : IntKind.i64.wrap ((l.length : Int) - 1) = (l.length : Int) - 1 := wr64 (by omega) (by omega)
  simp [c85, hw0]
  refine W_for T _ 28 (l.length / 2) (fun k f σ' => f 0 = .sl id 0 l.length 4 true ∧ f 2 = .int .i64 (k : Int) ∧ f 3 = .int .i64 ((l.length : Int) - 1 - (k : Int)) ∧ σ' = σ.set id (.cells (flat (GV.encs (sw l k))) 0 true)) ?_ _ _ ?_
  · rintro k f σ' hk ⟨h0, h2, h3, rfl⟩
    by_cases hlt : k < l.length / 2
    · have hw : IntKind.i64.wrap ((k : Int) + 1) = (k : Int) + 1 := wr64 (by omega) (by omega)
      have hw2 : IntKind.i64.wrap ((l.length : Int) - 1 - (k : Int) - 1) = (l.length : Int) - 1 - ((k : Int) + 1) := by rw [wr64 (by omega) (by omega)]; omega
      have hj : ((l.length : Int) - 1 - (k : Int)).toNat = l.length - 1 - k := by omega
      have hc1 : (k : Int) < (l.length : Int) - 1 - (k : Int) := by omega
      have hc2 : (k : Int) < (l.length : Int) := by omega
      have hc3 : (0 : Int) ≤ (l.length : Int) - 1 - (k : Int) := by omega
      have hc4 : (l.length : Int) - 1 - (k : Int) < (l.length : Int) := by omega
      have hc5 : (k : Int) ≤ (l.length : Int) - 1 := by omega
      have hwk := flat_win (s := 4) (es := GV.encs (sw l k)) (i := k) (by simp; omega) (encsV_len _)
      have hwj := flat_win (s := 4) (es := GV.encs (sw l k)) (i := l.length - 1 - k) (by simp; omega) (encsV_len _)
      have hlen := flat_len (encsV_len (sw l k))
      have hstep := sw_step l k (by omega)
      have hs1 := flat_set (s := 4) (v := (gd l (l.length - 1 - k)).enc) (by simp) (es := GV.encs (sw l k)) (i := k) (by simp; omega) (encsV_len _)
      have hs2 := flat_set (s := 4) (v := (gd l k).enc) (by simp) (es := GV.encs ((sw l k).set k (gd l (l.length - 1 - k)))) (i := l.length - 1 - k) (by simp; omega) (encsV_len _)
      have hset : ∀ (m : List GV) (i : Nat) (v : GV), (GV.encs m).set i v.enc = GV.encs (m.set i v) := fun m i v => by simp [GV.encs_map, List.map_set]
      rw [hset] at hs1 hs2
      rw [hstep] at hs2
      have hvk : (sw l k)[k]'(by simp; omega) = gd l k := by
        have := sw_get l k k
        rw [if_pos (by omega), if_neg (by omega), List.getElem?_eq_getElem (by simp; omega)] at this
        injection this
      have hvj : (sw l k)[l.length - 1 - k]'(by simp; omega) = gd l (l.length - 1 - k) := by
        have := sw_get l k (l.length - 1 - k)
        rw [if_pos (by omega), if_neg (by omega), List.getElem?_eq_getElem (by simp; omega)] at this
        injection this
      have hb1 : k * 4 + 4 ≤ (flat (GV.encs (sw l k))).length := by rw [hlen]; simp; omega
      have hb2 : (l.length - 1 - k) * 4 + 4 ≤ (flat (GV.encs ((sw l k).set k (gd l (l.length - 1 - k))))).length := by rw [flat_len (encsV_len _)]; simp; omega
      rw [GV.encs_getE, hvk] at hwk
      rw [GV.encs_getE, hvj] at hwj
      generalize gd l (l.length - 1 - k) = vj at *
      generalize gd l k = vk at *
      simp at hwk hwj hs1 hs2
      simp [h0, h2, h3, hw, hw2, hj, hc1, hc2, hc3, hc4, hc5, hid, hlt, baseA, hwk, hwj, hb1, hb2, hs1, hs2]
    · have he : k = l.length / 2 := by omega
      have hc1 : ¬ ((k : Int) < (l.length : Int) - 1 - (k : Int)) := by omega
      simp [h0, h2, h3, hc1, res1, sw_end l k he]
  · simp [sw_zero]
    exact (List.set_getElem?_self h).symm
theorem revF_ok (l args : List GV) (hl : l.length ≤ 1000000000) : pureT T c76 [.isl (GV.encs l) false, .isl (GV.encs args) false] = some (resO (some (listV l.reverse))) := by
  apply pure_enter (by simp [c76])
  by_cases hn : l = []
  · subst hn
    have hL := fun A => callList0 (.isl [] false) [A] rfl rfl
    have hR := fun c => reverse_call0 c 0
    try simp at hL
    simp [c76, setRun, hL, hR, resO, listV, GV.enc]
  · have hL := fun A => callListN l hn (by omega) (.isl (GV.encs l) false) [A] [A] rfl rfl
    have hR := fun A B C D => reverse_call l 3 0 [A, B, C, .cells (flat (GV.encs l)) 0 true, D] hl rfl
    have hcl := fun A B C D => close1_flat (σ := [A, B, C, .cells (flat (GV.encs l.reverse)) 0 true, D]) (id := 3) rfl (fun e => hn (by have := (encs_nil _).1 e; simpa using this)) (encsV_agg _) (encsV_clo _)
    try simp at hL
    try simp at hR
    try simp at hcl
    simp [c76, setRun, hL, hR, resO, listV, GV.enc, hcl]
theorem end1_ok (b : Bool) (l args : List GV) (hl : l.length ≤ 1000000000) : pureT T c84 [.isl (GV.encs l) false, .isl (GV.encs args) false, .iptr [.bool b] 0] = some (resO (if b then l.getLast? else l.head?)) := by
  apply pure_enter (by simp [c84])
  by_cases hn : l = []
  · subst hn
    cases b <;> simp [c84, setRun, resO, nilV, GV.enc]
  · have hpos : 0 < l.length := List.length_pos_iff.2 hn
    have hn0 : ¬ (l.length = 0) := by omega
    have hw : IntKind.i64.wrap ((l.length : Int) - 1) = (l.length : Int) - 1 := wr64 (by omega) (by omega)
    have hc1 : (1 : Int) ≤ (l.length : Int) := by omega
    have hc2 : ((l.length : Int) - 1).toNat = l.length - 1 := by omega
    have hc3 : l.length - 1 < l.length := by omega
    cases b
    · have e1 : l[0]? = some (l[0]'hpos) := List.getElem?_eq_getElem hpos
      have e2 : l.head? = some (l[0]'hpos) := by rw [List.head?_eq_getElem?, e1]
      have hlen : (GV.encs l)[0]? = some (l[0]'hpos).enc := by simp [e1]
      simp [c84, setRun, resO, hn, e1, e2, enc_mk, hn0]
    · have e1 : l[l.length - 1]? = some (l[l.length - 1]'hc3) := List.getElem?_eq_getElem hc3
      have e2 : l.getLast? = some (l[l.length - 1]'hc3) := by rw [List.getLast?_eq_getElem?, e1]
      simp [c84, setRun, resO, hn, hw, hc1, hc2, e1, e2, enc_mk, hn0]
theorem end_ok (b : Bool) : pureT T c74 [.bool b] = some (.func 84 [.iptr [.bool b] 0]) := by
  apply pure_enter (by simp [c74])
  simp [c74, frz, res1]
theorem callEnd (b : Bool) (bs : Nat) (σ : Heap) : callT T 74 [.bool b] bs σ = some (.func 84 [.iptr [.bool b] 0], σ) := call_clean rfl rfl rfl (by simp) (end_ok b)
def findV (s : ByteArray) : AV :=
  if s = sCons then .agg [.int .i64 2, .int .i64 1, .func 69 []]
  else if s = sAppend then .agg [.int .i64 2, .int .i64 0, .func 70 []]
  else if s = sConcat then .agg [.int .i64 2, .int .i64 0, .func 71 []]
  else if s = sMember then .agg [.int .i64 2, .int .i64 0, .func 72 []]
  else if s = sSize then .agg [.int .i64 1, .int .i64 0, .func 73 []]
  else if s = sFirst then .agg [.int .i64 1, .int .i64 0, .func 84 [.iptr [.bool false] 0]]
  else if s = sLast then .agg [.int .i64 1, .int .i64 0, .func 84 [.iptr [.bool true] 0]]
  else if s = sRest then .agg [.int .i64 1, .int .i64 0, .func 75 []]
  else if s = sReverse then .agg [.int .i64 1, .int .i64 0, .func 76 []]
  else .agg [.int .i64 (-1), .int .i64 0, .nilfunc]
theorem find_ok (s : ByteArray) : pureT T c61 [.str s] = some (findV s) := by
  apply pure_enter (by simp [c61])
  unfold findV
  by_cases h1 : s = sCons
  · subst h1; simp [c61, setRun]
  by_cases h2 : s = sAppend
  · subst h2; simp [c61, setRun]
  by_cases h3 : s = sConcat
  · subst h3; simp [c61, setRun]
  by_cases h4 : s = sMember
  · subst h4; simp [c61, setRun]
  by_cases h5 : s = sSize
  · subst h5; simp [c61, setRun]
  by_cases h6 : s = sFirst
  · subst h6; simp [c61, setRun, callEnd]
  by_cases h7 : s = sLast
  · subst h7; simp [c61, setRun, callEnd]
  by_cases h8 : s = sRest
  · subst h8; simp [c61, setRun]
  by_cases h9 : s = sReverse
  · subst h9; simp [c61, setRun]
  simp [c61, setRun, h1, h2, h3, h4, h5, h6, h7, h8, h9]
theorem callFind (s : ByteArray) (bs : Nat) (σ : Heap) : callT T 61 [.str s] bs σ = some (findV s, σ) := call_clean rfl rfl rfl (by simp) (find_ok s)
/-- A value in memory of its own is the same value. -/
theorem fresh_ok : ∀ (n : Nat) (v : GV), v.size ≤ n → n ≤ 1000000000 → pureT T c65 [v.enc] = some v.enc := by
  intro n
  induction n with
  | zero => intro v h; cases v; simp [GV.size] at h
  | succ n ih =>
    intro v hs hn
    have hil := items_le v
    have hlen := len_sizes v.items
    have hcall : ∀ x ∈ v.items, ∀ bs σ, callT T 65 [x.enc] bs σ = some (x.enc, σ) := fun x hx bs σ => call_clean rfl rfl rfl (by simp) (ih x (by have := (sizes_mem hx).1; omega) (by omega))
    apply pure_enter (by simp [c65])
    by_cases hk : v.kind = 4
    · by_cases he : v.items = []
      · simp [c65, hk, he, callClone0, setRun]
        refine W_for T 0 28 0 (fun i f σ => f 1 = .ptr 0 0 ∧ f 2 = .ptr 1 0 ∧ f 14 = .int .i64 0 ∧ f 15 = .int .i64 0 ∧ σ = [.cells [.int .i64 4, .int .i64 v.num, .str v.text, .isl [] true] 0 false, .cells [.int .i64 0, .int .i64 0, .str ⟨#[]⟩, .isl [] true] 0 false]) ?_ _ _ ?_
        · rintro i f σ hi ⟨h1, h2, h14, h15, rfl⟩
          simp [h1, h2, h14, h15, setRun]
          simp [GV.enc_eq v, hk, he]
        · simp
      · simp [c65, hk, callClone v.items false he (by omega), setRun]
        refine W_for T 0 28 v.items.length (fun i f σ => f 1 = .ptr 0 0 ∧ f 2 = .ptr 1 0 ∧ f 13 = .sl 3 0 v.items.length 4 true ∧ f 14 = .int .i64 (v.items.length : Int) ∧ f 15 = .int .i64 (i : Int) ∧ ∃ rest, σ = [.cells [.int .i64 4, .int .i64 v.num, .str v.text, .sl 3 0 v.items.length 4 true] 0 false, .cells [.int .i64 0, .int .i64 0, .str ⟨#[]⟩, .isl [] true] 0 false, .cells [] 0 false, .cells (flat (GV.encs v.items)) 0 true] ++ rest) ?_ _ _ ?_
        · rintro i f σ hi ⟨h1, h2, h13, h14, h15, rest, rfl⟩
          by_cases hlt : i < v.items.length
          · have hw : IntKind.i64.wrap ((i : Int) + 1) = (i : Int) + 1 := wr64 (by omega) (by omega)
            have hcl := hcall v.items[i] (List.getElem_mem hlt)
            have hwk := flat_win (s := 4) (es := GV.encs v.items) (i := i) (by simpa using hlt) (encsV_len _)
            have hs1 := flat_set (s := 4) (v := (v.items[i]).enc) (by simp) (es := GV.encs v.items) (i := i) (by simpa using hlt) (encsV_len _)
            have hset : (GV.encs v.items).set i (v.items[i]).enc = GV.encs v.items := by
              have := GV.encs_getE v.items i (by simpa using hlt)
              rw [← this, List.set_getElem_self]
            have hb : i * 4 + 4 ≤ (flat (GV.encs v.items)).length := by rw [flat_len (encsV_len _)]; simp; omega
            rw [hset] at hs1
            rw [GV.encs_getE] at hwk
            generalize v.items[i] = x at *
            simp at hwk hs1
            simp [h1, h2, h13, h14, h15, hlt, hw, hcl, hwk, hs1, hb, enc_mk, setRun]
          · have he2 : i = v.items.length := by omega
            subst he2
            have hcl := close1_flat (σ := [.cells [.int .i64 4, .int .i64 v.num, .str v.text, .sl 3 0 v.items.length 4 true] 0 false, .cells [.int .i64 4, .int .i64 v.num, .str v.text, .sl 3 0 v.items.length 4 true] 0 false, .cells [] 0 false, .cells (flat (GV.encs v.items)) 0 true] ++ rest) (id := 3) rfl (fun e => he ((encs_nil _).1 e)) (encsV_agg _) (encsV_clo _)
            simp at hcl
            simp [h1, h2, h13, h14, h15, setRun, hcl]
            simp [GV.enc_eq v, hk]
        · simp
    · simp [c65, hk, setRun]
theorem callFresh (v : GV) (hs : v.size ≤ 1000000000) (bs : Nat) (σ : Heap) : callT T 65 [v.enc] bs σ = some (v.enc, σ) := call_clean rfl rfl rfl (by simp) (fresh_ok v.size v (Nat.le_refl _) hs)
end Go.Proofs.Ytkjfkbblfjmnaaa
end
section
set_option linter.unusedVariables false
set_option linter.unusedSimpArgs false
set_option linter.unnecessarySimpa false
namespace Go.Proofs.Ytkjfkbblfjmnaaa
open Go.Mach

/-! ### builtin.Call and builtin.Op -/
theorem call1_ok (x : GV) (hs : x.size ≤ 100000000000) (bs : Nat) (σ : Heap) : callT T 63 [x.enc] bs σ = some (.bool (!rightT x), σ) := by
  have hr := valRight x hs
  refine call_clean rfl rfl rfl (by simp) ?_
  apply pure_enter (by simp [c63])
  simp [c63, hr, enc_mk]
theorem bcall_gen (s : ByteArray) (ar ix f : Nat) (caps : List AV) (hf : findV s = .agg [.int .i64 (ar : Int), .int .i64 (ix : Int), .func f caps]) (hix : ix < ar) (args : List GV) (hsz : ∀ a ∈ args, a.size ≤ 100000000000) (hlen : args.length ≤ 1000000000) (D : GV → Option GV)
    (hdo : args.length = ar → (∀ a ∈ args, rightT a = true) → ∀ a, args[ix]? = some a → a.kind = 4 → (∀ bs σ, callT T f ([.isl (GV.encs a.items) false, .isl (GV.encs args) false] ++ caps) bs σ = some (resO (D a), σ)) ∧ (∀ v, D a = some v → v.size ≤ 1000000000)) :
    pureT T c46 [.str s, .isl (GV.encs args) false] = some (resO (if args.length = ar ∧ args.all rightT = true then (args[ix]?).bind fun a => if a.kind = 4 then D a else none else none)) := by
  have hfind := callFind s
  rw [hf] at hfind
  have hcont := fun bs σ => call_contains (fun x => !rightT x) args 63 [] (by simp) (by omega) (fun x hx bs σ => call1_ok x (hsz x hx) bs σ) bs σ
  apply pure_enter (by simp [c46])
  by_cases hl : args.length = ar
  · have hlc : (ar : Int) = (args.length : Int) := by omega
    by_cases hr : args.all rightT = true
    · have hany : args.any (fun x => !rightT x) = false := by
        rw [Bool.eq_false_iff]; intro h
        rw [List.any_eq_true] at h
        obtain ⟨x, hx, h⟩ := h
        rw [List.all_eq_true.1 hr x hx] at h; cases h
      have hix2 : ix < args.length := by omega
      obtain ⟨a, ha⟩ : ∃ a, args[ix]? = some a := ⟨_, List.getElem?_eq_getElem hix2⟩
      have hae : args[ix]'hix2 = a := by rw [List.getElem?_eq_getElem hix2] at ha; injection ha
      have hg : (GV.encs args)[ix]? = some a.enc := by simp [ha]
      rw [if_pos ⟨hl, hr⟩, ha, Option.bind_some]
      by_cases hk : a.kind = 4
      · rw [if_pos hk]
        obtain ⟨hd, hds⟩ := hdo hl (List.all_eq_true.1 hr) a ha hk
        have hfr := callFresh ((D a).getD nilV) (by
          cases hD : D a with
          | none => decide
          | some v => exact hds v hD)
        simp only [List.cons_append, List.nil_append, resO] at hd
        simp [c46, hfind, hlc, hcont, hany, ha, hk, hd, hfr, setRun, resO, enc_mk, gv_eta]
      · rw [if_neg hk]
        simp [c46, hfind, hlc, hcont, hany, ha, hk, setRun, resO, nilV, GV.enc]
    · have hany : args.any (fun x => !rightT x) = true := by
        rw [List.any_eq_true]
        simp only [List.all_eq_true, Classical.not_forall] at hr
        obtain ⟨x, hx, h⟩ := hr
        exact ⟨x, hx, by simpa using h⟩
      rw [if_neg (fun h => hr h.2)]
      simp [c46, hfind, hlc, hcont, hany, setRun, resO, nilV, GV.enc]
  · have hlc : ¬ (ar : Int) = (args.length : Int) := by omega
    rw [if_neg (fun h => hl h.1)]
    simp [c46, hfind, hlc, setRun, resO, nilV, GV.enc]
def callD (s : ByteArray) (args : List GV) (a : GV) : Option GV :=
  if s = sCons then doCons a.items args else if s = sAppend then doAppend a.items args else if s = sConcat then doConcat a.items args else if s = sMember then doMember a.items args
  else if s = sSize then some (numV a.items.length) else if s = sFirst then a.items.head? else if s = sLast then a.items.getLast? else if s = sRest then (if a.items = [] then none else some (listV a.items.tail)) else some (listV a.items.reverse)
/-- A call's value. -/
def callV (s : ByteArray) (args : List GV) : Option GV :=
  if (args.length : Int) = arityOf s ∧ args.all rightT = true then (args[if s = sCons then 1 else 0]?).bind fun a => if a.kind = 4 then callD s args a else none else none
theorem made_some {v w : GV} (h : made v = some w) : w = v ∧ rightT v = true := by
  unfold made at h; split at h
  · rename_i hr; injection h with h; exact ⟨h.symm, hr⟩
  · cases h
theorem numV_size (n : Int) : (numV n).size = 5 := by simp only [numV, GV.size, GV.sizes]; rfl
theorem sizes_reverse (l : List GV) : GV.sizes l.reverse = GV.sizes l := by
  induction l with
  | nil => rfl
  | cons x l ih => rw [List.reverse_cons, sizes_append, ih]; simp only [GV.sizes]; omega
theorem callD_size {s : ByteArray} {args : List GV} {a v : GV} (ha : a.size ≤ 2936010) (h : callD s args a = some v) : v.size ≤ 2936020 := by
  have hil := items_le a
  have hm : ∀ {w}, made w = some v → v.size ≤ 2936020 := fun h => by obtain ⟨rfl, hr⟩ := made_some h; have := rightT_size hr; omega
  unfold callD at h
  split at h
  · cases args with
    | nil => cases h
    | cons b args => exact hm h
  split at h
  · exact hm h
  split at h
  · unfold doConcat at h
    split at h
    · split at h
      · exact hm h
      · cases h
    · cases h
  split at h
  · unfold doMember at h
    split at h
    · injection h with h; rw [← h, numV_size]; omega
    · cases h
  split at h
  · injection h with h; rw [← h, numV_size]; omega
  split at h
  · have := (sizes_mem (List.mem_of_head? h)).1; omega
  split at h
  · have := (sizes_mem (List.mem_of_getLast? h)).1; omega
  split at h
  · split at h
    · cases h
    · injection h with h
      rw [← h, listV_size]
      have : GV.sizes a.items.tail ≤ GV.sizes a.items := by cases a.items <;> simp [GV.sizes]
      omega
  · injection h with h
    rw [← h, listV_size, sizes_reverse]; omega
theorem bCall_ok (s : ByteArray) (args : List GV) (hsz : ∀ a ∈ args, a.size ≤ 100000000000) (hlen : args.length ≤ 1000000000) : pureT T c46 [.str s, .isl (GV.encs args) false] = some (resO (callV s args)) := by
  have hrs : (∀ a ∈ args, rightT a = true) → ∀ a ∈ args, a.size ≤ 2936010 := fun h a ha => rightT_size (h a ha)
  have one : ∀ (f : Nat) (caps : List AV), findV s = .agg [.int .i64 1, .int .i64 0, .func f caps] → arityOf s = 1 → s ≠ sCons →
      (∀ a : GV, a.size ≤ 2936010 → args = [a] → ∀ bs σ, callT T f ([.isl (GV.encs a.items) false, .isl (GV.encs args) false] ++ caps) bs σ = some (resO (callD s args a), σ)) →
      pureT T c46 [.str s, .isl (GV.encs args) false] = some (resO (callV s args)) := by
    intro f caps hf har hs hd
    have := bcall_gen s 1 0 f caps hf (by omega) args hsz hlen (callD s args) (fun hl hr a ha hk => by
      have ha0 : a ∈ args := List.mem_of_getElem? ha
      have hargs : args = [a] := by
        match args, hl, ha with
        | [x], _, ha => simp at ha; rw [ha]
      exact ⟨hd a (hrs hr a ha0) hargs, fun v hv => Nat.le_trans (callD_size (hrs hr a ha0) hv) (by omega)⟩)
    rw [this]
    unfold callV
    rw [har, if_neg hs]
    have : ((args.length : Int) = 1) ↔ args.length = 1 := by omega
    simp only [this]
  have two : ∀ (ix f : Nat) (caps : List AV), findV s = .agg [.int .i64 2, .int .i64 (ix : Int), .func f caps] → ix < 2 → arityOf s = 2 → ix = (if s = sCons then 1 else 0) →
      (∀ a b x : GV, a.size ≤ 2936010 → b.size ≤ 2936010 → x.size ≤ 2936010 → args = [a, b] → args[ix]? = some x → ∀ bs σ, callT T f ([.isl (GV.encs x.items) false, .isl (GV.encs args) false] ++ caps) bs σ = some (resO (callD s args x), σ)) →
      pureT T c46 [.str s, .isl (GV.encs args) false] = some (resO (callV s args)) := by
    intro ix f caps hf hix har hs hd
    have := bcall_gen s 2 ix f caps hf hix args hsz hlen (callD s args) (fun hl hr x hx hk => by
      have hx0 : x ∈ args := List.mem_of_getElem? hx
      obtain ⟨a, b, hargs⟩ : ∃ a b, args = [a, b] := by
        match args, hl with
        | [a, b], _ => exact ⟨a, b, rfl⟩
      exact ⟨hd a b x (hrs hr a (by simp [hargs])) (hrs hr b (by simp [hargs])) (hrs hr x hx0) hargs hx, fun v hv => Nat.le_trans (callD_size (hrs hr x hx0) hv) (by omega)⟩)
    rw [this]
    unfold callV
    rw [har, ← hs]
    have : ((args.length : Int) = 2) ↔ args.length = 2 := by omega
    simp only [this]
  have hitems : ∀ a : GV, a.size ≤ 2936010 → GV.sizes a.items ≤ 2936010 ∧ a.items.length ≤ 2936010 := fun a h => by have := items_le a; have := len_sizes a.items; omega
  by_cases h1 : s = sCons
  · refine two 1 69 [] (by simp [findV, h1]) (by omega) (by rw [h1]; decide) (by rw [if_pos h1]) fun a b x ha hb hx hargs hxi bs σ => ?_
    subst hargs
    have := hitems x hx
    exact call_clean rfl rfl rfl (by simp) ((cons_ok x.items a [b] (by omega)).trans (by simp [callD, h1]))
  by_cases h2 : s = sAppend
  · refine two 0 70 [] (by simp [findV, h2]) (by omega) (by rw [h2]; decide) (by rw [if_neg h1]) fun a b x ha hb hx hargs hxi bs σ => ?_
    subst hargs
    have := hitems x hx
    exact call_clean rfl rfl rfl (by simp) ((append_ok x.items [b] a (by simp only [GV.sizes]; omega)).trans (by simp [callD, h2]))
  by_cases h3 : s = sConcat
  · refine two 0 71 [] (by simp [findV, h3]) (by omega) (by rw [h3]; decide) (by rw [if_neg h1]) fun a b x ha hb hx hargs hxi bs σ => ?_
    subst hargs
    have := hitems x hx
    exact call_clean rfl rfl rfl (by simp) ((concatF_ok x.items [] a b (by omega)).trans (by simp [callD, h3]))
  by_cases h4 : s = sMember
  · refine two 0 72 [] (by simp [findV, h4]) (by omega) (by rw [h4]; decide) (by rw [if_neg h1]) fun a b x ha hb hx hargs hxi bs σ => ?_
    subst hargs
    have := hitems x hx
    exact call_clean rfl rfl rfl (by simp) ((member_ok x.items [] a b (by omega)).trans (by simp [callD, h4]))
  by_cases h5 : s = sSize
  · refine one 73 [] (by simp [findV, h5]) (by rw [h5]; decide) h1 fun a ha hargs bs σ => ?_
    have := hitems a ha
    exact call_clean rfl rfl rfl (by simp) ((size_ok a.items args (by omega)).trans (by simp [callD, h5]))
  by_cases h6 : s = sFirst
  · refine one 84 [.iptr [.bool false] 0] (by simp [findV, h6]) (by rw [h6]; decide) h1 fun a ha hargs bs σ => ?_
    have := hitems a ha
    exact call_clean rfl rfl rfl (by simp) ((end1_ok false a.items args (by omega)).trans (by simp [callD, h6]))
  by_cases h7 : s = sLast
  · refine one 84 [.iptr [.bool true] 0] (by simp [findV, h7]) (by rw [h7]; decide) h1 fun a ha hargs bs σ => ?_
    have := hitems a ha
    exact call_clean rfl rfl rfl (by simp) ((end1_ok true a.items args (by omega)).trans (by simp [callD, h7]))
  by_cases h8 : s = sRest
  · refine one 75 [] (by simp [findV, h8]) (by rw [h8]; decide) h1 fun a ha hargs bs σ => ?_
    have := hitems a ha
    exact call_clean rfl rfl rfl (by simp) ((rest_ok a.items args (by omega)).trans (by simp [callD, h8]))
  by_cases h9 : s = sReverse
  · refine one 76 [] (by simp [findV, h9]) (by rw [h9]; decide) h1 fun a ha hargs bs σ => ?_
    have := hitems a ha
    exact call_clean rfl rfl rfl (by simp) ((revF_ok a.items args (by omega)).trans (by simp [callD, h9]))
  have hf : findV s = .agg [.int .i64 (-1), .int .i64 0, .nilfunc] := by simp [findV, h1, h2, h3, h4, h5, h6, h7, h8, h9]
  have har : arityOf s = -1 := by simp [arityOf, h1, h2, h3, h4, h5, h6, h7, h8, h9]
  have hfind := callFind s
  rw [hf] at hfind
  have hv : callV s args = none := by unfold callV; rw [har, if_neg]; omega
  have hlc : ¬ (-1 : Int) = (args.length : Int) := by omega
  rw [hv]
  apply pure_enter (by simp [c46])
  simp [c46, hfind, hlc, setRun, resO, nilV, GV.enc]
theorem callBCall (s : ByteArray) (args : List GV) (hsz : ∀ a ∈ args, a.size ≤ 100000000000) (hlen : args.length ≤ 1000000000) (bs : Nat) (σ : Heap) : callT T 46 [.str s, .isl (GV.encs args) false] bs σ = some (resO (callV s args), σ) := call_clean rfl rfl rfl (by simp) (bCall_ok s args hsz hlen)
end Go.Proofs.Ytkjfkbblfjmnaaa
end
section
set_option linter.unusedVariables false
set_option linter.unusedSimpArgs false
set_option linter.unnecessarySimpa false
namespace Go.Proofs.Ytkjfkbblfjmnaaa
open Go.Mach

/-- What two numbers are reckoned to. -/
def opV (s : ByteArray) (a b : GV) : Option GV :=
  if a.kind = 1 ∧ b.kind = 1 ∧ rightT a = true ∧ rightT b = true then
    (if s = ⟨#[43]⟩ then made (numV (a.num + b.num)) else if s = ⟨#[45]⟩ then made (numV (a.num - b.num)) else if s = ⟨#[42]⟩ then made (numV (a.num * b.num)) else none)
  else none
theorem right_num {a : GV} (hk : a.kind = 1) (h : rightT a = true) : -2147483647 ≤ a.num ∧ a.num ≤ 2147483647 := by
  have h : rightB a _ = true := h
  unfold rightB at h
  rw [if_pos hk, decide_eq_true_eq] at h
  exact ⟨h.2.2.2, h.2.2.1⟩
theorem mul_bound {a b : Int} (ha : -2147483647 ≤ a ∧ a ≤ 2147483647) (hb : -2147483647 ≤ b ∧ b ≤ 2147483647) : -4611686014132420609 ≤ a * b ∧ a * b ≤ 4611686014132420609 := by
  have h1 : (a * b).natAbs ≤ 2147483647 * 2147483647 := by rw [Int.natAbs_mul]; exact Nat.mul_le_mul (by omega) (by omega)
  omega
theorem bOp_ok (s : ByteArray) (a b : GV) (ha : a.size ≤ 100000000000) (hb : b.size ≤ 100000000000) : pureT T c47 [.str s, a.enc, b.enc] = some (resO (opV s a b)) := by
  have hra := valRight a ha
  have hrb := valRight b hb
  apply pure_enter (by simp [c47])
  unfold opV
  by_cases h : a.kind = 1 ∧ b.kind = 1 ∧ rightT a = true ∧ rightT b = true
  · rw [if_pos h]
    obtain ⟨h1, h2, h3, h4⟩ := h
    have hna := right_num h1 h3
    have hnb := right_num h2 h4
    have hm := mul_bound hna hnb
    rw [h3] at hra
    rw [h4] at hrb
    have w1 : IntKind.i64.wrap (a.num + b.num) = a.num + b.num := wr64 (by omega) (by omega)
    have w2 : IntKind.i64.wrap (a.num - b.num) = a.num - b.num := wr64 (by omega) (by omega)
    have w3 : IntKind.i64.wrap (a.num * b.num) = a.num * b.num := wr64 (by omega) (by omega)
    have hr2 := fun n => callRight2 (numV n) (by rw [numV_size]; omega)
    obtain ⟨ka, na, ta, la⟩ := a
    obtain ⟨kb, nb, tb, lb⟩ := b
    replace h1 : ka = 1 := h1
    replace h2 : kb = 1 := h2
    subst h1 h2
    simp only [GV.num] at w1 w2 w3 ⊢
    by_cases e1 : s = ⟨#[43]⟩
    · subst e1
      simp [c47, hra, hrb, w1, callNumber, hr2, setRun, resO, enc_mk]
    · by_cases e2 : s = ⟨#[45]⟩
      · subst e2
        simp [c47, hra, hrb, w2, callNumber, hr2, setRun, resO, enc_mk]
      · by_cases e3 : s = ⟨#[42]⟩
        · subst e3
          simp [c47, hra, hrb, w3, callNumber, hr2, setRun, resO, enc_mk]
        · simp [c47, hra, hrb, e1, e2, e3, setRun, resO, nilV, enc_mk, enc_mk0]
  · rw [if_neg h]
    by_cases h1 : a.kind = 1
    · by_cases h2 : b.kind = 1
      · have h34 : rightT a = false ∨ rightT b = false := by
          cases h3 : rightT a
          · exact .inl rfl
          · cases h4 : rightT b
            · exact .inr rfl
            · exact absurd ⟨h1, h2, h3, h4⟩ h
        obtain ⟨ka, na, ta, la⟩ := a
        obtain ⟨kb, nb, tb, lb⟩ := b
        replace h1 : ka = 1 := h1
        replace h2 : kb = 1 := h2
        subst h1 h2
        cases h3 : rightT (GV.mk 1 na ta la)
        · rw [h3] at hra
          simp [c47, hra, setRun, resO, nilV, enc_mk, enc_mk0]
        · rw [h3] at hra
          have h4 : rightT (GV.mk 1 nb tb lb) = false := by rcases h34 with h | h; rw [h3] at h; cases h; exact h
          rw [h4] at hrb
          simp [c47, hra, hrb, setRun, resO, nilV, enc_mk, enc_mk0]
      · simp [c47, h1, h2, setRun, resO, nilV, GV.enc]
    · simp [c47, h1, setRun, resO, nilV, GV.enc]
theorem callBOp (s : ByteArray) (a b : GV) (ha : a.size ≤ 100000000000) (hb : b.size ≤ 100000000000) (bs : Nat) (σ : Heap) : callT T 47 [.str s, a.enc, b.enc] bs σ = some (resO (opV s a b), σ) := call_clean rfl rfl rfl (by simp) (bOp_ok s a b ha hb)
theorem opV_size {s : ByteArray} {a b v : GV} (h : opV s a b = some v) : v.size ≤ 2936020 := by
  have hm : ∀ {w}, made w = some v → v.size ≤ 2936020 := fun h => by obtain ⟨rfl, hr⟩ := made_some h; have := rightT_size hr; omega
  unfold opV at h
  split at h
  · split at h
    · exact hm h
    · split at h
      · exact hm h
      · split at h
        · exact hm h
        · cases h
  · cases h
end Go.Proofs.Ytkjfkbblfjmnaaa
end
