import Derived.Test.YtpgakkhfjjhpdaaC5
import Derived.Test.YtpgakkhfjjhpdaaChecked
import Derived.Test.YtpgakkhfjjhpdaaC4
import Derived.KernelRfl
import Derived.WalkKit
import Derived.Lib.Bytealg
import Derived.BigFrameIn
import Derived.Lib.Builder
import Derived.Lib.AppendStr
import Derived.Lib.UnsafeStr
import Derived.Lib.Walk
import Derived.BigRegion
import Derived.Laws.IdiomCopy
import Derived.Laws.Externs
import Derived.Laws.RangeAny
import Derived.Lib.ItoaNum
import Derived.Lib.ItoaLen
set_option linter.unusedVariables false
set_option linter.unusedSimpArgs false
set_option linter.unnecessarySimpa false
section
namespace Go.Proofs.Ytpgakkhfjjhpdaa
open Go.RowKit Go.Mach
set_option maxHeartbeats 1000000 in
set_option maxRecDepth 100000 in
theorem cmp_calls (a b : ByteArray) (w : World) :
    Calls Try.prog 105 #[.string a, .string b] w fun e w' => e = .returned (.int .i64 (Lib.compareBytes a.data.toList b.data.toList)) ∧ w' = w := by
  go_enter Try.func105, Try.ntmps105
  go_wp2
  rw [run_callFunc_extern Try.func106 (by kernel_rfl) (by kernel_rfl) (by kernel_rfl) (e := Extern.BytealgCompare.compare) (by kernel_rfl), Lib.run_compareString]
  simp only [Result.andThen]
  rw [Oper.upon_value]
  go_wp2
  go_ret
  exact ⟨rfl, rfl⟩
def cmpP (args : List AV) (_ : Nat) (σ : Heap) : Option (AV × Heap) := match args with
  | [.str a, .str b] => some (.int .i64 (Lib.compareBytes a.data.toList b.data.toList), σ)
  | _ => none
theorem args1 {g : Gh} {x : AV} {cargs : Array Value} (hA : Args g [x] cargs) : ∃ c, cargs = #[c] ∧ VR g x c := by
  have h0 := hA.len
  match hcl : cargs.toList, (show cargs.toList.length = 1 by simpa using h0.symm) with
  | [c], _ => exact ⟨c, by rw [← Array.toArray_toList (xs := cargs), hcl], hA.val 0 _ c rfl (by rw [← Array.getElem?_toList, hcl]; rfl)⟩
theorem args2 {g : Gh} {x y : AV} {cargs : Array Value} (hA : Args g [x, y] cargs) : ∃ c d, cargs = #[c, d] ∧ VR g x c ∧ VR g y d := by
  have h0 := hA.len
  match hcl : cargs.toList, (show cargs.toList.length = 2 by simpa using h0.symm) with
  | [c, d], _ =>
    exact ⟨c, d, by rw [← Array.toArray_toList (xs := cargs), hcl], hA.val 0 _ c rfl (by rw [← Array.getElem?_toList, hcl]; rfl), hA.val 1 _ d rfl (by rw [← Array.getElem?_toList, hcl]; rfl)⟩
theorem cmp_ok : PrimOK Try.prog 105 cmpP := by
  intro args bs σ v σ' h hbs
  unfold cmpP at h
  split at h
  · rename_i a b
    injection h with h; injection h with e1 e2; subst e1 e2
    refine ⟨⟨_, Try.func105, by kernel_rfl, by kernel_rfl⟩, fun g ow w cargs hH hA => ?_⟩
    obtain ⟨c, d, rfl, hx, hy⟩ := args2 hA
    rw [hx.strv, hy.strv]
    refine (cmp_calls a b w).mono ?_
    rintro e w' ⟨rfl, rfl⟩
    exact ⟨_, g, ow, rfl, .int _ _, hH, .refl ..⟩
  · cases h
set_option maxHeartbeats 1000000 in
set_option maxRecDepth 100000 in
theorem grow_calls (a : Option Addr) (n : Int) (h0 : 0 < n) (hn : n ≤ 1000000000) (w : World) :
    Calls Try.prog 99 #[.slice a 0 0, .int .i64 n] w fun e w' => ∃ c cv tag, e = .returned (.slice (some ⟨w.heap.size, 0, none⟩) 0 c) ∧
      w'.heap = w.heap.push (.cells cv tag (0, 0)) ∧ Same w w' ∧ c * 4 ≤ cv.size := by
  have hb : Try.t52.bytes = 56 := by rfl
  have hg : Builtin.nextslicecap n.toNat 0 = n.toNat := nextslicecap_zero (by omega)
  go_enter Try.func99, Try.ntmps99
  cases a
  all_goals (
    go_wp2
    all_goals first
      | (exfalso; simp only [hb, hg] at *; omega)
      | skip
    go_ret
    refine ⟨_, rfl, _, ⟨_, rfl⟩, ⟨rfl, rfl, rfl⟩, ?_⟩
    simp [Builtin.zeroCells, Question.cut]
    omega)
set_option maxRecDepth 100000 in
theorem grow_none (a : Option Addr) (w : World) :
    Calls Try.prog 99 #[.slice a 0 0, .int .i64 0] w fun e w' => e = .returned (.slice a 0 0) ∧ w' = w := by
  go_enter Try.func99, Try.ntmps99
  go_wp2
  go_ret
  exact ⟨rfl, rfl⟩
def growP (args : List AV) (_ : Nat) (σ : Heap) : Option (AV × Heap) := match args with
  | [.isl [] true, .int .i64 n] => if 0 < n ∧ n ≤ 1000000000 then some (.own σ.length [], σ ++ [.tok 0 4]) else if n = 0 then some (.isl [] true, σ) else none
  | _ => none
theorem grow_ok : PrimOK Try.prog 99 growP := by
  intro args bs σ v σ' h hbs
  unfold growP at h
  split at h
  · rename_i n
    refine ⟨⟨_, Try.func99, by kernel_rfl, by kernel_rfl⟩, fun g ow w cargs hH hA => ?_⟩
    obtain ⟨c, d, rfl, hx, hy⟩ := args2 hA
    have hy : d = .int .i64 n := by cases hy; rfl
    obtain ⟨ad, hc⟩ : ∃ ad, c = .slice ad 0 0 := by
      cases hx with
      | @isl _ _ ad c0 _ _ _ vs hc hs ha hcap hn hM hV => have := hcap rfl; simp at this; subst this; exact ⟨_, rfl⟩
    subst hc hy
    split at h
    · rename_i hn
      injection h with h; injection h with e1 e2; subst e1 e2
      refine (grow_calls ad n hn.1 hn.2 w).mono ?_
      rintro e w' ⟨c, cv, tag, rfl, hw, hs, hc⟩
      obtain ⟨hle, hH', hS⟩ := hH.tokNew (bs := bs) (n := 0) (s := 4) (c := c) hw hs (.inl ⟨rfl, rfl⟩) hc (Nat.zero_le _)
      refine ⟨_, _, _, rfl, own_VR (es := []) (s := 4) (by simp) (by omega) ?_ (Nat.zero_le _) (by simp [flat]), hH', hS⟩
      simp [Gh.tk]
    · split at h
      · rename_i h0; subst h0
        injection h with h; injection h with e1 e2; subst e1 e2
        refine (grow_none ad w).mono ?_
        rintro e w' ⟨rfl, rfl⟩
        exact ⟨_, g, ow, rfl, hx, hH, .refl ..⟩
      · cases h
  · cases h
theorem eq_nil {P : Program} {t e : TypeId} (ht : P.underlying t = some (.slice e)) (a : Option Addr) (c : Nat) (w : World) : Sem.run P (binOp .eql t (.slice a 0 c) (.slice none 0 0)) w = .ok (.bool a.isNone) w := by
  have heq : (Op.equal t (.slice a 0 c) (.slice none 0 0)).run P w = .ok a.isNone w := by
    have hd : ∀ d, (Op.equalIn (d + 1) t (.slice a 0 c) (.slice none 0 0)).run P w = .ok a.isNone w := fun d => by cases a <;> simp [Op.equalIn, run_und ht]
    exact hd 9999
  simp [binOp, heq]
set_option maxRecDepth 100000 in
set_option maxHeartbeats 1000000 in
theorem cloneV_nil (a : Option Addr) (c : Nat) (w : World) :
    Calls Try.prog 98 #[.slice a 0 c] w fun e w' => ∃ a', e = .returned (.slice a' 0 0) ∧ Same w w' ∧ w.heap.size ≤ w'.heap.size ∧ ∀ b, b < w.heap.size → w'.heap[b]? = w.heap[b]? := by
  go_enter Try.func98, Try.ntmps98
  have hu : Try.prog.underlying 50 = some (.slice 52) := by kernel_rfl
  cases a with
  | none =>
    have hb : ∀ w, Sem.run Try.prog (binOp .eql 50 (.slice none 0 c) (.slice none 0 0)) w = .ok (.bool true) w := fun w => eq_nil hu none c w
    go_wp2
    go_ret
    exact ⟨_, rfl, ⟨rfl, rfl, rfl⟩, Nat.le_refl _, fun _ _ => rfl⟩
  | some a =>
    have hb : ∀ w, Sem.run Try.prog (binOp .eql 50 (.slice (some a) 0 c) (.slice none 0 0)) w = .ok (.bool false) w := fun w => eq_nil hu (some a) c w
    go_wp2
    go_ret
    have hal : ∀ o, (w.alloc o).heap = w.heap.push o := fun _ => rfl
    exact ⟨_, rfl, ⟨rfl, rfl, rfl⟩, by rw [hal, Array.size_push]; exact Nat.le_succ _, fun b hb => by rw [hal, Array.getElem?_push, if_neg (Nat.ne_of_lt hb)]⟩
end Go.Proofs.Ytpgakkhfjjhpdaa
end
section
namespace Go.Proofs.Ytpgakkhfjjhpdaa
open Go.RowKit Go.Mach
def TV : Tab := ⟨fun f => if f = 98 then some x98 else none, fun _ => none, fun _ => none⟩
theorem TV_ok : TabOK Try.prog TV where
  mixed := by kernel_rfl
  fn f af h := by
    simp only [TV] at h
    split at h
    · rename_i e; injection h with h; subst h e; exact ⟨_, _, Try.func98, kx98⟩
    · cases h
  pr f p h := by cases h
  yn := ⟨rfl, by decide⟩
theorem cloneV_run (es : List AV) (c : Bool) (bs : Nat) (σ : Heap) (hne : es ≠ []) (hf : (flat es).length = es.length * 4) (hl : es.length ≤ 10000000000) :
    evalFn TV 3 98 [.isl es c] bs σ = some (.sl (σ.length + 1) 0 es.length 4 true, σ ++ [.cells [] 0 false, .cells (flat es) 0 true]) := by
  have hnn : notNil (.isl es c) = true := by cases es with
    | nil => exact absurd rfl hne
    | cons x l => rfl
  have he0 : elemsA (σ ++ [.cells [] 0 false]) 4 true (.sl σ.length 0 0 4 true) = some [] := by
    simp [elemsA, window, chunk]
  have he1 : elemsN (σ ++ [.cells [] 0 false]) 4 true (.isl es c) = some es := rfl
  have hap : appendA (σ ++ [.cells [] 0 false]) 4 true 56 true (.sl σ.length 0 0 4 true) (.isl es c) = some (.sl (σ.length + 1) 0 es.length 4 true, σ ++ [.cells [] 0 false, .cells (flat es) 0 true]) := by
    have h1 : ¬ ((4 : Nat) = 0 ∨ (0 + es.length) * 56 > 70368744177664 ∨ 0 + es.length > 70368744177664) := by omega
    simp only [appendA, he0, he1, Option.bind_some, isSl, if_neg hne, List.length_nil, if_neg h1]
    simp [hf]
    simp [flat]
  simp [evalFn, TV, x98, exec, runOps, startA, stepAll, stepOp, ev, hnn, onNormal, finA, resA, res1, closeRes, closeArgs, dropA, baseA, guardA, chkO, setDst, fillA, hap]
def cloneVP (args : List AV) (bs : Nat) (σ : Heap) : Option (AV × Heap) := match args with
  | [.isl es c] => if es = [] then some (.isl [] true, σ) else if (flat es).length = es.length * 4 ∧ es.length ≤ 10000000000 then some (.sl (σ.length + 1) 0 es.length 4 true, σ ++ [.cells [] 0 false, .cells (flat es) 0 true]) else none
  | _ => none
theorem cloneV_ok : PrimOK Try.prog 98 cloneVP := by
  intro args bs σ v σ' h hbs
  unfold cloneVP at h
  split at h
  · rename_i es c
    split at h
    · rename_i he; subst he
      injection h with h; injection h with e1 e2; subst e1 e2
      refine ⟨⟨_, Try.func98, by kernel_rfl, by kernel_rfl⟩, fun g ow w cargs hH hA => ?_⟩
      obtain ⟨cc, rfl, hx⟩ := args1 hA
      obtain ⟨ad, cap, rfl⟩ : ∃ ad cap, cc = .slice ad 0 cap := by
        cases hx with
        | @isl _ _ ad c0 _ _ _ vs hc hs ha hcap hn hM hV => exact ⟨_, _, rfl⟩
      refine (cloneV_nil ad cap w).mono ?_
      rintro e w' ⟨a', rfl, hs, hsz, hheap⟩
      obtain ⟨h1, h2⟩ := hH.more (bs := bs) hsz hheap hs.os hs.tape hs.output
      exact ⟨_, g, ow, rfl, isl_VR (es := []) (b := 0) (p := 0) (s := 1) (a := a') (c := 0) (by simp) (by omega) (.inl rfl) (fun _ => rfl) (Nat.zero_le _) (by simp [flat]), h1, h2⟩
    · rename_i hne
      split at h
      · rename_i hc
        injection h with h; injection h with e1 e2; subst e1 e2
        exact (eval_sound TV_ok 3).fn _ _ _ _ _ _ (by decide) (cloneV_run es c bs σ hne hc.1 hc.2) hbs
      · cases h
  · cases h
end Go.Proofs.Ytpgakkhfjjhpdaa
end
section
namespace Go.Proofs.Ytpgakkhfjjhpdaa
open Go.RowKit Go.Mach
end Go.Proofs.Ytpgakkhfjjhpdaa
end
section
namespace Go.Proofs.Ytpgakkhfjjhpdaa
open Go.RowKit Go.Mach
end Go.Proofs.Ytpgakkhfjjhpdaa
end
section
namespace Go.Proofs.Ytpgakkhfjjhpdaa
open Go.Mach
def prims : List (Nat × (List AV → Nat → Heap → Option (AV × Heap))) := [
  (105, cmpP),
  (99, growP),
  (98, cloneVP),
  (1000000, fun _ _ _ => none)]
noncomputable def T : Tab := ⟨fun f => (fns.find? (·.1 == f)).map (·.2), fun f => (prims.find? (·.1 == f)).map (·.2), rds⟩
theorem prims_ok : ∀ p ∈ prims, PrimOK Try.prog p.1 p.2 := by
  simp only [prims, List.forall_mem_cons]
  exact ⟨
    cmp_ok,
    grow_ok,
    cloneV_ok,
    (fun _ _ _ _ _ h => by cases h), fun _ h => by cases h⟩
theorem T_ok : TabOK Try.prog T where
  mixed := by kernel_rfl
  fn f af h := by
    obtain ⟨p, hp, rfl⟩ := Option.map_eq_some_iff.1 h
    have h1 := List.find?_some hp
    have h2 := fns_ok p (List.mem_of_find?_eq_some hp)
    have : p.1 = f := by simpa using h1
    rw [← this]; exact h2
  pr f p h := by
    obtain ⟨q, hq, rfl⟩ := Option.map_eq_some_iff.1 h
    have h1 := List.find?_some hq
    have h2 := prims_ok q (List.mem_of_find?_eq_some hq)
    have : q.1 = f := by simpa using h1
    rw [← this]; exact h2
  yn := ⟨by kernel_rfl, by kernel_rfl⟩
  rd := rds_ok
theorem callN_T (f : Nat) (args : List AV) (bs : Nat) (σ : Heap) (h : headYld args = false) : callN (callT T) f args bs σ = callT T f args bs σ := by
  unfold callN
  split
  · rename_i e; subst e
    rw [callT_yld T bs σ T_ok.yn.1 T_ok.yn.2]
    unfold roundA
    split
    · cases h
    · rfl
  · rfl
attribute [simp] callN_T
end Go.Proofs.Ytpgakkhfjjhpdaa
end
section
namespace Go.Mach
inductive GV where
  | mk (kind num : Int) (text : ByteArray) (items : List GV)
  deriving Inhabited
namespace GV
abbrev kind : GV → Int | .mk k _ _ _ => k
abbrev num : GV → Int | .mk _ n _ _ => n
abbrev text : GV → ByteArray | .mk _ _ t _ => t
abbrev items : GV → List GV | .mk _ _ _ l => l
mutual
def enc : GV → AV
  | .mk k n t l => .agg [.int .i64 k, .int .i64 n, .str t, .isl (encs l) false]
def encs : List GV → List AV
  | [] => []
  | v :: l => enc v :: encs l
end
theorem encs_map : ∀ l : List GV, encs l = l.map enc
  | [] => rfl
  | v :: l => by simp only [encs, List.map_cons, encs_map l]
@[simp] theorem encs_length (l : List GV) : (encs l).length = l.length := by simp [encs_map]
@[simp] theorem encs_get (l : List GV) (i : Nat) : (encs l)[i]? = l[i]?.map enc := by simp [encs_map]
@[simp] theorem encs_getE (l : List GV) (i : Nat) (h : i < (encs l).length) : (encs l)[i] = (l[i]'(by simpa using h)).enc := by simp [encs_map]
theorem enc_eq (v : GV) : v.enc = .agg [.int .i64 v.kind, .int .i64 v.num, .str v.text, .isl (encs v.items) false] := by cases v; simp only [enc, kind, num, text, items]
@[simp] theorem enc_fold (v : GV) : AV.agg [.int .i64 v.kind, .int .i64 v.num, .str v.text, .isl (encs v.items) false] = v.enc := (enc_eq v).symm
@[simp] theorem enc_cells (v : GV) : v.enc.cells = [.int .i64 v.kind, .int .i64 v.num, .str v.text, .isl (encs v.items) false] := by rw [enc_eq]; rfl
@[simp] theorem enc_solid (v : GV) : v.enc.solid = true := by rw [enc_eq]; rfl
@[simp] theorem enc_head (v : GV) (xs : List AV) : headYld (v.enc :: xs) = false := by rw [enc_eq]; rfl
@[simp] theorem enc_clean (v : GV) : v.enc.clean = true := by rw [enc_eq]; rfl
@[simp] theorem enc_closeA (σ : Heap) (v : GV) : closeA σ v.enc = some (v.enc, σ) := (clean_close (by simp)).1
@[simp] theorem enc_closeR (σ : Heap) (v : GV) : closeR σ v.enc = some (v.enc, σ) := by rw [enc_eq]; rfl
@[simp] theorem enc_datR (v : GV) : v.enc.datR = true := by rw [enc_eq]; rfl
@[simp] theorem enc_dat1 (v : GV) : v.enc.clo1 = false := by rw [enc_eq]; rfl
@[simp] theorem enc_dat (v : GV) : v.enc.dat = true := by rw [enc_eq]; rfl
@[simp] theorem enc_clo (v : GV) : v.enc.clo = true := by rw [enc_eq]; rfl
def i64ok (n : Int) : Prop := -9223372036854775808 ≤ n ∧ n ≤ 9223372036854775807
mutual
def ok : GV → Prop
  | .mk k n _ l => i64ok k ∧ i64ok n ∧ oks l
def oks : List GV → Prop
  | [] => True
  | v :: l => ok v ∧ oks l
end
mutual
def size : GV → Nat
  | .mk _ _ t l => t.size + sizes l + 5
def sizes : List GV → Nat
  | [] => 0
  | v :: l => size v + sizes l
end
mutual
theorem bulk_enc : ∀ v : GV, bulkA v.enc = v.size
  | .mk k n t l => by
    have h := bulk_encs l
    simp only [enc, bulkA, bulkAs, size, h]; omega
theorem bulk_encs : ∀ l : List GV, bulkAs (encs l) = sizes l
  | [] => by simp [encs, bulkAs, sizes]
  | v :: l => by
    have h1 := bulk_enc v
    have h2 := bulk_encs l
    simp only [encs, bulkAs, sizes, h1, h2]
end
end GV
structure IsV (P : Program) (tV tL tI tS : TypeId) : Prop where
  fs : ∃ fs : Array Field, P.underlying tV = some (.struct fs) ∧ fs.toList.map (·.type) = [tI, tI, tS, tL]
  int : P.underlying tI = some (.int .i64)
  str : P.underlying tS = some .string
  list : P.underlying tL = some (.slice tV)
theorem field_ty {P : Program} {fs : Array Field} {ts : List TypeId} (h : fs.toList.map (·.type) = ts) {vs : List AV} (hv : ∀ (i : Nat) f x, fs.toList[i]? = some f → vs[i]? = some x → TyA P f.type x) {i : Nat} {t : TypeId} {x : AV} (ht : ts[i]? = some t) (hx : vs[i]? = some x) : TyA P t x := by
  rw [← h, List.getElem?_map] at ht
  obtain ⟨f, hf, rfl⟩ := Option.map_eq_some_iff.1 ht
  exact hv i f x hf hx
end Go.Mach
end
section
namespace Go.Mach
@[simp] theorem hp_get0 (σ l : List AObj) : (σ ++ l)[σ.length]? = l[0]? := by rw [List.getElem?_append_right (Nat.le_refl _)]; simp
@[simp] theorem hp_get (σ l : List AObj) (k : Nat) : (σ ++ l)[σ.length + k]? = l[k]? := by rw [List.getElem?_append_right (by omega)]; simp
@[simp] theorem hp_set0 (σ l : List AObj) (x : AObj) : (σ ++ l).set σ.length x = σ ++ l.set 0 x := by rw [List.set_append_right _ _ (Nat.le_refl _)]; simp
@[simp] theorem hp_set (σ l : List AObj) (k : Nat) (x : AObj) : (σ ++ l).set (σ.length + k) x = σ ++ l.set k x := by rw [List.set_append_right _ _ (by omega)]; simp
end Go.Mach
namespace Go.Proofs.Ytpgakkhfjjhpdaa
open Go.Mach
def cmpI (a b : Int) : Int := if a < b then -1 else if b < a then 1 else 0
mutual
def cmpV : GV → GV → Int
  | .mk k n t l, b => if cmpI k b.kind ≠ 0 then cmpI k b.kind else if k = 1 then cmpI n b.num else if k = 2 ∨ k = 3 then Lib.compareBytes t.data.toList b.text.data.toList else if k = 4 then cmpVs l b.items else 0
def cmpVs : List GV → List GV → Int
  | [], [] => 0
  | [], _ :: _ => -1
  | _ :: _, [] => 1
  | x :: xs, y :: ys => if cmpV x y ≠ 0 then cmpV x y else cmpVs xs ys
end
theorem sizes_mem {l : List GV} {x : GV} (h : x ∈ l) : x.size + 5 ≤ GV.sizes l + 5 ∧ l.length ≤ GV.sizes l := by
  induction l with
  | nil => cases h
  | cons y l ih =>
    have hy : 5 ≤ y.size := by cases y; simp [GV.size]
    rcases List.mem_cons.1 h with rfl | h
    · refine ⟨by simp [GV.sizes], ?_⟩
      have : ∀ l : List GV, l.length ≤ GV.sizes l := fun l => by
        induction l with
        | nil => simp [GV.sizes]
        | cons z l ih => have : 5 ≤ z.size := (by cases z; simp [GV.size]); simp [GV.sizes]; omega
      have := this l
      simp [GV.sizes]; omega
    · obtain ⟨h1, h2⟩ := ih h
      simp [GV.sizes]; omega
theorem len_sizes (l : List GV) : l.length ≤ GV.sizes l := by
  cases l with
  | nil => simp
  | cons x l => exact (sizes_mem (List.mem_cons_self (a := x) (l := l))).2
end Go.Proofs.Ytpgakkhfjjhpdaa
end
section
namespace Go.Proofs.Ytpgakkhfjjhpdaa
open Go.Mach
def idxG {α : Type} (p : α → Bool) (l : List α) : Int := match l.findIdx? p with
  | some i => (i : Int)
  | none => -1
theorem idxG_drop {α : Type} (p : α → Bool) (l : List α) (i : Nat) (hi : i < l.length) (h : ∀ j, (hj : j < l.length) → j < i → p l[j] = false) (hp : p l[i] = true) : l.findIdx? p = some i := by
  rw [List.findIdx?_eq_some_iff_getElem]
  exact ⟨hi, hp, fun j hj => by rw [h j (by omega) hj]; simp⟩
theorem idxG_any {α : Type} (p : α → Bool) (l : List α) : (0 ≤ idxG p l) ↔ l.any p = true := by
  unfold idxG
  cases h : l.findIdx? p with
  | none => rw [List.findIdx?_eq_none_iff] at h; simp only [List.any_eq_true]; exact ⟨fun h => by omega, fun ⟨x, hx, hp⟩ => by rw [h x hx] at hp; cases hp⟩
  | some i =>
    rw [List.findIdx?_eq_some_iff_getElem] at h
    obtain ⟨hi, hp, _⟩ := h
    exact ⟨fun _ => List.any_eq_true.2 ⟨_, List.getElem_mem hi, hp⟩, fun _ => by simp⟩
theorem not_any {α : Type} (p : α → Bool) (l : List α) : (!l.any (fun x => !p x)) = l.all p := by
  induction l with
  | nil => rfl
  | cons x l ih => simp only [List.any_cons, List.all_cons, Bool.not_or, Bool.not_not, ih]
theorem refLt2_bool (n : Nat) (b : Bool) : refLt2 n (.bool b) = true := rfl
theorem refLt2_int (n : Nat) (k : IntKind) (m : Int) : refLt2 n (.int k m) = true := rfl
theorem take_1 (σ : Heap) (a b : AObj) : (σ ++ [a, b]).take (σ.length + 1) = σ ++ [a] := by
  rw [List.take_append, List.take_of_length_le (by omega)]; simp
theorem idxValue (p : GV → Bool) (l : List GV) (g : Nat) (caps : List AV) (hl : l.length ≤ 100000000000) (σ : Heap) (hc : ∀ x ∈ l, ∀ bs, callT T g (x.enc :: caps) bs σ = some (.bool (p x), σ)) (bs : Nat) :
    callT T 71 [.isl (GV.encs l) false, .func g caps] bs σ = some (.int .i64 (idxG p l), σ) := by
  refine heap_enter (af := c71) (args' := [.isl (GV.encs l) false, .func g caps]) (σ1 := σ) rfl rfl (by simp [c71]) (by simp [c71]) rfl ?_
  simp [c71, baseA]
  refine W_for T _ 19 l.length (fun i f τ => f 0 = .isl (GV.encs l) false ∧ f 1 = .func g caps ∧ f 7 = .int .i64 (l.length : Int) ∧ f 8 = .int .i64 (i : Int) ∧ τ = σ ∧ ∀ j, (hj : j < l.length) → j < i → p l[j] = false) ?_ _ _ ?_
  · rintro i f τ hi ⟨h0, h1, h7, h8, rfl, hall⟩
    by_cases hlt : i < l.length
    · have e1 : l[i]? = some l[i] := List.getElem?_eq_getElem hlt
      have hcl := hc l[i] (List.getElem_mem hlt)
      cases hp : p l[i]
      · rw [hp] at hcl
        simp [h0, h1, h7, h8, hlt, hcl, hp, ← GV.enc_eq]
        refine ⟨wr64 (by omega) (by omega), fun j hj hji => ?_⟩
        by_cases e : j = i
        · subst e; exact hp
        · exact hall j hj (by omega)
      · rw [hp] at hcl
        simp [h0, h1, h7, h8, hlt, hcl, hp, ← GV.enc_eq, dropA_gc, refLt, res1, refLt2_bool, refLt2_int, take_1]
        simp [idxG, idxG_drop p l i hlt hall hp]
    · have he : i = l.length := by omega
      subst he
      have hn : l.findIdx? p = none := by
        rw [List.findIdx?_eq_none_iff]
        intro x hx
        obtain ⟨j, hj, rfl⟩ := List.getElem_of_mem hx
        exact hall j hj hj
      simp [h0, h1, h7, h8, idxG, hn, dropA_gc, refLt, res1, refLt2_bool, refLt2_int, take_1]
  · simp
theorem conValue (p : GV → Bool) (l : List GV) (g : Nat) (caps : List AV) (hl : l.length ≤ 100000000000) (σ : Heap) (hc : ∀ x ∈ l, ∀ bs, callT T g (x.enc :: caps) bs σ = some (.bool (p x), σ)) (bs : Nat) :
    callT T 58 [.isl (GV.encs l) false, .func g caps] bs σ = some (.bool (sym (l.any p)), σ) := by
  have h1 := idxValue p l g caps hl σ hc
  have h2 := idxG_any p l
  refine heap_enter (af := c58) (args' := [.isl (GV.encs l) false, .func g caps]) (σ1 := σ) rfl rfl (by simp [c58]) (by simp [c58]) rfl ?_
  simp [c58, baseA, h1, dropA_gc, refLt, res1, refLt2_bool, refLt2_int, take_1]
  refine ⟨fun h => by simpa [sym] using h2.1 h, fun h => ?_⟩
  have : ¬ l.any p = true := fun hh => by have := h2.2 hh; omega
  simpa [sym] using this
theorem allValue1 (b : Bool) (x : GV) (g : Nat) (caps : List AV) (σ : Heap) (hc : ∀ τ bs, callT T g (x.enc :: caps) bs (σ ++ τ) = some (.bool b, σ ++ τ)) (bs : Nat) :
    callT T 59 [x.enc, .ptr σ.length 0] bs (σ ++ [.cells [.func g caps] 0 false]) = some (.bool (!b), σ ++ [.cells [.func g caps] 0 false]) := by
  have hc1 := fun o bs => hc [.cells [.func g caps] 0 false, o] bs
  refine heap_enter (af := c59) (args' := [x.enc, .ptr σ.length 0]) (σ1 := σ ++ [.cells [.func g caps] 0 false]) rfl rfl (by simp [c59]) (by simp [c59]) rfl ?_
  simp [c59, baseA, hc1, ← GV.enc_eq, setRun, dropA_gc, refLt, res1, refLt2_bool, refLt2_int, take_1]
theorem allValue (p : GV → Bool) (l : List GV) (g : Nat) (caps : List AV) (hl : l.length ≤ 100000000000) (σ : Heap) (hc : ∀ x ∈ l, ∀ τ bs, callT T g (x.enc :: caps) bs (σ ++ τ) = some (.bool (p x), σ ++ τ)) (bs : Nat) :
    callT T 43 [.isl (GV.encs l) false, .func g caps] bs σ = some (.bool (sym (l.all p)), σ) := by
  have h1 := fun x hx => allValue1 (p x) x g caps σ (hc x hx)
  have h2 := conValue (fun x => !p x) l 59 [.ptr σ.length 0] hl (σ ++ [.cells [.func g caps] 0 false]) h1
  refine heap_enter (af := c43) (args' := [.isl (GV.encs l) false, .func g caps]) (σ1 := σ) rfl rfl (by simp [c43]) (by simp [c43]) rfl ?_
  rw [← not_any]
  simp [c43, baseA, h2, dropA_gc, refLt, res1, refLt2_bool, refLt2_int, take_1, setRun, sym]
end Go.Proofs.Ytpgakkhfjjhpdaa
end
section
namespace Go.Proofs.Ytpgakkhfjjhpdaa
open Go.Mach
def plainB (c : Nat) : Bool := decide (32 ≤ c) && decide (c ≤ 126) && !decide (c = 34) && !decide (c = 92)
def textOK (t : ByteArray) : Bool := t.data.toList.all (fun c => plainB c.toNat) && decide (t.size ≤ 32)
def letterB (c : Nat) : Bool := decide (97 ≤ c) && decide (c ≤ 122)
def innerB (c : Nat) : Bool := letterB c || decide (c = 95) || (decide (48 ≤ c) && decide (c ≤ 57))
def nameL : List UInt8 → Bool
  | [] => false
  | c :: l => letterB c.toNat && l.all (fun c => innerB c.toNat)
def nameOK (t : ByteArray) : Bool := nameL t.data.toList && decide (t.size ≤ 16)
def rightB (v : GV) (lst : Bool) : Bool :=
  if v.kind = 1 then decide (v.text = ⟨#[]⟩ ∧ v.items = [] ∧ v.num ≤ 2147483647 ∧ -2147483647 ≤ v.num)
  else if v.kind = 2 then decide (v.num = 0 ∧ v.items = [] ∧ textOK v.text = true)
  else if v.kind = 3 then decide (v.num = 0 ∧ v.items = [] ∧ nameOK v.text = true)
  else if v.kind = 4 then decide (v.num = 0 ∧ v.text = ⟨#[]⟩ ∧ lst = true)
  else false
def rightV : Nat → GV → Bool
  | 0, v => rightB v false
  | d + 1, v => rightB v (decide (v.items.length ≤ 16 ∧ v.items.all (rightV d) = true))
def bt (s : ByteArray) (i : Nat) : Nat := ((s.data.toList[i]?).getD 0).toNat
theorem bt_eq {s : ByteArray} {i : Nat} (h : i < s.size) : bt s i = (s.data.toList[i]'(by simpa using h)).toNat := by
  simp only [bt]; rw [List.getElem?_eq_getElem (by simpa using h)]; rfl
theorem all_bt (s : ByteArray) (p : Nat → Bool) : s.data.toList.all (fun c => p c.toNat) = true ↔ ∀ i, i < s.size → p (bt s i) = true := by
  rw [List.all_eq_true]
  constructor
  · intro h i hi
    rw [bt_eq hi]; exact h _ (List.getElem_mem _)
  · intro h c hc
    obtain ⟨i, hi, rfl⟩ := List.getElem_of_mem hc
    have hi' : i < s.size := by simpa using hi
    have := h i hi'
    rwa [bt_eq hi'] at this
theorem ba_empty (t : ByteArray) : t = ByteArray.empty ↔ t.size = 0 := ⟨fun h => by rw [h]; rfl, fun h => ByteArray.ext (Array.eq_empty_of_size_eq_zero h)⟩
theorem ba_nil (t : ByteArray) : t = ⟨#[]⟩ ↔ t.size = 0 := ⟨fun h => by rw [h]; rfl, fun h => ByteArray.ext (Array.eq_empty_of_size_eq_zero h)⟩
theorem ba_get {s : ByteArray} {i : Nat} (h : i < s.size) : s[i]'h = s.data.toList[i]'(by simpa using h) := by
  cases s; rfl
theorem dec_lo {s : ByteArray} {i : Nat} (h : i < s.size) (ha : bt s i < 128) : Utf8.decode s i = (bt s i, 1) := by
  rw [bt_eq h] at ha ⊢
  have := decode_ascii s i h (by rw [ba_get h]; exact ha)
  rw [this, ba_get h]
theorem dec_hi {s : ByteArray} {i : Nat} (h : i < s.size) (ha : 128 ≤ bt s i) : 128 ≤ (Utf8.decode s i).1 := by
  rw [bt_eq h] at ha
  exact (decode_high s i h (by rw [ba_get h]; exact ha)).1
theorem textOK_iff (t : ByteArray) : textOK t = true ↔ (∀ i, i < t.size → plainB (bt t i) = true) ∧ t.size ≤ 32 := by
  rw [textOK, Bool.and_eq_true, all_bt t plainB, decide_eq_true_eq]
theorem textOK_no {t : ByteArray} {i : Nat} (h : i < t.size) (hp : plainB (bt t i) = false) : textOK t = false := by
  rw [Bool.eq_false_iff, Ne, textOK_iff]; intro hh; rw [hh.1 i h] at hp; cases hp
theorem plain_ok (t : ByteArray) (ht : t.size ≤ 100000000000) : pureT T c73 [.str t] = some (.bool (textOK t)) := by
  apply pure_enter (by simp [c73])
  simp [c73]
  refine W_for T 0 27 t.size (fun i f σ => f 0 = .str t ∧ f 6 = .ptr 0 0 ∧ σ = [.iter t i] ∧ ∀ j, j < i → plainB (bt t j) = true) ?_ _ _ ?_
  · rintro i f σ hi ⟨h0, h6, rfl, hall⟩
    by_cases hlt : i < t.size
    · by_cases hlo : bt t i < 128
      · simp [h0, h6, hlt, dec_lo hlt hlo]
        have hno := @textOK_no t i hlt
        refine ⟨fun h => hno (by simp [plainB]; omega), fun h => ⟨fun h => hno (by simp [plainB]; omega), fun h => ⟨fun h => hno (by simp [plainB]; omega), fun h => ⟨fun h => hno (by simp [plainB]; omega), fun h j hj => ?_⟩⟩⟩⟩
        by_cases e : j = i
        · subst e; simp [plainB]; omega
        · exact hall j (by omega)
      · have := dec_hi hlt (by omega)
        simp [h0, h6, hlt]
        have hno := @textOK_no t i hlt
        refine ⟨fun h => by omega, fun h => ⟨fun h => hno (by simp [plainB]; omega), fun h => by omega⟩⟩
    · have he : i = t.size := by omega
      subst he
      simp [h0, h6]
      refine ⟨fun h => ?_, fun h => ?_⟩
      · exact (textOK_iff t).2 ⟨fun i hi => hall i hi, by omega⟩
      · refine Bool.eq_false_iff.2 fun hh => ?_
        have := ((textOK_iff t).1 hh).2
        omega
  · simp
def nameG (s : ByteArray) (i : Nat) : Bool := if i = 0 then letterB (bt s i) else innerB (bt s i)
theorem nameG_iff (s : ByteArray) (i : Nat) : nameG s i = true ↔ (97 ≤ bt s i ∧ bt s i ≤ 122) ∨ (i ≠ 0 ∧ (bt s i = 95 ∨ (48 ≤ bt s i ∧ bt s i ≤ 57))) := by
  unfold nameG
  split
  · simp [letterB]; omega
  · simp [letterB, innerB]; omega
theorem nameOK_iff (t : ByteArray) : nameOK t = true ↔ (∀ i, i < t.size → nameG t i = true) ∧ t.size ≠ 0 ∧ t.size ≤ 16 := by
  have hs : t.data.toList.length = t.size := by simp
  simp only [nameOK, Bool.and_eq_true, decide_eq_true_eq]
  match hl : t.data.toList with
  | [] =>
    rw [hl] at hs; simp at hs
    simp only [nameL, Bool.false_eq_true, false_and, false_iff]; omega
  | c :: l =>
    rw [hl] at hs; simp at hs
    have hb : ∀ i, bt t i = (((c :: l)[i]?).getD 0).toNat := fun i => by simp only [bt, hl]
    simp only [nameL, Bool.and_eq_true, List.all_eq_true]
    constructor
    · rintro ⟨⟨h1, h2⟩, h3⟩
      refine ⟨fun i hi => ?_, by omega, h3⟩
      unfold nameG
      cases i with
      | zero => simp [hb, h1]
      | succ i =>
        have hi' : i < l.length := by omega
        simp [hb, List.getElem?_eq_getElem hi', h2 l[i] (List.getElem_mem hi')]
    · rintro ⟨h1, h2, h3⟩
      refine ⟨⟨?_, fun x hx => ?_⟩, h3⟩
      · have := h1 0 (by omega)
        simpa [nameG, hb] using this
      · obtain ⟨i, hi, rfl⟩ := List.getElem_of_mem hx
        have := h1 (i + 1) (by omega)
        simpa [nameG, hb, List.getElem?_eq_getElem hi] using this
theorem nameOK_no {t : ByteArray} {i : Nat} (h : i < t.size) (hp : ¬ ((97 ≤ bt t i ∧ bt t i ≤ 122) ∨ (i ≠ 0 ∧ (bt t i = 95 ∨ (48 ≤ bt t i ∧ bt t i ≤ 57))))) : nameOK t = false := by
  rw [← nameG_iff] at hp
  rw [Bool.eq_false_iff, Ne, nameOK_iff]; intro hh; exact hp (hh.1 i h)
theorem name_ok (t : ByteArray) (ht : t.size ≤ 100000000000) : pureT T c52 [.str t] = some (.bool (nameOK t)) := by
  apply pure_enter (by simp [c52])
  simp [c52]
  refine W_for T 0 43 t.size (fun i f σ => f 0 = .str t ∧ f 7 = .ptr 0 0 ∧ σ = [.iter t i] ∧ ∀ j, j < i → nameG t j = true) ?_ _ _ ?_
  · rintro i f σ hi ⟨h0, h6, rfl, hall⟩
    by_cases hlt : i < t.size
    · have hno := @nameOK_no t i hlt
      have hyes : _ → ∀ j, j < i + 1 → nameG t j = true := fun h j hj => by
        by_cases e : j = i
        · subst e; exact (nameG_iff t j).2 h
        · exact hall j (by omega)
      by_cases hlo : bt t i < 128
      · simp [h0, h6, hlt, dec_lo hlt hlo]
        repeat' (first | apply And.intro | intro _)
        all_goals first | exact hno (by omega) | exact hyes (by omega) _ (by assumption)
      · have := dec_hi hlt (by omega)
        simp [h0, h6, hlt]
        repeat' (first | apply And.intro | intro _)
        all_goals first | exact hno (by omega) | omega
    · have he : i = t.size := by omega
      subst he
      have hb : (nameOK t = true) ↔ t.size ≠ 0 ∧ t.size ≤ 16 := by rw [nameOK_iff]; exact ⟨fun h => h.2, fun h => ⟨fun i hi => hall i hi, h⟩⟩
      simp [h0, h6, ba_empty, ba_nil, -ByteArray.size_eq_zero_iff]
      refine ⟨fun h => ⟨fun h2 => hb.2 ⟨h, by omega⟩, fun h2 => ?_⟩, fun h => ?_⟩
      all_goals (refine Bool.eq_false_iff.2 fun hh => ?_; have := hb.1 hh; omega)
  · simp
theorem empty_ok (k n : Int) (t : ByteArray) (es : List AV) : pureT T c72 [.agg [.int .i64 k, .int .i64 n, .str t, .isl es false]] = some (.bool (decide (k = 0) && decide (n = 0) && decide (t = ⟨#[]⟩) && decide (es = []))) := by
  apply pure_enter (by simp [c72])
  simp [c72]
  repeat' (first | apply And.intro | intro _)
  all_goals simp_all
theorem call_empty (k n : Int) (t : ByteArray) (es : List AV) (c : Bool) (bs : Nat) (σ : Heap) : callT T 72 [.agg [.int .i64 k, .int .i64 n, .str t, .isl es c]] bs σ = some (.bool (sym (decide (k = 0) && decide (n = 0) && decide (t = ⟨#[]⟩) && decide (es = []))), σ) :=
  call_scal rfl rfl rfl (empty_ok k n t es) rfl rfl rfl
theorem plain_call (t : ByteArray) (ht : t.size ≤ 100000000000) (bs : Nat) (σ : Heap) : callT T 73 [.str t] bs σ = some (.bool (sym (textOK t)), σ) := call_clean rfl rfl rfl rfl (plain_ok t ht)
theorem name_call (t : ByteArray) (ht : t.size ≤ 100000000000) (bs : Nat) (σ : Heap) : callT T 52 [.str t] bs σ = some (.bool (sym (nameOK t)), σ) := call_clean rfl rfl rfl rfl (name_ok t ht)
theorem encs_nil (l : List GV) : GV.encs l = [] ↔ l = [] := by cases l <;> simp [GV.encs]
theorem right_base (d : Nat) (lst : Bool) (k n : Int) (t : ByteArray) (l : List GV) (ht : t.size ≤ 100000000000) (hk : k ≠ 4) :
    pureT T c60 [(GV.mk k n t l).enc, .int .i64 d] = some (.bool (rightB (GV.mk k n t l) lst)) := by
  have hp := plain_call t ht
  have hn := name_call t ht
  apply pure_enter (by simp [c60])
  by_cases h1 : k = 1
  · subst h1; simp [c60, GV.enc_eq, GV.kind, GV.num, GV.text, GV.items, call_empty, rightB, setRun, encs_nil]
    repeat' (first | apply And.intro | intro _)
    all_goals grind
  by_cases h2 : k = 2
  · subst h2; simp [c60, GV.enc_eq, GV.kind, GV.num, GV.text, GV.items, call_empty, rightB, setRun, hp, encs_nil]
    repeat' (first | apply And.intro | intro _)
    all_goals grind
  by_cases h3 : k = 3
  · subst h3; simp [c60, GV.enc_eq, GV.kind, GV.num, GV.text, GV.items, call_empty, rightB, setRun, hn, encs_nil]
    repeat' (first | apply And.intro | intro _)
    all_goals grind
  simp [c60, GV.enc_eq, GV.kind, GV.num, GV.text, GV.items, call_empty, rightB, setRun, h1, h2, h3, hk]
theorem right_ok : ∀ (d : Nat) (v : GV), d ≤ 100 → v.size ≤ 100000000000 → pureT T c60 [v.enc, .int .i64 d] = some (.bool (rightV d v)) := by
  intro d
  induction d with
  | zero =>
    intro v hd hs
    obtain ⟨k, n, t, l⟩ := v
    simp only [GV.size] at hs
    by_cases h4 : k = 4
    · subst h4
      apply pure_enter (by simp [c60])
      simp [c60, GV.enc_eq, GV.kind, GV.num, GV.text, GV.items, call_empty, rightV, rightB, setRun]
    exact right_base 0 _ k n t l (by omega) h4
  | succ d ih =>
    intro v hd hs
    obtain ⟨k, n, t, l⟩ := v
    simp only [GV.size] at hs
    by_cases h4 : k = 4
    · subst h4
      have hw : IntKind.i64.wrap (d : Int) = (d : Int) := wr64 (by omega) (by omega)
      have hlen := len_sizes l
      have hcont : ∀ bs A C, callT T 58 [.isl (GV.encs l) false, .func 74 [.ptr 1 0]] bs [A, .cells [.int .i64 ((d : Int) + 1)] 0 false, C] = some (.bool (sym (l.any fun x => !rightV d x)), [A, .cells [.int .i64 ((d : Int) + 1)] 0 false, C]) := fun bs A C =>
        conValue (fun x => !rightV d x) l 74 [.ptr 1 0] (by omega) _ (fun x hx bs => by
          have hr : ∀ bs σ, callT T 60 [x.enc, .int .i64 d] bs σ = some (.bool (rightV d x), σ) := fun bs σ => call_clean rfl rfl rfl (by simp) (ih x (by omega) (by have := (sizes_mem hx).1; omega))
          refine heap_enter (af := c74) (args' := [x.enc, .ptr 1 0]) rfl rfl (by simp [c74]) (by simp [c74]) rfl ?_
          simp [c74, baseA, hr, hw, ← GV.enc_eq, setRun, dropA_gc, refLt, res1, refLt2_bool]) bs
      apply pure_enter (by simp [c60])
      simp [c60, GV.enc_eq, GV.kind, GV.num, GV.text, GV.items, call_empty, rightV, rightB, setRun, hcont, encs_nil]
      repeat' (first | apply And.intro | intro _)
      all_goals grind
    exact right_base _ _ k n t l (by omega) h4
end Go.Proofs.Ytpgakkhfjjhpdaa
end
section
namespace Go.Proofs.Ytpgakkhfjjhpdaa
open Go.Mach
abbrev rightT (v : GV) : Bool := rightV 4 v
theorem valRight_ok (v : GV) (hs : v.size ≤ 100000000000) : pureT T c44 [v.enc] = some (.bool (rightT v)) := by
  have hr : ∀ bs σ, callT T 60 [v.enc, .int .i64 4] bs σ = some (.bool (sym (rightT v)), σ) := fun bs σ => call_clean rfl rfl rfl (by simp) (right_ok 4 v (by omega) hs)
  apply pure_enter (by simp [c44])
  simp [c44, hr]
theorem valRight (v : GV) (hs : v.size ≤ 100000000000) (bs : Nat) (σ : Heap) : callT T 44 [v.enc] bs σ = some (.bool (sym (rightT v)), σ) := call_clean rfl rfl rfl (by simp) (valRight_ok v hs)
end Go.Proofs.Ytpgakkhfjjhpdaa
end
section
namespace Go.Mach
def bv (l : List UInt8) : List AV := l.map fun b => .int .u8 (b.toNat : Int)
@[simp] theorem bv_length (l : List UInt8) : (bv l).length = l.length := by simp [bv]
theorem bv_all (l : List UInt8) : window (bv l) 0 l.length = some (bv l) := by
  unfold window
  rw [if_pos (by simp)]
  rw [List.drop_zero, List.take_of_length_le (by simp)]
theorem chunk_one : ∀ l : List AV, chunk 1 false l.length l = some l
  | [] => rfl
  | x :: l => by simp [chunk_one l]
theorem bytesA_bv (l : List UInt8) : bytesA (bv l) = some ⟨l.toArray⟩ := by
  have : (bv l).mapM ofU8 = some l := by
    induction l with
    | nil => rfl
    | cons b l ih =>
      show (AV.int .u8 (b.toNat : Int) :: bv l).mapM ofU8 = some (b :: l)
      rw [List.mapM_cons, ih]
      simp [ofU8]
  unfold bytesA; rw [this]; rfl
theorem elems_bv {σ : Heap} {id : Nat} {l : List UInt8} {fz : Nat} {ext : Bool} {n : Nat} (h : σ[id]? = some (.cells (bv l) fz ext)) (hn : n = l.length) : elemsA σ 1 false (.sl id 0 n 1 false) = some (bv l) := by
  subst hn
  simp only [elemsA, h, Nat.mul_one, bv_all, Option.bind_some]
  have := chunk_one (bv l)
  rwa [bv_length] at this
theorem b2s_bv {σ : Heap} {id : Nat} {l : List UInt8} {fz : Nat} {ext : Bool} {n : Nat} (h : σ[id]? = some (.cells (bv l) fz ext)) (hn : n = l.length) : b2sV σ (.sl id 0 n 1 false) = some (.str ⟨l.toArray⟩) := by
  simp [b2sV, isSl, elems_bv h hn, bytesA_bv]
def mp {α : Type} (g : α → α) (l : List α) (i : Nat) : List α := (l.take i).map g ++ l.drop i
section
variable {α : Type} {g : α → α} {l : List α} {i : Nat}
@[simp] theorem mp_len : (mp g l i).length = l.length := by simp [mp]; omega
end
end Go.Mach
namespace Go.Proofs.Ytpgakkhfjjhpdaa
open Go.Mach
def pickN (c : Int) (n : Nat) : Nat := ((if c < 0 then -(c + 1) else c).toNat) % n
theorem pickN_lt {c : Int} {n : Nat} (h : 0 < n) : pickN c n < n := Nat.mod_lt _ h
theorem pick_eq (c : Int) (n : Nat) (h : 0 < n) (h1 : -9223372036854775808 ≤ c) (h2 : c ≤ 9223372036854775807) :
    ((if c < 0 then IntKind.i64.wrap (0 - IntKind.i64.wrap (c + 1)) else c).tmod n) = (pickN c n : Int) := by
  by_cases hc : c < 0
  · rw [if_pos hc, wr64 (n := c + 1) (by omega) (by omega), wr64 (by omega) (by omega)]
    simp only [pickN, if_pos hc]
    have : (0 - (c + 1) : Int) = (((-(c + 1)).toNat : Nat) : Int) := by omega
    rw [this]; rfl
  · rw [if_neg hc]
    simp only [pickN, if_neg hc]
    have : c = ((c.toNat : Nat) : Int) := by omega
    rw [this, Int.toNat_natCast]; rfl
theorem tm (n m : Nat) : ((n : Int)).tmod (m : Int) = ((n % m : Nat) : Int) := rfl
end Go.Proofs.Ytpgakkhfjjhpdaa
end
section
namespace Go.Proofs.Ytpgakkhfjjhpdaa
open Go.Mach
theorem enc_mk (k n : Int) (t : ByteArray) (l : List GV) : AV.agg [.int .i64 k, .int .i64 n, .str t, .isl (GV.encs l) false] = (GV.mk k n t l).enc := by simp only [GV.enc]
@[simp] theorem gv_eta (v : GV) : GV.mk v.kind v.num v.text v.items = v := by cases v; rfl
@[simp] theorem encs_nil' : GV.encs [] = [] := rfl
@[simp] theorem encs_one (v : GV) : GV.encs [v] = [v.enc] := rfl
@[simp] theorem encs_snoc (l : List GV) (v : GV) : GV.encs l ++ [v.enc] = GV.encs (l ++ [v]) := by simp [GV.encs_map]
@[simp] theorem encs_okEl (l : List GV) : (GV.encs l).all (okEl 4 true) = true := by
  rw [List.all_eq_true]
  intro x hx
  rw [GV.encs_map] at hx
  obtain ⟨v, _, rfl⟩ := List.mem_map.1 hx
  rw [GV.enc_eq]; rfl
mutual
def sameV : GV → GV → Bool
  | .mk k n t l, b => decide (k = b.kind) && decide (n = b.num) && decide (t = b.text) && sameVs l b.items
def sameVs : List GV → List GV → Bool
  | [], [] => true
  | x :: xs, y :: ys => sameV x y && sameVs xs ys
  | _, _ => false
end
mutual
theorem sameV_iff : ∀ a b : GV, sameV a b = true ↔ a = b
  | .mk k n t l, .mk k2 n2 t2 l2 => by
    have := sameVs_iff l l2
    simp [sameV, this, and_assoc]
theorem sameVs_iff : ∀ a b : List GV, sameVs a b = true ↔ a = b
  | [], [] => by simp [sameVs]
  | [], _ :: _ => by simp [sameVs]
  | _ :: _, [] => by simp [sameVs]
  | x :: xs, y :: ys => by
    have h1 := sameV_iff x y
    have h2 := sameVs_iff xs ys
    simp [sameVs, h1, h2]
end
instance : DecidableEq GV := fun a b => decidable_of_iff _ (sameV_iff a b)
end Go.Proofs.Ytpgakkhfjjhpdaa
end
section
namespace Go.Proofs.Ytpgakkhfjjhpdaa
open Go.Mach
end Go.Proofs.Ytpgakkhfjjhpdaa
end
section
namespace Go.Proofs.Ytpgakkhfjjhpdaa
open Go.Mach
theorem cmpI_self (a : Int) : cmpI a a = 0 := by simp [cmpI]
theorem cmpB_self : ∀ l : List UInt8, Lib.compareBytes l l = 0
  | [] => rfl
  | x :: l => by simp only [Lib.compareBytes, UInt8.lt_irrefl, if_false]; exact cmpB_self l
mutual
theorem cmpV_self : ∀ v : GV, cmpV v v = 0
  | .mk k n t l => by
    have := cmpVs_self l
    simp only [cmpV, cmpI_self, cmpB_self, this]
    simp
theorem cmpVs_self : ∀ l : List GV, cmpVs l l = 0
  | [] => rfl
  | x :: l => by
    have h1 := cmpV_self x
    have h2 := cmpVs_self l
    simp [cmpVs, h1, h2]
end
theorem cmpI_neg (a b : Int) : cmpI b a = -cmpI a b := by unfold cmpI; grind
theorem cmpI_range (a b : Int) : -1 ≤ cmpI a b ∧ cmpI a b ≤ 1 := by unfold cmpI; grind
theorem cmpI_tr (a b c : Int) : (cmpI a b ≤ 0 → cmpI b c ≤ 0 → cmpI a c ≤ 0) ∧ (cmpI a b < 0 → cmpI b c ≤ 0 → cmpI a c < 0) ∧ (cmpI a b ≤ 0 → cmpI b c < 0 → cmpI a c < 0) := by unfold cmpI; grind
theorem cmpB_range : ∀ a b : List UInt8, -1 ≤ Lib.compareBytes a b ∧ Lib.compareBytes a b ≤ 1
  | [], [] => by simp [Lib.compareBytes]
  | [], _ :: _ => by simp [Lib.compareBytes]
  | _ :: _, [] => by simp [Lib.compareBytes]
  | a :: l, b :: m => by
    have ih := cmpB_range l m
    simp only [Lib.compareBytes]
    split
    · omega
    · split <;> omega
theorem cmpB_neg : ∀ a b : List UInt8, Lib.compareBytes b a = -Lib.compareBytes a b
  | [], [] => by simp [Lib.compareBytes]
  | [], _ :: _ => by simp [Lib.compareBytes]
  | _ :: _, [] => by simp [Lib.compareBytes]
  | a :: l, b :: m => by
    have ih := cmpB_neg l m
    simp only [Lib.compareBytes]
    by_cases h1 : a < b
    · have h2 : ¬ b < a := UInt8.lt_asymm h1
      simp [h1, h2]
    · by_cases h2 : b < a
      · simp [h1, h2]
      · simp [h1, h2, ih]
theorem cmpB_tr : ∀ a b c : List UInt8, (Lib.compareBytes a b ≤ 0 → Lib.compareBytes b c ≤ 0 → Lib.compareBytes a c ≤ 0) ∧ (Lib.compareBytes a b < 0 → Lib.compareBytes b c ≤ 0 → Lib.compareBytes a c < 0) ∧ (Lib.compareBytes a b ≤ 0 → Lib.compareBytes b c < 0 → Lib.compareBytes a c < 0)
  | [], [], [] => by simp [Lib.compareBytes]
  | [], [], _ :: _ => by simp [Lib.compareBytes]
  | [], _ :: _, [] => by simp [Lib.compareBytes]
  | [], _ :: _, _ :: _ => by simp [Lib.compareBytes]
  | _ :: _, [], [] => by simp [Lib.compareBytes]
  | _ :: _, [], _ :: _ => by simp [Lib.compareBytes]
  | _ :: _, _ :: _, [] => by simp [Lib.compareBytes]
  | a :: l, b :: m, c :: k => by
    have ih := cmpB_tr l m k
    have e1 := @UInt8.lt_iff_toNat_lt a b
    have e2 := @UInt8.lt_iff_toNat_lt b a
    have e3 := @UInt8.lt_iff_toNat_lt b c
    have e4 := @UInt8.lt_iff_toNat_lt c b
    have e5 := @UInt8.lt_iff_toNat_lt a c
    have e6 := @UInt8.lt_iff_toNat_lt c a
    simp only [Lib.compareBytes, e1, e2, e3, e4, e5, e6]
    generalize Lib.compareBytes l m = x at *
    generalize Lib.compareBytes m k = y at *
    generalize Lib.compareBytes l k = z at *
    grind
mutual
theorem cmpV_range : ∀ a b : GV, -1 ≤ cmpV a b ∧ cmpV a b ≤ 1
  | .mk k n t l, b => by
    have h1 := cmpI_range k b.kind
    have h2 := cmpI_range n b.num
    have h3 := cmpB_range t.data.toList b.text.data.toList
    have h4 := cmpVs_range l b.items
    simp only [cmpV]
    split
    · exact h1
    · split
      · exact h2
      · split
        · exact h3
        · split
          · exact h4
          · omega
theorem cmpVs_range : ∀ a b : List GV, -1 ≤ cmpVs a b ∧ cmpVs a b ≤ 1
  | [], [] => by simp [cmpVs]
  | [], _ :: _ => by simp [cmpVs]
  | _ :: _, [] => by simp [cmpVs]
  | x :: a, y :: b => by
    have h1 := cmpV_range x y
    have h2 := cmpVs_range a b
    simp only [cmpVs]
    split
    · exact h1
    · exact h2
end
mutual
theorem cmpV_neg : ∀ a b : GV, cmpV b a = -cmpV a b
  | .mk k n t l, .mk k2 n2 t2 l2 => by
    have h1 := cmpI_neg k k2
    have h2 := cmpI_neg n n2
    have h3 := cmpB_neg t.data.toList t2.data.toList
    have h4 := cmpVs_neg l l2
    simp only [cmpV, GV.kind, GV.num, GV.text, GV.items]
    by_cases hk : k = k2
    · subst hk
      simp only [cmpI_self]
      split
      · omega
      · split
        · exact h2
        · split
          · exact h3
          · split
            · exact h4
            · rfl
    · have hz : cmpI k k2 ≠ 0 := by unfold cmpI; grind
      have hz2 : cmpI k2 k ≠ 0 := by unfold cmpI; grind
      simp only [hz, hz2, ne_eq, not_false_eq_true, if_true]; exact h1
theorem cmpVs_neg : ∀ a b : List GV, cmpVs b a = -cmpVs a b
  | [], [] => by simp [cmpVs]
  | [], _ :: _ => by simp [cmpVs]
  | _ :: _, [] => by simp [cmpVs]
  | x :: a, y :: b => by
    have h1 := cmpV_neg x y
    have h2 := cmpVs_neg a b
    simp only [cmpVs]
    by_cases h : cmpV x y = 0
    · have : cmpV y x = 0 := by omega
      simp [h, this, h2]
    · have : cmpV y x ≠ 0 := by omega
      simp [h, this, h1]
end
mutual
theorem cmpV_tr : ∀ a b c : GV, (cmpV a b ≤ 0 → cmpV b c ≤ 0 → cmpV a c ≤ 0) ∧ (cmpV a b < 0 → cmpV b c ≤ 0 → cmpV a c < 0) ∧ (cmpV a b ≤ 0 → cmpV b c < 0 → cmpV a c < 0)
  | .mk k n t l, .mk k2 n2 t2 l2, .mk k3 n3 t3 l3 => by
    have h1 := cmpI_tr k k2 k3
    have h2 := cmpI_tr n n2 n3
    have h3 := cmpB_tr t.data.toList t2.data.toList t3.data.toList
    have h4 := cmpVs_tr l l2 l3
    simp only [cmpV, GV.kind, GV.num, GV.text, GV.items]
    by_cases hk : k = k2
    · subst hk
      by_cases hk2 : k = k3
      · subst hk2
        simp only [cmpI_self, ne_eq, not_true_eq_false, if_false]
        split
        · exact h2
        · split
          · exact h3
          · split
            · exact h4
            · simp
      · have hz : cmpI k k3 ≠ 0 := by unfold cmpI; grind
        simp only [cmpI_self, ne_eq, not_true_eq_false, if_false, hz, not_false_eq_true, if_true]
        grind
    · have hz : cmpI k k2 ≠ 0 := by unfold cmpI; grind
      by_cases hk2 : k2 = k3
      · subst hk2
        simp only [cmpI_self, ne_eq, not_true_eq_false, if_false, hz, not_false_eq_true, if_true]
        grind
      · have hz2 : cmpI k2 k3 ≠ 0 := by unfold cmpI; grind
        simp only [ne_eq, hz, hz2, not_false_eq_true, if_true]
        by_cases hz3 : cmpI k k3 = 0
        · have e : k = k3 := by revert hz3; unfold cmpI; grind
          subst e
          have := cmpI_neg k k2
          simp only [cmpI_self, not_true_eq_false, if_false]
          grind
        · simp only [hz3, not_false_eq_true, if_true]; exact h1
theorem cmpVs_tr : ∀ a b c : List GV, (cmpVs a b ≤ 0 → cmpVs b c ≤ 0 → cmpVs a c ≤ 0) ∧ (cmpVs a b < 0 → cmpVs b c ≤ 0 → cmpVs a c < 0) ∧ (cmpVs a b ≤ 0 → cmpVs b c < 0 → cmpVs a c < 0)
  | [], [], [] => by simp [cmpVs]
  | [], [], _ :: _ => by simp [cmpVs]
  | [], _ :: _, [] => by simp [cmpVs]
  | [], _ :: _, _ :: _ => by simp [cmpVs]
  | _ :: _, [], [] => by simp [cmpVs]
  | _ :: _, [], _ :: _ => by simp [cmpVs]
  | _ :: _, _ :: _, [] => by simp [cmpVs]
  | x :: a, y :: b, z :: c => by
    have h1 := cmpV_tr x y z
    have h1' := cmpV_tr z y x
    have n1 := cmpV_neg x y
    have n2 := cmpV_neg y z
    have n3 := cmpV_neg x z
    have h2 := cmpVs_tr a b c
    simp only [cmpVs]
    rw [n1, n2, n3] at h1'
    generalize cmpV x y = p at *
    generalize cmpV y z = q at *
    generalize cmpV x z = r at *
    generalize cmpVs a b = p' at *
    generalize cmpVs b c = q' at *
    generalize cmpVs a c = r' at *
    grind
end
end Go.Proofs.Ytpgakkhfjjhpdaa
end
section
namespace Go.Proofs.Ytpgakkhfjjhpdaa
open Go.Mach
theorem cmpI_zero {a b : Int} : cmpI a b = 0 ↔ a = b := by unfold cmpI; grind
theorem cmpB_zero : ∀ {a b : List UInt8}, Lib.compareBytes a b = 0 ↔ a = b
  | [], [] => by simp [Lib.compareBytes]
  | [], _ :: _ => by simp [Lib.compareBytes]
  | _ :: _, [] => by simp [Lib.compareBytes]
  | x :: a, y :: b => by
    have ih := cmpB_zero (a := a) (b := b)
    simp only [Lib.compareBytes, List.cons.injEq]
    by_cases h1 : x < y
    · rw [if_pos h1]; constructor
      · intro h; cases h
      · rintro ⟨rfl, _⟩; exact absurd h1 (UInt8.lt_irrefl _)
    · rw [if_neg h1]
      by_cases h2 : y < x
      · rw [if_pos h2]; constructor
        · intro h; cases h
        · rintro ⟨rfl, _⟩; exact absurd h2 (UInt8.lt_irrefl _)
      · rw [if_neg h2, ih]
        have : x = y := UInt8.le_antisymm (UInt8.not_lt.1 h2) (UInt8.not_lt.1 h1)
        simp [this]
theorem bytes_ext {s t : ByteArray} (h : s.data.toList = t.data.toList) : s = t := by
  cases s; cases t; simp only [ByteArray.mk.injEq]; exact Array.toList_inj.1 h
theorem rightB_spec {v : GV} {b : Bool} (h : rightB v b = true) : (v.kind = 1 ∧ v.text = ⟨#[]⟩ ∧ v.items = []) ∨ ((v.kind = 2 ∨ v.kind = 3) ∧ v.num = 0 ∧ v.items = []) ∨ (v.kind = 4 ∧ v.num = 0 ∧ v.text = ⟨#[]⟩ ∧ b = true) := by
  obtain ⟨k, n, t, l⟩ := v
  simp only [rightB, GV.kind, GV.num, GV.text, GV.items] at h ⊢
  split at h
  · have := of_decide_eq_true h; exact .inl ⟨by assumption, this.1, this.2.1⟩
  · split at h
    · have := of_decide_eq_true h; exact .inr (.inl ⟨.inl (by assumption), this.1, this.2.1⟩)
    · split at h
      · have := of_decide_eq_true h; exact .inr (.inl ⟨.inr (by assumption), this.1, this.2.1⟩)
      · split at h
        · have := of_decide_eq_true h; exact .inr (.inr ⟨by assumption, this.1, this.2.1, this.2.2⟩)
        · cases h
mutual
theorem cmp_eq : ∀ (a b : GV) (d e : Nat), rightV d a = true → rightV e b = true → cmpV a b = 0 → a = b
  | .mk k n t l, b, d, e, ha, hb, hc => by
    obtain ⟨k2, n2, t2, l2⟩ := b
    have hA : ∃ q, rightB (.mk k n t l) q = true ∧ (q = true → ∃ d', l.all (rightV d') = true) := by
      cases d with
      | zero => exact ⟨false, ha, by intro h; cases h⟩
      | succ d => exact ⟨_, ha, fun h => ⟨d, (of_decide_eq_true h).2⟩⟩
    have hB : ∃ q, rightB (.mk k2 n2 t2 l2) q = true ∧ (q = true → ∃ d', l2.all (rightV d') = true) := by
      cases e with
      | zero => exact ⟨false, hb, by intro h; cases h⟩
      | succ d => exact ⟨_, hb, fun h => ⟨d, (of_decide_eq_true h).2⟩⟩
    obtain ⟨qa, hA1, hA2⟩ := hA
    obtain ⟨qb, hB1, hB2⟩ := hB
    have sa := rightB_spec hA1
    have sb := rightB_spec hB1
    simp only [cmpV, GV.kind, GV.num, GV.text, GV.items] at hc sa sb
    by_cases hk : k = k2
    · subst hk
      rw [if_neg (by simp [cmpI_zero])] at hc
      rcases sa with ⟨h1, h2, h3⟩ | ⟨h1, h2, h3⟩ | ⟨h1, h2, h3, h4⟩
      · subst h1
        rw [if_pos rfl, cmpI_zero] at hc
        grind
      · rw [if_neg (by omega), if_pos h1, cmpB_zero] at hc
        have := bytes_ext hc
        grind
      · subst h1
        rw [if_neg (by decide), if_neg (by decide), if_pos rfl] at hc
        have s2 : n2 = 0 ∧ t2 = ⟨#[]⟩ ∧ qb = true := by grind
        obtain ⟨d', hd⟩ := hA2 h4
        obtain ⟨e', he⟩ := hB2 s2.2.2
        have := cmps_eq l l2 d' e' hd he hc
        grind
    · rw [if_pos (by rw [Ne, cmpI_zero]; exact hk)] at hc
      exact absurd (cmpI_zero.1 hc) hk
theorem cmps_eq : ∀ (a b : List GV) (d e : Nat), a.all (rightV d) = true → b.all (rightV e) = true → cmpVs a b = 0 → a = b
  | [], [], d, e, ha, hb, hc => rfl
  | [], _ :: _, d, e, ha, hb, hc => by simp [cmpVs] at hc
  | _ :: _, [], d, e, ha, hb, hc => by simp [cmpVs] at hc
  | x :: a, y :: b, d, e, ha, hb, hc => by
    simp only [List.all_cons, Bool.and_eq_true] at ha hb
    simp only [cmpVs] at hc
    by_cases hz : cmpV x y = 0
    · rw [if_neg (by simp [hz])] at hc
      rw [cmp_eq x y d e ha.1 hb.1 hz, cmps_eq a b d e ha.2 hb.2 hc]
    · rw [if_pos hz] at hc; exact absurd hc hz
end
end Go.Proofs.Ytpgakkhfjjhpdaa
end
section
namespace Go.Proofs.Ytpgakkhfjjhpdaa
open Go.Mach
mutual
def pr : GV → List UInt8
  | .mk k n t l => if k = 1 then Lib.itoa n else if k = 2 then 34 :: (t.data.toList ++ [34]) else if k = 3 then t.data.toList else if k = 4 then 91 :: (prs l ++ [93]) else []
def prs : List GV → List UInt8
  | [] => []
  | x :: l => pr x ++ prc l
def prc : List GV → List UInt8
  | [] => []
  | x :: l => 44 :: (pr x ++ prc l)
end
end Go.Proofs.Ytpgakkhfjjhpdaa
end
section
namespace Go.Proofs.Ytpgakkhfjjhpdaa
open Go.Mach
def S (l : List UInt8) : ByteArray := ⟨l.toArray⟩
mutual
theorem pr_len : ∀ v : GV, v.ok → (pr v).length + 1 ≤ 26 * v.size
  | .mk k n t l, hv => by
    simp only [GV.ok] at hv
    have hl := prc_len l hv.2.2
    have hpl : (prs l).length ≤ (prc l).length := by cases l <;> simp [prs, prc]
    have hi := Lib.itoa_length_le n hv.2.1.1 hv.2.1.2
    have ht : t.data.toList.length = t.size := by simp
    simp only [pr, GV.size]
    split
    · omega
    · split
      · simp only [List.length_cons, List.length_append, List.length_nil]; omega
      · split
        · omega
        · split
          · simp only [List.length_cons, List.length_append, List.length_nil]; omega
          · simp; omega
theorem prc_len : ∀ l : List GV, GV.oks l → (prc l).length ≤ 26 * GV.sizes l
  | [], _ => by simp [prc]
  | x :: l, h => by
    simp only [GV.oks] at h
    have h1 := pr_len x h.1
    have h2 := prc_len l h.2
    simp only [prc, GV.sizes, List.length_cons, List.length_append]; omega
end
end Go.Proofs.Ytpgakkhfjjhpdaa
end
section
namespace Go.Mach
inductive GT where
  | mk (kind : Int) (name : ByteArray) (value : GV) (args : List GT)
  deriving Inhabited
namespace GT
abbrev kind : GT → Int | .mk k _ _ _ => k
abbrev name : GT → ByteArray | .mk _ n _ _ => n
abbrev value : GT → GV | .mk _ _ v _ => v
abbrev args : GT → List GT | .mk _ _ _ l => l
mutual
def enc : GT → AV
  | .mk k n v l => .agg [.int .i64 k, .str n, .int .i64 v.kind, .int .i64 v.num, .str v.text, .isl (GV.encs v.items) false, .isl (encs l) false]
def encs : List GT → List AV
  | [] => []
  | v :: l => enc v :: encs l
end
theorem encs_map : ∀ l : List GT, encs l = l.map enc
  | [] => rfl
  | v :: l => by simp only [encs, List.map_cons, encs_map l]
@[simp] theorem encs_length (l : List GT) : (encs l).length = l.length := by simp [encs_map]
@[simp] theorem encs_get (l : List GT) (i : Nat) : (encs l)[i]? = l[i]?.map enc := by simp [encs_map]
@[simp] theorem encs_getE (l : List GT) (i : Nat) (h : i < (encs l).length) : (encs l)[i] = (l[i]'(by simpa using h)).enc := by simp [encs_map]
theorem encs_nil (l : List GT) : encs l = [] ↔ l = [] := by cases l <;> simp [encs]
@[simp] theorem encs_nil' : encs [] = [] := rfl
@[simp] theorem encs_one (v : GT) : encs [v] = [v.enc] := rfl
@[simp] theorem encs_snoc (l : List GT) (v : GT) : encs l ++ [v.enc] = encs (l ++ [v]) := by simp [encs_map]
@[simp] theorem eta (v : GT) : GT.mk v.kind v.name v.value v.args = v := by cases v; rfl
theorem enc_eq (v : GT) : v.enc = .agg [.int .i64 v.kind, .str v.name, .int .i64 v.value.kind, .int .i64 v.value.num, .str v.value.text, .isl (GV.encs v.value.items) false, .isl (encs v.args) false] := by cases v; simp only [enc]
theorem enc_mk (k : Int) (n : ByteArray) (vk vn : Int) (vt : ByteArray) (vl : List GV) (l : List GT) :
    AV.agg [.int .i64 k, .str n, .int .i64 vk, .int .i64 vn, .str vt, .isl (GV.encs vl) false, .isl (encs l) false] = (GT.mk k n (.mk vk vn vt vl) l).enc := by simp only [enc]
@[simp] theorem enc_cells (v : GT) : v.enc.cells = [.int .i64 v.kind, .str v.name, .int .i64 v.value.kind, .int .i64 v.value.num, .str v.value.text, .isl (GV.encs v.value.items) false, .isl (encs v.args) false] := by rw [enc_eq]; rfl
@[simp] theorem enc_solid (v : GT) : v.enc.solid = true := by rw [enc_eq]; rfl
@[simp] theorem enc_head (v : GT) (xs : List AV) : headYld (v.enc :: xs) = false := by rw [enc_eq]; rfl
@[simp] theorem enc_clean (v : GT) : v.enc.clean = true := by rw [enc_eq]; rfl
@[simp] theorem enc_closeA (σ : Heap) (v : GT) : closeA σ v.enc = some (v.enc, σ) := (clean_close (by simp)).1
@[simp] theorem enc_closeR (σ : Heap) (v : GT) : closeR σ v.enc = some (v.enc, σ) := by rw [enc_eq]; rfl
@[simp] theorem enc_datR (v : GT) : v.enc.datR = true := by rw [enc_eq]; rfl
@[simp] theorem enc_dat (v : GT) : v.enc.dat = true := by rw [enc_eq]; rfl
@[simp] theorem enc_clo (v : GT) : v.enc.clo = true := by rw [enc_eq]; rfl
@[simp] theorem encs_okEl (l : List GT) : (encs l).all (okEl 7 true) = true := by
  rw [List.all_eq_true]
  intro x hx
  rw [encs_map] at hx
  obtain ⟨v, _, rfl⟩ := List.mem_map.1 hx
  rw [enc_eq]; rfl
mutual
def ok : GT → Prop
  | .mk k _ v l => GV.i64ok k ∧ v.ok ∧ oks l
def oks : List GT → Prop
  | [] => True
  | v :: l => ok v ∧ oks l
end
mutual
def size : GT → Nat
  | .mk k n v l => n.size + v.size + sizes l + 3
def sizes : List GT → Nat
  | [] => 0
  | v :: l => size v + sizes l
end
mutual
theorem bulk_enc : ∀ v : GT, bulkA v.enc = v.size
  | .mk k n v l => by
    have h := bulk_encs l
    have h2 := GV.bulk_enc v
    rw [GV.enc_eq] at h2
    simp only [enc, bulkA, bulkAs, size, h] at h2 ⊢; omega
theorem bulk_encs : ∀ l : List GT, bulkAs (encs l) = sizes l
  | [] => by simp [encs, bulkAs, sizes]
  | v :: l => by
    have h1 := bulk_enc v
    have h2 := bulk_encs l
    simp only [encs, bulkAs, sizes, h1, h2]
end
theorem sizes_mem {l : List GT} {x : GT} (h : x ∈ l) : x.size + 5 ≤ GT.sizes l + 5 ∧ l.length ≤ GT.sizes l := by
  induction l with
  | nil => cases h
  | cons y l ih =>
    have hy : 5 ≤ y.size := by obtain ⟨k, n, v, l⟩ := y; cases v; simp [GT.size, GV.size]; omega
    rcases List.mem_cons.1 h with rfl | h
    · refine ⟨by simp [GT.sizes], ?_⟩
      have : ∀ l : List GT, l.length ≤ GT.sizes l := fun l => by
        induction l with
        | nil => simp [GT.sizes]
        | cons z l ih => have : 5 ≤ z.size := (by obtain ⟨k, n, v, l⟩ := z; cases v; simp [GT.size, GV.size]; omega); simp [GT.sizes]; omega
      have := this l
      simp [GT.sizes]; omega
    · obtain ⟨h1, h2⟩ := ih h
      simp [GT.sizes]; omega
theorem len_sizes (l : List GT) : l.length ≤ GT.sizes l := by
  cases l with
  | nil => simp
  | cons x l => exact (sizes_mem (List.mem_cons_self (a := x) (l := l))).2
theorem name_le (v : GT) : v.name.size ≤ v.size := by obtain ⟨k, n, t, l⟩ := v; show n.size ≤ _; simp only [GT.size]; omega
theorem args_le (v : GT) : GT.sizes v.args + 3 ≤ v.size := by obtain ⟨k, n, t, l⟩ := v; show GT.sizes l + 3 ≤ _; simp only [GT.size]; omega
end GT
structure GB where
  name : ByteArray
  value : GV
  deriving Inhabited
namespace GB
def enc (b : GB) : AV := .agg [.str b.name, .int .i64 b.value.kind, .int .i64 b.value.num, .str b.value.text, .isl (GV.encs b.value.items) false]
def encs (l : List GB) : List AV := l.map enc
@[simp] theorem encs_length (l : List GB) : (encs l).length = l.length := by simp [encs]
@[simp] theorem encs_get (l : List GB) (i : Nat) : (encs l)[i]? = l[i]?.map enc := by simp [encs]
@[simp] theorem encs_getE (l : List GB) (i : Nat) (h : i < (encs l).length) : (encs l)[i] = (l[i]'(by simpa using h)).enc := by simp [encs]
theorem encs_nil (l : List GB) : encs l = [] ↔ l = [] := by cases l <;> simp [encs]
@[simp] theorem encs_nil' : encs [] = [] := rfl
@[simp] theorem encs_one (v : GB) : encs [v] = [v.enc] := rfl
@[simp] theorem encs_snoc (l : List GB) (v : GB) : encs l ++ [v.enc] = encs (l ++ [v]) := by simp [encs]
theorem enc_mk (n : ByteArray) (vk vn : Int) (vt : ByteArray) (vl : List GV) :
    AV.agg [.str n, .int .i64 vk, .int .i64 vn, .str vt, .isl (GV.encs vl) false] = (GB.mk n (.mk vk vn vt vl)).enc := rfl
@[simp] theorem enc_cells (b : GB) : b.enc.cells = [.str b.name, .int .i64 b.value.kind, .int .i64 b.value.num, .str b.value.text, .isl (GV.encs b.value.items) false] := rfl
@[simp] theorem enc_solid (v : GB) : v.enc.solid = true := rfl
@[simp] theorem enc_head (v : GB) (xs : List AV) : headYld (v.enc :: xs) = false := by cases v; rfl
@[simp] theorem enc_clean (v : GB) : v.enc.clean = true := rfl
@[simp] theorem enc_closeA (σ : Heap) (v : GB) : closeA σ v.enc = some (v.enc, σ) := (clean_close (by simp)).1
@[simp] theorem enc_closeR (σ : Heap) (v : GB) : closeR σ v.enc = some (v.enc, σ) := rfl
@[simp] theorem enc_datR (v : GB) : v.enc.datR = true := rfl
@[simp] theorem enc_dat (v : GB) : v.enc.dat = true := rfl
@[simp] theorem enc_clo (v : GB) : v.enc.clo = true := rfl
@[simp] theorem encs_okEl (l : List GB) : (encs l).all (okEl 5 true) = true := by
  rw [List.all_eq_true]
  intro x hx
  obtain ⟨v, _, rfl⟩ := List.mem_map.1 hx
  rfl
def size (b : GB) : Nat := b.name.size + b.value.size + 1
def ok (b : GB) : Prop := b.value.ok
theorem bulk_enc (b : GB) : bulkA b.enc = b.size := by
  have h2 := GV.bulk_enc b.value
  rw [GV.enc_eq] at h2
  simp only [enc, bulkA, bulkAs, size] at h2 ⊢; omega
end GB
end Go.Mach
end
section
namespace Go.Proofs.Ytpgakkhfjjhpdaa
open Go.Mach
def stopP (p : UInt8 → Bool) (r : List UInt8) : Prop := ∀ c, r.head? = some c → p c = false
theorem span_eq (p : UInt8 → Bool) : ∀ (a b r s : List UInt8), (∀ c ∈ a, p c = true) → (∀ c ∈ b, p c = true) → stopP p r → stopP p s → a ++ r = b ++ s → a = b ∧ r = s
  | [], [], r, s, _, _, _, _, h => ⟨rfl, h⟩
  | [], c :: b, r, s, _, hb, hr, _, h => by
    rw [List.nil_append] at h; subst h
    have := hr c rfl
    rw [hb c (by simp)] at this; cases this
  | c :: a, [], r, s, ha, _, _, hs, h => by
    rw [List.nil_append] at h; subst h
    have := hs c rfl
    rw [ha c (by simp)] at this; cases this
  | c :: a, d :: b, r, s, ha, hb, hr, hs, h => by
    simp only [List.cons_append, List.cons.injEq] at h
    obtain ⟨e1, e2⟩ := span_eq p a b r s (fun x hx => ha x (by simp [hx])) (fun x hx => hb x (by simp [hx])) hr hs h.2
    exact ⟨by rw [h.1, e1], e2⟩
def digitB (c : UInt8) : Bool := decide (48 ≤ c.toNat ∧ c.toNat ≤ 57)
def numB (c : UInt8) : Bool := digitB c || decide (c = 45)
def nval (l : List UInt8) : Nat := l.foldl (fun a c => a * 10 + (c.toNat - 48)) 0
theorem ofNat_digit {k : Nat} (h : k < 10) : (UInt8.ofNat (48 + k)).toNat = 48 + k := by rw [UInt8.toNat_ofNat']; omega
theorem decDigits_spec : ∀ (m u : Nat), u ≤ m → nval (Lib.decDigits u) = u ∧ (∀ c ∈ Lib.decDigits u, digitB c = true) ∧ Lib.decDigits u ≠ [] := by
  intro m
  induction m using Nat.strongRecOn with
  | ind m ih =>
    intro u hu
    by_cases h10 : u < 10
    · rw [Lib.decDigits, dif_pos h10]
      have := ofNat_digit h10
      refine ⟨by simp [nval]; omega, fun c hc => ?_, by simp⟩
      simp at hc; subst hc
      have e : (48 + UInt8.ofNat u) = UInt8.ofNat (48 + u) := by simp
      simp only [e, digitB, this]; simp; omega
    · rw [Lib.decDigits, dif_neg h10]
      obtain ⟨h1, h2, h3⟩ := ih (u / 10) (by omega) (u / 10) (Nat.le_refl _)
      have := ofNat_digit (k := u % 10) (by omega)
      refine ⟨?_, fun c hc => ?_, by simp⟩
      · have h1' := h1
        simp only [nval] at h1' ⊢
        rw [List.foldl_append, h1']
        simp only [List.foldl_cons, List.foldl_nil, this]; omega
      · rcases List.mem_append.1 hc with hc | hc
        · exact h2 c hc
        · rw [List.mem_singleton] at hc; subst hc
          simp only [digitB, this]; simp; omega
theorem itoa_num (n : Int) : (∀ c ∈ Lib.itoa n, numB c = true) ∧ Lib.itoa n ≠ [] := by
  unfold Lib.itoa
  split
  · obtain ⟨h1, h2, h3⟩ := decDigits_spec n.natAbs n.natAbs (Nat.le_refl _)
    refine ⟨fun c hc => ?_, by simp⟩
    rcases List.mem_cons.1 hc with rfl | hc
    · rfl
    · simp [numB, h2 c hc]
  · obtain ⟨h1, h2, h3⟩ := decDigits_spec n.toNat n.toNat (Nat.le_refl _)
    exact ⟨fun c hc => by simp [numB, h2 c hc], h3⟩
theorem itoa_inj {m n : Int} (h : Lib.itoa m = Lib.itoa n) : m = n := by
  obtain ⟨a1, a2, a3⟩ := decDigits_spec m.natAbs m.natAbs (Nat.le_refl _)
  obtain ⟨b1, b2, b3⟩ := decDigits_spec m.toNat m.toNat (Nat.le_refl _)
  obtain ⟨c1, c2, c3⟩ := decDigits_spec n.natAbs n.natAbs (Nat.le_refl _)
  obtain ⟨d1, d2, d3⟩ := decDigits_spec n.toNat n.toNat (Nat.le_refl _)
  unfold Lib.itoa at h
  split at h <;> split at h
  · injection h with _ h
    rw [h, c1] at a1; omega
  · rw [← h] at d2
    have := d2 45 (by simp)
    simp [digitB] at this
  · rw [h] at b2
    have := b2 45 (by simp)
    simp [digitB] at this
  · rw [h, d1] at b1; omega
theorem right_cases {d : Nat} {v : GV} (h : rightV d v = true) : (∃ n, v = .mk 1 n ⟨#[]⟩ [] ∧ -2147483647 ≤ n ∧ n ≤ 2147483647) ∨ (∃ t, v = .mk 2 0 t [] ∧ textOK t = true) ∨ (∃ t, v = .mk 3 0 t [] ∧ nameOK t = true) ∨ (∃ l, v = .mk 4 0 ⟨#[]⟩ l ∧ 0 < d ∧ l.length ≤ 16 ∧ ∀ x ∈ l, rightV (d - 1) x = true) := by
  obtain ⟨k, n, t, l⟩ := v
  have hb : ∃ b, rightB (.mk k n t l) b = true ∧ (b = true → 0 < d ∧ l.length ≤ 16 ∧ ∀ x ∈ l, rightV (d - 1) x = true) := by
    cases d with
    | zero => exact ⟨false, h, fun h => by cases h⟩
    | succ d =>
      refine ⟨_, h, fun hb => ?_⟩
      have := of_decide_eq_true hb
      exact ⟨by omega, this.1, fun x hx => List.all_eq_true.1 this.2 x hx⟩
  obtain ⟨b, hb, hbl⟩ := hb
  simp only [rightB, GV.kind, GV.num, GV.text, GV.items] at hb
  split at hb
  · rename_i hk; subst hk
    obtain ⟨rfl, rfl, h1, h2⟩ := of_decide_eq_true hb
    exact .inl ⟨n, rfl, by omega, by omega⟩
  · split at hb
    · rename_i hk; subst hk
      obtain ⟨rfl, rfl, h1⟩ := of_decide_eq_true hb
      exact .inr (.inl ⟨t, rfl, h1⟩)
    · split at hb
      · rename_i hk; subst hk
        obtain ⟨rfl, rfl, h1⟩ := of_decide_eq_true hb
        exact .inr (.inr (.inl ⟨t, rfl, h1⟩))
      · split at hb
        · rename_i hk; subst hk
          obtain ⟨rfl, rfl, h1⟩ := of_decide_eq_true hb
          exact .inr (.inr (.inr ⟨l, rfl, hbl h1⟩))
        · cases hb
def stopV (r : List UInt8) : Prop := ∀ c, r.head? = some c → c = 44 ∨ c = 93
theorem stopV_num {r : List UInt8} (h : stopV r) : stopP numB r := fun c hc => by rcases h c hc with rfl | rfl <;> rfl
def innC (c : UInt8) : Bool := innerB c.toNat
theorem stopV_inn {r : List UInt8} (h : stopV r) : stopP innC r := fun c hc => by rcases h c hc with rfl | rfl <;> rfl
theorem name_list {t : ByteArray} (h : nameOK t = true) : ∃ c l, t.data.toList = c :: l ∧ letterB c.toNat = true ∧ ∀ x ∈ c :: l, innC x = true := by
  simp only [nameOK, Bool.and_eq_true] at h
  match hl : t.data.toList, h.1 with
  | c :: l, h1 =>
    simp only [nameL, Bool.and_eq_true, List.all_eq_true] at h1
    refine ⟨c, l, rfl, h1.1, fun x hx => ?_⟩
    rcases List.mem_cons.1 hx with rfl | hx
    · simp [innC, innerB, h1.1]
    · exact h1.2 x hx
  | [], h1 => simp [nameL] at h1
theorem text_list {t : ByteArray} (h : textOK t = true) : ∀ c ∈ t.data.toList, (c != 34) = true := fun c hc => by
  simp only [textOK, Bool.and_eq_true, List.all_eq_true] at h
  have := h.1 c hc
  simp only [bne_iff_ne, ne_eq]
  rintro rfl
  simp [plainB] at this
theorem pr_head {d : Nat} {v : GV} (h : rightV d v = true) : ∃ c l, pr v = c :: l ∧ ((v.kind = 1 ∧ numB c = true) ∨ (v.kind = 2 ∧ c = 34) ∨ (v.kind = 3 ∧ letterB c.toNat = true) ∨ (v.kind = 4 ∧ c = 91)) := by
  rcases right_cases h with ⟨n, rfl, h1, h2⟩ | ⟨t, rfl, h1⟩ | ⟨t, rfl, h1⟩ | ⟨l, rfl, h1, h2⟩
  · obtain ⟨a1, a2⟩ := itoa_num n
    match hi : Lib.itoa n, a2 with
    | c :: l, _ => exact ⟨c, l, by simp [pr, hi], .inl ⟨rfl, a1 c (by simp [hi])⟩⟩
  · exact ⟨34, _, by simp [pr]; rfl, .inr (.inl ⟨rfl, rfl⟩)⟩
  · obtain ⟨c, l, e, h1, h2⟩ := name_list h1
    exact ⟨c, l, by simp [pr, e], .inr (.inr (.inl ⟨rfl, h1⟩))⟩
  · exact ⟨91, _, by simp [pr]; rfl, .inr (.inr (.inr ⟨rfl, rfl⟩))⟩
theorem head_apart {c : UInt8} {k k2 : Int} (h : (k = 1 ∧ numB c = true) ∨ (k = 2 ∧ c = 34) ∨ (k = 3 ∧ letterB c.toNat = true) ∨ (k = 4 ∧ c = 91))
    (h2 : (k2 = 1 ∧ numB c = true) ∨ (k2 = 2 ∧ c = 34) ∨ (k2 = 3 ∧ letterB c.toNat = true) ∨ (k2 = 4 ∧ c = 91)) : k = k2 := by
  have e1 : numB c = true → c ≠ 34 ∧ c ≠ 91 ∧ letterB c.toNat = false := fun h => by
    simp only [numB, digitB, Bool.or_eq_true, decide_eq_true_eq] at h
    refine ⟨?_, ?_, ?_⟩
    · rintro rfl; simp at h
    · rintro rfl; simp at h
    · rcases h with h | rfl
      · simp [letterB]; omega
      · rfl
  have e2 : letterB c.toNat = true → c ≠ 34 ∧ c ≠ 91 := fun h => by
    constructor <;> (rintro rfl; simp [letterB] at h)
  rcases h with ⟨rfl, h⟩ | ⟨rfl, rfl⟩ | ⟨rfl, h⟩ | ⟨rfl, rfl⟩ <;> rcases h2 with ⟨rfl, h2⟩ | ⟨rfl, h2⟩ | ⟨rfl, h2⟩ | ⟨rfl, h2⟩ <;> first | rfl | (exfalso; grind)
theorem stop_prc (l : List GV) (r : List UInt8) : stopV (prc l ++ 93 :: r) := by
  intro c hc
  cases l with
  | nil => simp [prc] at hc; exact .inr hc.symm
  | cons x l => simp [prc] at hc; exact .inl hc.symm
mutual
theorem pr_split : ∀ (a b : GV) (d e : Nat) (r s : List UInt8), rightV d a = true → rightV e b = true → stopV r → stopV s → pr a ++ r = pr b ++ s → a = b ∧ r = s
  | .mk k n t l, b, d, e, r, s, ha, hb, hr, hs, h => by
    obtain ⟨c1, l1, e1, k1⟩ := pr_head ha
    obtain ⟨c2, l2, e2, k2⟩ := pr_head hb
    have hc : c1 = c2 := by rw [e1, e2] at h; simp only [List.cons_append, List.cons.injEq] at h; exact h.1
    subst hc
    have hk := head_apart k1 k2
    rcases right_cases ha with ⟨n1, ea, _, _⟩ | ⟨t1, ea, ht1⟩ | ⟨t1, ea, ht1⟩ | ⟨l1', ea, hd1, _, hl1⟩ <;> rcases right_cases hb with ⟨n2, eb, _, _⟩ | ⟨t2, eb, ht2⟩ | ⟨t2, eb, ht2⟩ | ⟨l2', eb, hd2, _, hl2⟩ <;> injection ea with ea1 ea2 ea3 ea4 <;> subst ea1 ea2 ea3 ea4 <;> subst eb <;> first
      | (exfalso; simp [GV.kind] at hk; done)
      | skip
    · simp only [pr, if_true] at h
      obtain ⟨h1, h2⟩ := span_eq numB _ _ _ _ (itoa_num _).1 (itoa_num _).1 (stopV_num hr) (stopV_num hs) h
      exact ⟨by rw [itoa_inj h1], h2⟩
    · have p1 : pr (.mk 2 0 t []) = 34 :: (t.data.toList ++ [34]) := by simp [pr]
      have p2 : pr (.mk 2 0 t2 []) = 34 :: (t2.data.toList ++ [34]) := by simp [pr]
      rw [p1, p2] at h
      simp only [List.cons_append, List.cons.injEq, true_and, List.append_assoc, List.nil_append] at h
      obtain ⟨h1, h2⟩ := span_eq (fun c => c != 34) _ _ _ _ (text_list ht1) (text_list ht2) (fun c hc => by simp at hc; subst hc; rfl) (fun c hc => by simp at hc; subst hc; rfl) h
      injection h2 with _ h2
      exact ⟨by rw [bytes_ext h1], h2⟩
    · have p1 : pr (.mk 3 0 t []) = t.data.toList := by simp [pr]
      have p2 : pr (.mk 3 0 t2 []) = t2.data.toList := by simp [pr]
      rw [p1, p2] at h
      obtain ⟨c1, m1, q1, _, i1⟩ := name_list ht1
      obtain ⟨c2, m2, q2, _, i2⟩ := name_list ht2
      obtain ⟨h1, h2⟩ := span_eq innC _ _ _ _ (by rw [q1]; exact i1) (by rw [q2]; exact i2) (stopV_inn hr) (stopV_inn hs) h
      exact ⟨by rw [bytes_ext h1], h2⟩
    · have p1 : pr (.mk 4 0 ⟨#[]⟩ l) = 91 :: (prs l ++ [93]) := by simp [pr]
      have p2 : pr (.mk 4 0 ⟨#[]⟩ l2') = 91 :: (prs l2' ++ [93]) := by simp [pr]
      rw [p1, p2] at h
      simp only [List.cons_append, List.cons.injEq, true_and, List.append_assoc, List.nil_append] at h
      obtain ⟨h1, h2⟩ := prs_split l l2' (d - 1) (e - 1) r s hl1 hl2 h
      exact ⟨by rw [h1], h2⟩
theorem prs_split : ∀ (a b : List GV) (d e : Nat) (r s : List UInt8), (∀ x ∈ a, rightV d x = true) → (∀ x ∈ b, rightV e x = true) → prs a ++ 93 :: r = prs b ++ 93 :: s → a = b ∧ r = s
  | [], [], d, e, r, s, _, _, h => ⟨rfl, by simpa [prs] using h⟩
  | [], y :: b, d, e, r, s, _, hb, h => by
    exfalso
    obtain ⟨c, l, e1, k1⟩ := pr_head (hb y (by simp))
    simp only [prs, e1, List.nil_append, List.cons_append, List.cons.injEq] at h
    have := h.1; subst this
    rcases k1 with ⟨_, k⟩ | ⟨_, k⟩ | ⟨_, k⟩ | ⟨_, k⟩ <;> revert k <;> decide
  | x :: a, [], d, e, r, s, ha, _, h => by
    exfalso
    obtain ⟨c, l, e1, k1⟩ := pr_head (ha x (by simp))
    simp only [prs, e1, List.nil_append, List.cons_append, List.cons.injEq] at h
    have := h.1; subst this
    rcases k1 with ⟨_, k⟩ | ⟨_, k⟩ | ⟨_, k⟩ | ⟨_, k⟩ <;> revert k <;> decide
  | x :: a, y :: b, d, e, r, s, ha, hb, h => by
    simp only [prs, List.append_assoc] at h
    obtain ⟨rfl, h1⟩ := pr_split x y d e _ _ (ha x (by simp)) (hb y (by simp)) (stop_prc a r) (stop_prc b s) h
    obtain ⟨rfl, h2⟩ := prc_split a b d e r s (fun z hz => ha z (by simp [hz])) (fun z hz => hb z (by simp [hz])) h1
    exact ⟨rfl, h2⟩
theorem prc_split : ∀ (a b : List GV) (d e : Nat) (r s : List UInt8), (∀ x ∈ a, rightV d x = true) → (∀ x ∈ b, rightV e x = true) → prc a ++ 93 :: r = prc b ++ 93 :: s → a = b ∧ r = s
  | [], [], d, e, r, s, _, _, h => ⟨rfl, by simpa [prc] using h⟩
  | [], y :: b, d, e, r, s, _, hb, h => by simp [prc] at h
  | x :: a, [], d, e, r, s, ha, _, h => by simp [prc] at h
  | x :: a, y :: b, d, e, r, s, ha, hb, h => by
    simp only [prc, List.cons_append, List.cons.injEq, true_and, List.append_assoc] at h
    obtain ⟨rfl, h1⟩ := pr_split x y d e _ _ (ha x (by simp)) (hb y (by simp)) (stop_prc a r) (stop_prc b s) h
    obtain ⟨rfl, h2⟩ := prc_split a b d e r s (fun z hz => ha z (by simp [hz])) (fun z hz => hb z (by simp [hz])) h1
    exact ⟨rfl, h2⟩
end
end Go.Proofs.Ytpgakkhfjjhpdaa
end
section
namespace Go.Mach
theorem setRun_take : ∀ (vs cs : List AV) (o : Nat), o + vs.length ≤ cs.length → setRun cs o vs = cs.take o ++ vs ++ cs.drop (o + vs.length)
  | [], cs, o, h => by simp [setRun]
  | v :: vs, cs, o, h => by
    simp only [List.length_cons] at h
    rw [setRun, setRun_take vs _ _ (by simp; omega)]
    rw [List.take_set, List.take_add_one, List.drop_set]
    have h1 : o < cs.length := by omega
    rw [if_pos (by omega)]
    simp only [List.getElem?_eq_getElem h1, Option.toList_some, List.length_cons]
    rw [List.set_append_right _ _ (by simp; omega)]
    simp only [List.length_take, Nat.min_eq_left (Nat.le_of_lt h1), Nat.sub_self, List.set_cons_zero]
    rw [show o + 1 + vs.length = o + (vs.length + 1) by omega]
    simp
end Go.Mach
end
section
namespace Go.Mach
structure IsT (P : Program) (tT tTL tV tL tI tS : TypeId) : Prop where
  fs : ∃ fs : Array Field, P.underlying tT = some (.struct fs) ∧ fs.toList.map (·.type) = [tI, tS, tV, tTL]
  list : P.underlying tTL = some (.slice tT)
  val : IsV P tV tL tI tS
structure IsB (P : Program) (tB tBL tV tL tI tS : TypeId) : Prop where
  fs : ∃ fs : Array Field, P.underlying tB = some (.struct fs) ∧ fs.toList.map (·.type) = [tS, tV]
  list : P.underlying tBL = some (.slice tB)
  val : IsV P tV tL tI tS
def fieldTys (P : Program) (t : TypeId) : Option (List TypeId) := match P.underlying t with
  | some (.struct fs) => some (fs.toList.map (·.type))
  | _ => none
theorem fieldTys_some {P : Program} {t : TypeId} {l : List TypeId} (h : fieldTys P t = some l) : ∃ fs : Array Field, P.underlying t = some (.struct fs) ∧ fs.toList.map (·.type) = l := by
  unfold fieldTys at h
  split at h
  · rename_i fs hu; injection h with h; exact ⟨fs, hu, h⟩
  · cases h
theorem argI {P : Program} {tI : TypeId} (hS : P.underlying tI = some (.int .i64)) {x : AV} (h : TyA P tI x) (hb : bulkA x ≤ 1048576) : ∃ n : Int, x = .int .i64 n ∧ GV.i64ok n := by
  have e1 : IntKind.i64.min = -9223372036854775808 := by decide
  have e2 : IntKind.i64.max = 9223372036854775807 := by decide
  obtain ⟨n, rfl, n1, n2⟩ := h.asInt hS
  rw [e1] at n1; rw [e2] at n2
  exact ⟨n, rfl, n1, n2⟩
end Go.Mach
namespace Go.Proofs.Ytpgakkhfjjhpdaa
open Go.Mach
theorem tyV : IsV Try.prog 52 50 3 9 := ⟨fieldTys_some (by kernel_rfl), by kernel_rfl, by kernel_rfl, by kernel_rfl⟩
end Go.Proofs.Ytpgakkhfjjhpdaa
end
section
namespace Go.Mach
theorem bulk_mem {es : List AV} {x : AV} (h : x ∈ es) : bulkA x ≤ bulkAs es := by
  induction es with
  | nil => cases h
  | cons y l ih =>
    simp only [bulkAs]
    rcases List.mem_cons.1 h with rfl | h
    · omega
    · have := ih h; omega
theorem bulk_pos (x : AV) : 1 ≤ bulkA x := by cases x <;> simp [bulkA]
theorem bulk_len : ∀ es : List AV, es.length ≤ bulkAs es
  | [] => by simp
  | x :: l => by have := bulk_len l; have := bulk_pos x; simp only [bulkAs, List.length_cons]; omega
theorem list_enc {α : Type} (enc : α → AV) (ok : α → Prop) : ∀ l : List AV, (∀ y ∈ l, ∃ v : α, y = enc v ∧ ok v) → ∃ l' : List α, l = l'.map enc ∧ ∀ b ∈ l', ok b
  | [], _ => ⟨[], rfl, by simp⟩
  | y :: l, h => by
    obtain ⟨v, rfl, hv⟩ := h y (by simp)
    obtain ⟨l', rfl, hl'⟩ := list_enc enc ok l fun z hz => h z (by simp [hz])
    exact ⟨v :: l', rfl, fun b hb => by rcases List.mem_cons.1 hb with rfl | hb; exact hv; exact hl' b hb⟩
structure GL where
  kind : Int
  name : ByteArray
  args : List GT
  deriving Inhabited
namespace GL
def enc (x : GL) : AV := .agg [.int .i64 x.kind, .str x.name, .isl (GT.encs x.args) false]
theorem enc_mk (kind' : Int) (name' : ByteArray) (args' : List GT) : AV.agg [.int .i64 kind', .str name', .isl (GT.encs args') false] = enc ⟨kind', name', args'⟩ := rfl
theorem enc_eq (x : GL) : x.enc = .agg [.int .i64 x.kind, .str x.name, .isl (GT.encs x.args) false] := rfl
@[simp] theorem eta (x : GL) : (⟨x.kind, x.name, x.args⟩ : GL) = x := rfl
@[simp] theorem enc_cells (x : GL) : x.enc.cells = [.int .i64 x.kind, .str x.name, .isl (GT.encs x.args) false] := rfl
@[simp] theorem enc_solid (x : GL) : x.enc.solid = true := rfl
@[simp] theorem enc_head (x : GL) (xs : List AV) : headYld (x.enc :: xs) = false := by cases x; rfl
@[simp] theorem enc_clean (x : GL) : x.enc.clean = true := rfl
@[simp] theorem enc_datR (x : GL) : x.enc.datR = true := rfl
@[simp] theorem enc_dat (x : GL) : x.enc.dat = true := rfl
@[simp] theorem enc_clo (x : GL) : x.enc.clo = true := rfl
@[simp] theorem enc_clo1 (x : GL) : x.enc.clo1 = false := rfl
@[simp] theorem enc_closeA (σ : Heap) (x : GL) : closeA σ x.enc = some (x.enc, σ) := (clean_close (by simp)).1
@[simp] theorem enc_closeR (σ : Heap) (x : GL) : closeR σ x.enc = some (x.enc, σ) := rfl
@[simp] theorem encs_okEl (l : List GL) : (l.map enc).all (okEl 3 true) = true := by
  rw [List.all_eq_true]; intro x hx
  obtain ⟨v, _, rfl⟩ := List.mem_map.1 hx
  rfl
def ok (x : GL) : Prop := GV.i64ok x.kind ∧ GT.oks x.args
def size (x : GL) : Nat := bulkA x.enc
theorem name_le (x : GL) : x.name.size + 1 ≤ x.size := by simp only [size, enc, bulkA, bulkAs]; omega
theorem args_le (x : GL) : GT.sizes x.args + 1 ≤ x.size := by simp only [size, enc, bulkA, bulkAs, GT.bulk_encs]; omega
end GL
structure GU where
  name : ByteArray
  args : List GV
  deriving Inhabited
namespace GU
def enc (x : GU) : AV := .agg [.str x.name, .isl (GV.encs x.args) false]
theorem enc_mk (name' : ByteArray) (args' : List GV) : AV.agg [.str name', .isl (GV.encs args') false] = enc ⟨name', args'⟩ := rfl
theorem enc_eq (x : GU) : x.enc = .agg [.str x.name, .isl (GV.encs x.args) false] := rfl
@[simp] theorem eta (x : GU) : (⟨x.name, x.args⟩ : GU) = x := rfl
@[simp] theorem enc_cells (x : GU) : x.enc.cells = [.str x.name, .isl (GV.encs x.args) false] := rfl
@[simp] theorem enc_solid (x : GU) : x.enc.solid = true := rfl
@[simp] theorem enc_head (x : GU) (xs : List AV) : headYld (x.enc :: xs) = false := by cases x; rfl
@[simp] theorem enc_clean (x : GU) : x.enc.clean = true := rfl
@[simp] theorem enc_datR (x : GU) : x.enc.datR = true := rfl
@[simp] theorem enc_dat (x : GU) : x.enc.dat = true := rfl
@[simp] theorem enc_clo (x : GU) : x.enc.clo = true := rfl
@[simp] theorem enc_clo1 (x : GU) : x.enc.clo1 = false := rfl
@[simp] theorem enc_closeA (σ : Heap) (x : GU) : closeA σ x.enc = some (x.enc, σ) := (clean_close (by simp)).1
@[simp] theorem enc_closeR (σ : Heap) (x : GU) : closeR σ x.enc = some (x.enc, σ) := rfl
@[simp] theorem encs_okEl (l : List GU) : (l.map enc).all (okEl 2 true) = true := by
  rw [List.all_eq_true]; intro x hx
  obtain ⟨v, _, rfl⟩ := List.mem_map.1 hx
  rfl
def ok (x : GU) : Prop := GV.oks x.args
def size (x : GU) : Nat := bulkA x.enc
theorem name_le (x : GU) : x.name.size + 1 ≤ x.size := by simp only [size, enc, bulkA, bulkAs]; omega
theorem args_le (x : GU) : GV.sizes x.args + 1 ≤ x.size := by simp only [size, enc, bulkA, bulkAs, GV.bulk_encs]; omega
end GU
structure GD where
  name : ByteArray
  arity : Int
  deriving Inhabited
namespace GD
def enc (x : GD) : AV := .agg [.str x.name, .int .i64 x.arity]
theorem enc_mk (name' : ByteArray) (arity' : Int) : AV.agg [.str name', .int .i64 arity'] = enc ⟨name', arity'⟩ := rfl
theorem enc_eq (x : GD) : x.enc = .agg [.str x.name, .int .i64 x.arity] := rfl
@[simp] theorem eta (x : GD) : (⟨x.name, x.arity⟩ : GD) = x := rfl
@[simp] theorem enc_cells (x : GD) : x.enc.cells = [.str x.name, .int .i64 x.arity] := rfl
@[simp] theorem enc_solid (x : GD) : x.enc.solid = true := rfl
@[simp] theorem enc_head (x : GD) (xs : List AV) : headYld (x.enc :: xs) = false := by cases x; rfl
@[simp] theorem enc_clean (x : GD) : x.enc.clean = true := rfl
@[simp] theorem enc_datR (x : GD) : x.enc.datR = true := rfl
@[simp] theorem enc_dat (x : GD) : x.enc.dat = true := rfl
@[simp] theorem enc_clo (x : GD) : x.enc.clo = true := rfl
@[simp] theorem enc_clo1 (x : GD) : x.enc.clo1 = false := rfl
@[simp] theorem enc_closeA (σ : Heap) (x : GD) : closeA σ x.enc = some (x.enc, σ) := (clean_close (by simp)).1
@[simp] theorem enc_closeR (σ : Heap) (x : GD) : closeR σ x.enc = some (x.enc, σ) := rfl
@[simp] theorem encs_okEl (l : List GD) : (l.map enc).all (okEl 2 true) = true := by
  rw [List.all_eq_true]; intro x hx
  obtain ⟨v, _, rfl⟩ := List.mem_map.1 hx
  rfl
def ok (x : GD) : Prop := GV.i64ok x.arity
def size (x : GD) : Nat := bulkA x.enc
theorem name_le (x : GD) : x.name.size + 1 ≤ x.size := by simp only [size, enc, bulkA, bulkAs]; omega
end GD
structure GR where
  label : ByteArray
  head : ByteArray
  args : List GT
  agg : ByteArray
  pos : Int
  body : List GL
  deriving Inhabited
namespace GR
def enc (x : GR) : AV := .agg [.str x.label, .str x.head, .isl (GT.encs x.args) false, .str x.agg, .int .i64 x.pos, .isl (x.body.map GL.enc) false]
theorem enc_mk (label' : ByteArray) (head' : ByteArray) (args' : List GT) (agg' : ByteArray) (pos' : Int) (body' : List GL) : AV.agg [.str label', .str head', .isl (GT.encs args') false, .str agg', .int .i64 pos', .isl (body'.map GL.enc) false] = enc ⟨label', head', args', agg', pos', body'⟩ := rfl
theorem enc_eq (x : GR) : x.enc = .agg [.str x.label, .str x.head, .isl (GT.encs x.args) false, .str x.agg, .int .i64 x.pos, .isl (x.body.map GL.enc) false] := rfl
@[simp] theorem eta (x : GR) : (⟨x.label, x.head, x.args, x.agg, x.pos, x.body⟩ : GR) = x := rfl
@[simp] theorem enc_cells (x : GR) : x.enc.cells = [.str x.label, .str x.head, .isl (GT.encs x.args) false, .str x.agg, .int .i64 x.pos, .isl (x.body.map GL.enc) false] := rfl
@[simp] theorem enc_solid (x : GR) : x.enc.solid = true := rfl
@[simp] theorem enc_head (x : GR) (xs : List AV) : headYld (x.enc :: xs) = false := by cases x; rfl
@[simp] theorem enc_clean (x : GR) : x.enc.clean = true := rfl
@[simp] theorem enc_datR (x : GR) : x.enc.datR = true := rfl
@[simp] theorem enc_dat (x : GR) : x.enc.dat = true := rfl
@[simp] theorem enc_clo (x : GR) : x.enc.clo = true := rfl
@[simp] theorem enc_clo1 (x : GR) : x.enc.clo1 = false := rfl
@[simp] theorem enc_closeA (σ : Heap) (x : GR) : closeA σ x.enc = some (x.enc, σ) := (clean_close (by simp)).1
@[simp] theorem enc_closeR (σ : Heap) (x : GR) : closeR σ x.enc = some (x.enc, σ) := rfl
@[simp] theorem encs_okEl (l : List GR) : (l.map enc).all (okEl 6 true) = true := by
  rw [List.all_eq_true]; intro x hx
  obtain ⟨v, _, rfl⟩ := List.mem_map.1 hx
  rfl
def ok (x : GR) : Prop := GT.oks x.args ∧ GV.i64ok x.pos ∧ (∀ y ∈ x.body, y.ok)
def size (x : GR) : Nat := bulkA x.enc
theorem label_le (x : GR) : x.label.size + 1 ≤ x.size := by simp only [size, enc, bulkA, bulkAs]; omega
theorem head_le (x : GR) : x.head.size + 1 ≤ x.size := by simp only [size, enc, bulkA, bulkAs]; omega
theorem args_le (x : GR) : GT.sizes x.args + 1 ≤ x.size := by simp only [size, enc, bulkA, bulkAs, GT.bulk_encs]; omega
theorem agg_le (x : GR) : x.agg.size + 1 ≤ x.size := by simp only [size, enc, bulkA, bulkAs]; omega
theorem body_len (x : GR) : x.body.length + 1 ≤ x.size := by have := bulk_len (x.body.map GL.enc); simp only [List.length_map] at this; simp only [size, enc, bulkA, bulkAs]; omega
theorem body_mem (x : GR) {y : GL} (h : y ∈ x.body) : y.size + 1 ≤ x.size := by have := bulk_mem (List.mem_map.2 ⟨y, h, rfl⟩ : y.enc ∈ x.body.map GL.enc); show bulkA y.enc + 1 ≤ _; simp only [size, enc, bulkA, bulkAs]; omega
end GR
structure GP where
  decls : List GD
  facts : List GU
  rules : List GR
  deriving Inhabited
namespace GP
def enc (x : GP) : AV := .agg [.isl (x.decls.map GD.enc) false, .isl (x.facts.map GU.enc) false, .isl (x.rules.map GR.enc) false]
theorem enc_mk (decls' : List GD) (facts' : List GU) (rules' : List GR) : AV.agg [.isl (decls'.map GD.enc) false, .isl (facts'.map GU.enc) false, .isl (rules'.map GR.enc) false] = enc ⟨decls', facts', rules'⟩ := rfl
theorem enc_eq (x : GP) : x.enc = .agg [.isl (x.decls.map GD.enc) false, .isl (x.facts.map GU.enc) false, .isl (x.rules.map GR.enc) false] := rfl
@[simp] theorem eta (x : GP) : (⟨x.decls, x.facts, x.rules⟩ : GP) = x := rfl
@[simp] theorem enc_cells (x : GP) : x.enc.cells = [.isl (x.decls.map GD.enc) false, .isl (x.facts.map GU.enc) false, .isl (x.rules.map GR.enc) false] := rfl
@[simp] theorem enc_solid (x : GP) : x.enc.solid = true := rfl
@[simp] theorem enc_head (x : GP) (xs : List AV) : headYld (x.enc :: xs) = false := by cases x; rfl
@[simp] theorem enc_clean (x : GP) : x.enc.clean = true := rfl
@[simp] theorem enc_datR (x : GP) : x.enc.datR = true := rfl
@[simp] theorem enc_dat (x : GP) : x.enc.dat = true := rfl
@[simp] theorem enc_clo (x : GP) : x.enc.clo = true := rfl
@[simp] theorem enc_clo1 (x : GP) : x.enc.clo1 = false := rfl
@[simp] theorem enc_closeA (σ : Heap) (x : GP) : closeA σ x.enc = some (x.enc, σ) := (clean_close (by simp)).1
@[simp] theorem enc_closeR (σ : Heap) (x : GP) : closeR σ x.enc = some (x.enc, σ) := rfl
@[simp] theorem encs_okEl (l : List GP) : (l.map enc).all (okEl 3 true) = true := by
  rw [List.all_eq_true]; intro x hx
  obtain ⟨v, _, rfl⟩ := List.mem_map.1 hx
  rfl
def ok (x : GP) : Prop := (∀ y ∈ x.decls, y.ok) ∧ (∀ y ∈ x.facts, y.ok) ∧ (∀ y ∈ x.rules, y.ok)
def size (x : GP) : Nat := bulkA x.enc
theorem decls_len (x : GP) : x.decls.length + 1 ≤ x.size := by have := bulk_len (x.decls.map GD.enc); simp only [List.length_map] at this; simp only [size, enc, bulkA, bulkAs]; omega
theorem decls_mem (x : GP) {y : GD} (h : y ∈ x.decls) : y.size + 1 ≤ x.size := by have := bulk_mem (List.mem_map.2 ⟨y, h, rfl⟩ : y.enc ∈ x.decls.map GD.enc); show bulkA y.enc + 1 ≤ _; simp only [size, enc, bulkA, bulkAs]; omega
theorem facts_len (x : GP) : x.facts.length + 1 ≤ x.size := by have := bulk_len (x.facts.map GU.enc); simp only [List.length_map] at this; simp only [size, enc, bulkA, bulkAs]; omega
theorem facts_mem (x : GP) {y : GU} (h : y ∈ x.facts) : y.size + 1 ≤ x.size := by have := bulk_mem (List.mem_map.2 ⟨y, h, rfl⟩ : y.enc ∈ x.facts.map GU.enc); show bulkA y.enc + 1 ≤ _; simp only [size, enc, bulkA, bulkAs]; omega
theorem rules_len (x : GP) : x.rules.length + 1 ≤ x.size := by have := bulk_len (x.rules.map GR.enc); simp only [List.length_map] at this; simp only [size, enc, bulkA, bulkAs]; omega
theorem rules_mem (x : GP) {y : GR} (h : y ∈ x.rules) : y.size + 1 ≤ x.size := by have := bulk_mem (List.mem_map.2 ⟨y, h, rfl⟩ : y.enc ∈ x.rules.map GR.enc); show bulkA y.enc + 1 ≤ _; simp only [size, enc, bulkA, bulkAs]; omega
end GP
structure IsGL (P : Program) (tGL tT tTL tV tL tI tS : TypeId) : Prop where
  fs : ∃ fs : Array Field, P.underlying tGL = some (.struct fs) ∧ fs.toList.map (·.type) = [tI, tS, tTL]
  term : IsT P tT tTL tV tL tI tS
structure IsGU (P : Program) (tGU tT tTL tV tL tI tS : TypeId) : Prop where
  fs : ∃ fs : Array Field, P.underlying tGU = some (.struct fs) ∧ fs.toList.map (·.type) = [tS, tL]
  term : IsT P tT tTL tV tL tI tS
structure IsGD (P : Program) (tGD tT tTL tV tL tI tS : TypeId) : Prop where
  fs : ∃ fs : Array Field, P.underlying tGD = some (.struct fs) ∧ fs.toList.map (·.type) = [tS, tI]
  term : IsT P tT tTL tV tL tI tS
structure IsGR (P : Program) (tGR tGLL tGL tT tTL tV tL tI tS : TypeId) : Prop where
  fs : ∃ fs : Array Field, P.underlying tGR = some (.struct fs) ∧ fs.toList.map (·.type) = [tS, tS, tTL, tS, tI, tGLL]
  term : IsT P tT tTL tV tL tI tS
  bodyL : P.underlying tGLL = some (.slice tGL)
  bodyI : IsGL P tGL tT tTL tV tL tI tS
structure IsGP (P : Program) (tGP tGDL tGD tGUL tGU tGRL tGR tGLL tGL tT tTL tV tL tI tS : TypeId) : Prop where
  fs : ∃ fs : Array Field, P.underlying tGP = some (.struct fs) ∧ fs.toList.map (·.type) = [tGDL, tGUL, tGRL]
  term : IsT P tT tTL tV tL tI tS
  declsL : P.underlying tGDL = some (.slice tGD)
  declsI : IsGD P tGD tT tTL tV tL tI tS
  factsL : P.underlying tGUL = some (.slice tGU)
  factsI : IsGU P tGU tT tTL tV tL tI tS
  rulesL : P.underlying tGRL = some (.slice tGR)
  rulesI : IsGR P tGR tGLL tGL tT tTL tV tL tI tS
end Go.Mach
namespace Go.Proofs.Ytpgakkhfjjhpdaa
open Go.Mach
end Go.Proofs.Ytpgakkhfjjhpdaa
end
section
namespace Go.Proofs.Ytpgakkhfjjhpdaa
open Go.Mach
theorem idxTerm (p : GT → Bool) (l : List GT) (g : Nat) (caps : List AV) (hl : l.length ≤ 100000000000) (σ : Heap) (hc : ∀ x ∈ l, ∀ bs, callT T g (x.enc :: caps) bs σ = some (.bool (p x), σ)) (bs : Nat) :
    callT T 87 [.isl (GT.encs l) false, .func g caps] bs σ = some (.int .i64 (idxG p l), σ) := by
  refine heap_enter (af := c87) (args' := [.isl (GT.encs l) false, .func g caps]) (σ1 := σ) rfl rfl (by simp [c87]) (by simp [c87]) rfl ?_
  simp [c87, baseA]
  refine W_for T _ 19 l.length (fun i f τ => f 0 = .isl (GT.encs l) false ∧ f 1 = .func g caps ∧ f 7 = .int .i64 (l.length : Int) ∧ f 8 = .int .i64 (i : Int) ∧ τ = σ ∧ ∀ j, (hj : j < l.length) → j < i → p l[j] = false) ?_ _ _ ?_
  · rintro i f τ hi ⟨h0, h1, h7, h8, rfl, hall⟩
    by_cases hlt : i < l.length
    · have e1 : l[i]? = some l[i] := List.getElem?_eq_getElem hlt
      have hcl := hc l[i] (List.getElem_mem hlt)
      cases hp : p l[i]
      · rw [hp] at hcl
        simp [h0, h1, h7, h8, hlt, hcl, hp, ← GT.enc_eq]
        refine ⟨wr64 (by omega) (by omega), fun j hj hji => ?_⟩
        by_cases e : j = i
        · subst e; exact hp
        · exact hall j hj (by omega)
      · rw [hp] at hcl
        simp [h0, h1, h7, h8, hlt, hcl, hp, ← GT.enc_eq, dropA_gc, refLt, res1, refLt2_bool, refLt2_int, take_1]
        simp [idxG, idxG_drop p l i hlt hall hp]
    · have he : i = l.length := by omega
      subst he
      have hn : l.findIdx? p = none := by
        rw [List.findIdx?_eq_none_iff]
        intro x hx
        obtain ⟨j, hj, rfl⟩ := List.getElem_of_mem hx
        exact hall j hj hj
      simp [h0, h1, h7, h8, idxG, hn, dropA_gc, refLt, res1, refLt2_bool, refLt2_int, take_1]
  · simp
theorem conTerm (p : GT → Bool) (l : List GT) (g : Nat) (caps : List AV) (hl : l.length ≤ 100000000000) (σ : Heap) (hc : ∀ x ∈ l, ∀ bs, callT T g (x.enc :: caps) bs σ = some (.bool (p x), σ)) (bs : Nat) :
    callT T 75 [.isl (GT.encs l) false, .func g caps] bs σ = some (.bool (sym (l.any p)), σ) := by
  have h1 := idxTerm p l g caps hl σ hc
  have h2 := idxG_any p l
  refine heap_enter (af := c75) (args' := [.isl (GT.encs l) false, .func g caps]) (σ1 := σ) rfl rfl (by simp [c75]) (by simp [c75]) rfl ?_
  simp [c75, baseA, h1, dropA_gc, refLt, res1, refLt2_bool, refLt2_int, take_1]
  refine ⟨fun h => by simpa [sym] using h2.1 h, fun h => ?_⟩
  have : ¬ l.any p = true := fun hh => by have := h2.2 hh; omega
  simpa [sym] using this
theorem allTerm1 (b : Bool) (x : GT) (g : Nat) (caps : List AV) (σ : Heap) (hc : ∀ τ bs, callT T g (x.enc :: caps) bs (σ ++ τ) = some (.bool b, σ ++ τ)) (bs : Nat) :
    callT T 76 [x.enc, .ptr σ.length 0] bs (σ ++ [.cells [.func g caps] 0 false]) = some (.bool (!b), σ ++ [.cells [.func g caps] 0 false]) := by
  have hc1 := fun o bs => hc [.cells [.func g caps] 0 false, o] bs
  refine heap_enter (af := c76) (args' := [x.enc, .ptr σ.length 0]) (σ1 := σ ++ [.cells [.func g caps] 0 false]) rfl rfl (by simp [c76]) (by simp [c76]) rfl ?_
  simp [c76, baseA, hc1, ← GT.enc_eq, setRun, dropA_gc, refLt, res1, refLt2_bool, refLt2_int, take_1]
theorem allTerm (p : GT → Bool) (l : List GT) (g : Nat) (caps : List AV) (hl : l.length ≤ 100000000000) (σ : Heap) (hc : ∀ x ∈ l, ∀ τ bs, callT T g (x.enc :: caps) bs (σ ++ τ) = some (.bool (p x), σ ++ τ)) (bs : Nat) :
    callT T 62 [.isl (GT.encs l) false, .func g caps] bs σ = some (.bool (sym (l.all p)), σ) := by
  have h1 := fun x hx => allTerm1 (p x) x g caps σ (hc x hx)
  have h2 := conTerm (fun x => !p x) l 76 [.ptr σ.length 0] hl (σ ++ [.cells [.func g caps] 0 false]) h1
  refine heap_enter (af := c62) (args' := [.isl (GT.encs l) false, .func g caps]) (σ1 := σ) rfl rfl (by simp [c62]) (by simp [c62]) rfl ?_
  rw [← not_any]
  simp [c62, baseA, h2, dropA_gc, refLt, res1, refLt2_bool, refLt2_int, take_1, setRun, sym]
theorem idxTuple (p : GU → Bool) (l : List GU) (g : Nat) (caps : List AV) (hl : l.length ≤ 100000000000) (σ : Heap) (hc : ∀ x ∈ l, ∀ bs, callT T g (x.enc :: caps) bs σ = some (.bool (p x), σ)) (bs : Nat) :
    callT T 57 [.isl (l.map GU.enc) false, .func g caps] bs σ = some (.int .i64 (idxG p l), σ) := by
  refine heap_enter (af := c57) (args' := [.isl (l.map GU.enc) false, .func g caps]) (σ1 := σ) rfl rfl (by simp [c57]) (by simp [c57]) rfl ?_
  simp [c57, baseA]
  refine W_for T _ 19 l.length (fun i f τ => f 0 = .isl (l.map GU.enc) false ∧ f 1 = .func g caps ∧ f 7 = .int .i64 (l.length : Int) ∧ f 8 = .int .i64 (i : Int) ∧ τ = σ ∧ ∀ j, (hj : j < l.length) → j < i → p l[j] = false) ?_ _ _ ?_
  · rintro i f τ hi ⟨h0, h1, h7, h8, rfl, hall⟩
    by_cases hlt : i < l.length
    · have e1 : l[i]? = some l[i] := List.getElem?_eq_getElem hlt
      have hcl := hc l[i] (List.getElem_mem hlt)
      cases hp : p l[i]
      · rw [hp] at hcl
        simp [h0, h1, h7, h8, hlt, hcl, hp, ← GU.enc_eq]
        refine ⟨wr64 (by omega) (by omega), fun j hj hji => ?_⟩
        by_cases e : j = i
        · subst e; exact hp
        · exact hall j hj (by omega)
      · rw [hp] at hcl
        simp [h0, h1, h7, h8, hlt, hcl, hp, ← GU.enc_eq, dropA_gc, refLt, res1, refLt2_bool, refLt2_int, take_1]
        simp [idxG, idxG_drop p l i hlt hall hp]
    · have he : i = l.length := by omega
      subst he
      have hn : l.findIdx? p = none := by
        rw [List.findIdx?_eq_none_iff]
        intro x hx
        obtain ⟨j, hj, rfl⟩ := List.getElem_of_mem hx
        exact hall j hj hj
      simp [h0, h1, h7, h8, idxG, hn, dropA_gc, refLt, res1, refLt2_bool, refLt2_int, take_1]
  · simp
theorem conTuple (p : GU → Bool) (l : List GU) (g : Nat) (caps : List AV) (hl : l.length ≤ 100000000000) (σ : Heap) (hc : ∀ x ∈ l, ∀ bs, callT T g (x.enc :: caps) bs σ = some (.bool (p x), σ)) (bs : Nat) :
    callT T 41 [.isl (l.map GU.enc) false, .func g caps] bs σ = some (.bool (sym (l.any p)), σ) := by
  have h1 := idxTuple p l g caps hl σ hc
  have h2 := idxG_any p l
  refine heap_enter (af := c41) (args' := [.isl (l.map GU.enc) false, .func g caps]) (σ1 := σ) rfl rfl (by simp [c41]) (by simp [c41]) rfl ?_
  simp [c41, baseA, h1, dropA_gc, refLt, res1, refLt2_bool, refLt2_int, take_1]
  refine ⟨fun h => by simpa [sym] using h2.1 h, fun h => ?_⟩
  have : ¬ l.any p = true := fun hh => by have := h2.2 hh; omega
  simpa [sym] using this
theorem allTuple1 (b : Bool) (x : GU) (g : Nat) (caps : List AV) (σ : Heap) (hc : ∀ τ bs, callT T g (x.enc :: caps) bs (σ ++ τ) = some (.bool b, σ ++ τ)) (bs : Nat) :
    callT T 42 [x.enc, .ptr σ.length 0] bs (σ ++ [.cells [.func g caps] 0 false]) = some (.bool (!b), σ ++ [.cells [.func g caps] 0 false]) := by
  have hc1 := fun o bs => hc [.cells [.func g caps] 0 false, o] bs
  refine heap_enter (af := c42) (args' := [x.enc, .ptr σ.length 0]) (σ1 := σ ++ [.cells [.func g caps] 0 false]) rfl rfl (by simp [c42]) (by simp [c42]) rfl ?_
  simp [c42, baseA, hc1, ← GU.enc_eq, setRun, dropA_gc, refLt, res1, refLt2_bool, refLt2_int, take_1]
theorem allTuple (p : GU → Bool) (l : List GU) (g : Nat) (caps : List AV) (hl : l.length ≤ 100000000000) (σ : Heap) (hc : ∀ x ∈ l, ∀ τ bs, callT T g (x.enc :: caps) bs (σ ++ τ) = some (.bool (p x), σ ++ τ)) (bs : Nat) :
    callT T 27 [.isl (l.map GU.enc) false, .func g caps] bs σ = some (.bool (sym (l.all p)), σ) := by
  have h1 := fun x hx => allTuple1 (p x) x g caps σ (hc x hx)
  have h2 := conTuple (fun x => !p x) l 42 [.ptr σ.length 0] hl (σ ++ [.cells [.func g caps] 0 false]) h1
  refine heap_enter (af := c27) (args' := [.isl (l.map GU.enc) false, .func g caps]) (σ1 := σ) rfl rfl (by simp [c27]) (by simp [c27]) rfl ?_
  rw [← not_any]
  simp [c27, baseA, h2, dropA_gc, refLt, res1, refLt2_bool, refLt2_int, take_1, setRun, sym]
theorem idxRule (p : GR → Bool) (l : List GR) (g : Nat) (caps : List AV) (hl : l.length ≤ 100000000000) (σ : Heap) (hc : ∀ x ∈ l, ∀ bs, callT T g (x.enc :: caps) bs σ = some (.bool (p x), σ)) (bs : Nat) :
    callT T 61 [.isl (l.map GR.enc) false, .func g caps] bs σ = some (.int .i64 (idxG p l), σ) := by
  refine heap_enter (af := c61) (args' := [.isl (l.map GR.enc) false, .func g caps]) (σ1 := σ) rfl rfl (by simp [c61]) (by simp [c61]) rfl ?_
  simp [c61, baseA]
  refine W_for T _ 19 l.length (fun i f τ => f 0 = .isl (l.map GR.enc) false ∧ f 1 = .func g caps ∧ f 7 = .int .i64 (l.length : Int) ∧ f 8 = .int .i64 (i : Int) ∧ τ = σ ∧ ∀ j, (hj : j < l.length) → j < i → p l[j] = false) ?_ _ _ ?_
  · rintro i f τ hi ⟨h0, h1, h7, h8, rfl, hall⟩
    by_cases hlt : i < l.length
    · have e1 : l[i]? = some l[i] := List.getElem?_eq_getElem hlt
      have hcl := hc l[i] (List.getElem_mem hlt)
      cases hp : p l[i]
      · rw [hp] at hcl
        simp [h0, h1, h7, h8, hlt, hcl, hp, ← GR.enc_eq]
        refine ⟨wr64 (by omega) (by omega), fun j hj hji => ?_⟩
        by_cases e : j = i
        · subst e; exact hp
        · exact hall j hj (by omega)
      · rw [hp] at hcl
        simp [h0, h1, h7, h8, hlt, hcl, hp, ← GR.enc_eq, dropA_gc, refLt, res1, refLt2_bool, refLt2_int, take_1]
        simp [idxG, idxG_drop p l i hlt hall hp]
    · have he : i = l.length := by omega
      subst he
      have hn : l.findIdx? p = none := by
        rw [List.findIdx?_eq_none_iff]
        intro x hx
        obtain ⟨j, hj, rfl⟩ := List.getElem_of_mem hx
        exact hall j hj hj
      simp [h0, h1, h7, h8, idxG, hn, dropA_gc, refLt, res1, refLt2_bool, refLt2_int, take_1]
  · simp
theorem conRule (p : GR → Bool) (l : List GR) (g : Nat) (caps : List AV) (hl : l.length ≤ 100000000000) (σ : Heap) (hc : ∀ x ∈ l, ∀ bs, callT T g (x.enc :: caps) bs σ = some (.bool (p x), σ)) (bs : Nat) :
    callT T 45 [.isl (l.map GR.enc) false, .func g caps] bs σ = some (.bool (sym (l.any p)), σ) := by
  have h1 := idxRule p l g caps hl σ hc
  have h2 := idxG_any p l
  refine heap_enter (af := c45) (args' := [.isl (l.map GR.enc) false, .func g caps]) (σ1 := σ) rfl rfl (by simp [c45]) (by simp [c45]) rfl ?_
  simp [c45, baseA, h1, dropA_gc, refLt, res1, refLt2_bool, refLt2_int, take_1]
  refine ⟨fun h => by simpa [sym] using h2.1 h, fun h => ?_⟩
  have : ¬ l.any p = true := fun hh => by have := h2.2 hh; omega
  simpa [sym] using this
theorem allRule1 (b : Bool) (x : GR) (g : Nat) (caps : List AV) (σ : Heap) (hc : ∀ τ bs, callT T g (x.enc :: caps) bs (σ ++ τ) = some (.bool b, σ ++ τ)) (bs : Nat) :
    callT T 46 [x.enc, .ptr σ.length 0] bs (σ ++ [.cells [.func g caps] 0 false]) = some (.bool (!b), σ ++ [.cells [.func g caps] 0 false]) := by
  have hc1 := fun o bs => hc [.cells [.func g caps] 0 false, o] bs
  refine heap_enter (af := c46) (args' := [x.enc, .ptr σ.length 0]) (σ1 := σ ++ [.cells [.func g caps] 0 false]) rfl rfl (by simp [c46]) (by simp [c46]) rfl ?_
  simp [c46, baseA, hc1, ← GR.enc_eq, setRun, dropA_gc, refLt, res1, refLt2_bool, refLt2_int, take_1]
theorem allRule (p : GR → Bool) (l : List GR) (g : Nat) (caps : List AV) (hl : l.length ≤ 100000000000) (σ : Heap) (hc : ∀ x ∈ l, ∀ τ bs, callT T g (x.enc :: caps) bs (σ ++ τ) = some (.bool (p x), σ ++ τ)) (bs : Nat) :
    callT T 29 [.isl (l.map GR.enc) false, .func g caps] bs σ = some (.bool (sym (l.all p)), σ) := by
  have h1 := fun x hx => allRule1 (p x) x g caps σ (hc x hx)
  have h2 := conRule (fun x => !p x) l 46 [.ptr σ.length 0] hl (σ ++ [.cells [.func g caps] 0 false]) h1
  refine heap_enter (af := c29) (args' := [.isl (l.map GR.enc) false, .func g caps]) (σ1 := σ) rfl rfl (by simp [c29]) (by simp [c29]) rfl ?_
  rw [← not_any]
  simp [c29, baseA, h2, dropA_gc, refLt, res1, refLt2_bool, refLt2_int, take_1, setRun, sym]
theorem idxDecl (p : GD → Bool) (l : List GD) (g : Nat) (caps : List AV) (hl : l.length ≤ 100000000000) (σ : Heap) (hc : ∀ x ∈ l, ∀ bs, callT T g (x.enc :: caps) bs σ = some (.bool (p x), σ)) (bs : Nat) :
    callT T 34 [.isl (l.map GD.enc) false, .func g caps] bs σ = some (.int .i64 (idxG p l), σ) := by
  refine heap_enter (af := c34) (args' := [.isl (l.map GD.enc) false, .func g caps]) (σ1 := σ) rfl rfl (by simp [c34]) (by simp [c34]) rfl ?_
  simp [c34, baseA]
  refine W_for T _ 19 l.length (fun i f τ => f 0 = .isl (l.map GD.enc) false ∧ f 1 = .func g caps ∧ f 7 = .int .i64 (l.length : Int) ∧ f 8 = .int .i64 (i : Int) ∧ τ = σ ∧ ∀ j, (hj : j < l.length) → j < i → p l[j] = false) ?_ _ _ ?_
  · rintro i f τ hi ⟨h0, h1, h7, h8, rfl, hall⟩
    by_cases hlt : i < l.length
    · have e1 : l[i]? = some l[i] := List.getElem?_eq_getElem hlt
      have hcl := hc l[i] (List.getElem_mem hlt)
      cases hp : p l[i]
      · rw [hp] at hcl
        simp [h0, h1, h7, h8, hlt, hcl, hp, ← GD.enc_eq]
        refine ⟨wr64 (by omega) (by omega), fun j hj hji => ?_⟩
        by_cases e : j = i
        · subst e; exact hp
        · exact hall j hj (by omega)
      · rw [hp] at hcl
        simp [h0, h1, h7, h8, hlt, hcl, hp, ← GD.enc_eq, dropA_gc, refLt, res1, refLt2_bool, refLt2_int, take_1]
        simp [idxG, idxG_drop p l i hlt hall hp]
    · have he : i = l.length := by omega
      subst he
      have hn : l.findIdx? p = none := by
        rw [List.findIdx?_eq_none_iff]
        intro x hx
        obtain ⟨j, hj, rfl⟩ := List.getElem_of_mem hx
        exact hall j hj hj
      simp [h0, h1, h7, h8, idxG, hn, dropA_gc, refLt, res1, refLt2_bool, refLt2_int, take_1]
  · simp
theorem conDecl (p : GD → Bool) (l : List GD) (g : Nat) (caps : List AV) (hl : l.length ≤ 100000000000) (σ : Heap) (hc : ∀ x ∈ l, ∀ bs, callT T g (x.enc :: caps) bs σ = some (.bool (p x), σ)) (bs : Nat) :
    callT T 50 [.isl (l.map GD.enc) false, .func g caps] bs σ = some (.bool (sym (l.any p)), σ) := by
  have h1 := idxDecl p l g caps hl σ hc
  have h2 := idxG_any p l
  refine heap_enter (af := c50) (args' := [.isl (l.map GD.enc) false, .func g caps]) (σ1 := σ) rfl rfl (by simp [c50]) (by simp [c50]) rfl ?_
  simp [c50, baseA, h1, dropA_gc, refLt, res1, refLt2_bool, refLt2_int, take_1]
  refine ⟨fun h => by simpa [sym] using h2.1 h, fun h => ?_⟩
  have : ¬ l.any p = true := fun hh => by have := h2.2 hh; omega
  simpa [sym] using this
theorem allDecl1 (b : Bool) (x : GD) (g : Nat) (caps : List AV) (σ : Heap) (hc : ∀ τ bs, callT T g (x.enc :: caps) bs (σ ++ τ) = some (.bool b, σ ++ τ)) (bs : Nat) :
    callT T 51 [x.enc, .ptr σ.length 0] bs (σ ++ [.cells [.func g caps] 0 false]) = some (.bool (!b), σ ++ [.cells [.func g caps] 0 false]) := by
  have hc1 := fun o bs => hc [.cells [.func g caps] 0 false, o] bs
  refine heap_enter (af := c51) (args' := [x.enc, .ptr σ.length 0]) (σ1 := σ ++ [.cells [.func g caps] 0 false]) rfl rfl (by simp [c51]) (by simp [c51]) rfl ?_
  simp [c51, baseA, hc1, ← GD.enc_eq, setRun, dropA_gc, refLt, res1, refLt2_bool, refLt2_int, take_1]
theorem allDecl (p : GD → Bool) (l : List GD) (g : Nat) (caps : List AV) (hl : l.length ≤ 100000000000) (σ : Heap) (hc : ∀ x ∈ l, ∀ τ bs, callT T g (x.enc :: caps) bs (σ ++ τ) = some (.bool (p x), σ ++ τ)) (bs : Nat) :
    callT T 31 [.isl (l.map GD.enc) false, .func g caps] bs σ = some (.bool (sym (l.all p)), σ) := by
  have h1 := fun x hx => allDecl1 (p x) x g caps σ (hc x hx)
  have h2 := conDecl (fun x => !p x) l 51 [.ptr σ.length 0] hl (σ ++ [.cells [.func g caps] 0 false]) h1
  refine heap_enter (af := c31) (args' := [.isl (l.map GD.enc) false, .func g caps]) (σ1 := σ) rfl rfl (by simp [c31]) (by simp [c31]) rfl ?_
  rw [← not_any]
  simp [c31, baseA, h2, dropA_gc, refLt, res1, refLt2_bool, refLt2_int, take_1, setRun, sym]
theorem idxLiteral (p : GL → Bool) (l : List GL) (g : Nat) (caps : List AV) (hl : l.length ≤ 100000000000) (σ : Heap) (hc : ∀ x ∈ l, ∀ bs, callT T g (x.enc :: caps) bs σ = some (.bool (p x), σ)) (bs : Nat) :
    callT T 68 [.isl (l.map GL.enc) false, .func g caps] bs σ = some (.int .i64 (idxG p l), σ) := by
  refine heap_enter (af := c68) (args' := [.isl (l.map GL.enc) false, .func g caps]) (σ1 := σ) rfl rfl (by simp [c68]) (by simp [c68]) rfl ?_
  simp [c68, baseA]
  refine W_for T _ 19 l.length (fun i f τ => f 0 = .isl (l.map GL.enc) false ∧ f 1 = .func g caps ∧ f 7 = .int .i64 (l.length : Int) ∧ f 8 = .int .i64 (i : Int) ∧ τ = σ ∧ ∀ j, (hj : j < l.length) → j < i → p l[j] = false) ?_ _ _ ?_
  · rintro i f τ hi ⟨h0, h1, h7, h8, rfl, hall⟩
    by_cases hlt : i < l.length
    · have e1 : l[i]? = some l[i] := List.getElem?_eq_getElem hlt
      have hcl := hc l[i] (List.getElem_mem hlt)
      cases hp : p l[i]
      · rw [hp] at hcl
        simp [h0, h1, h7, h8, hlt, hcl, hp, ← GL.enc_eq]
        refine ⟨wr64 (by omega) (by omega), fun j hj hji => ?_⟩
        by_cases e : j = i
        · subst e; exact hp
        · exact hall j hj (by omega)
      · rw [hp] at hcl
        simp [h0, h1, h7, h8, hlt, hcl, hp, ← GL.enc_eq, dropA_gc, refLt, res1, refLt2_bool, refLt2_int, take_1]
        simp [idxG, idxG_drop p l i hlt hall hp]
    · have he : i = l.length := by omega
      subst he
      have hn : l.findIdx? p = none := by
        rw [List.findIdx?_eq_none_iff]
        intro x hx
        obtain ⟨j, hj, rfl⟩ := List.getElem_of_mem hx
        exact hall j hj hj
      simp [h0, h1, h7, h8, idxG, hn, dropA_gc, refLt, res1, refLt2_bool, refLt2_int, take_1]
  · simp
theorem conLiteral (p : GL → Bool) (l : List GL) (g : Nat) (caps : List AV) (hl : l.length ≤ 100000000000) (σ : Heap) (hc : ∀ x ∈ l, ∀ bs, callT T g (x.enc :: caps) bs σ = some (.bool (p x), σ)) (bs : Nat) :
    callT T 54 [.isl (l.map GL.enc) false, .func g caps] bs σ = some (.bool (sym (l.any p)), σ) := by
  have h1 := idxLiteral p l g caps hl σ hc
  have h2 := idxG_any p l
  refine heap_enter (af := c54) (args' := [.isl (l.map GL.enc) false, .func g caps]) (σ1 := σ) rfl rfl (by simp [c54]) (by simp [c54]) rfl ?_
  simp [c54, baseA, h1, dropA_gc, refLt, res1, refLt2_bool, refLt2_int, take_1]
  refine ⟨fun h => by simpa [sym] using h2.1 h, fun h => ?_⟩
  have : ¬ l.any p = true := fun hh => by have := h2.2 hh; omega
  simpa [sym] using this
theorem allLiteral1 (b : Bool) (x : GL) (g : Nat) (caps : List AV) (σ : Heap) (hc : ∀ τ bs, callT T g (x.enc :: caps) bs (σ ++ τ) = some (.bool b, σ ++ τ)) (bs : Nat) :
    callT T 64 [x.enc, .ptr σ.length 0] bs (σ ++ [.cells [.func g caps] 0 false]) = some (.bool (!b), σ ++ [.cells [.func g caps] 0 false]) := by
  have hc1 := fun o bs => hc [.cells [.func g caps] 0 false, o] bs
  refine heap_enter (af := c64) (args' := [x.enc, .ptr σ.length 0]) (σ1 := σ ++ [.cells [.func g caps] 0 false]) rfl rfl (by simp [c64]) (by simp [c64]) rfl ?_
  simp [c64, baseA, hc1, ← GL.enc_eq, setRun, dropA_gc, refLt, res1, refLt2_bool, refLt2_int, take_1]
theorem allLiteral (p : GL → Bool) (l : List GL) (g : Nat) (caps : List AV) (hl : l.length ≤ 100000000000) (σ : Heap) (hc : ∀ x ∈ l, ∀ τ bs, callT T g (x.enc :: caps) bs (σ ++ τ) = some (.bool (p x), σ ++ τ)) (bs : Nat) :
    callT T 48 [.isl (l.map GL.enc) false, .func g caps] bs σ = some (.bool (sym (l.all p)), σ) := by
  have h1 := fun x hx => allLiteral1 (p x) x g caps σ (hc x hx)
  have h2 := conLiteral (fun x => !p x) l 64 [.ptr σ.length 0] hl (σ ++ [.cells [.func g caps] 0 false]) h1
  refine heap_enter (af := c48) (args' := [.isl (l.map GL.enc) false, .func g caps]) (σ1 := σ) rfl rfl (by simp [c48]) (by simp [c48]) rfl ?_
  rw [← not_any]
  simp [c48, baseA, h2, dropA_gc, refLt, res1, refLt2_bool, refLt2_int, take_1, setRun, sym]
end Go.Proofs.Ytpgakkhfjjhpdaa
end
section
namespace Go.Proofs.Ytpgakkhfjjhpdaa
open Go.Mach
abbrev sCons : ByteArray := ⟨#[102, 95, 99, 111, 110, 115]⟩
abbrev sAppend : ByteArray := ⟨#[102, 95, 97, 112, 112, 101, 110, 100]⟩
abbrev sConcat : ByteArray := ⟨#[102, 95, 99, 111, 110, 99, 97, 116]⟩
abbrev sMember : ByteArray := ⟨#[102, 95, 109, 101, 109, 98, 101, 114]⟩
abbrev sSize : ByteArray := ⟨#[102, 95, 115, 105, 122, 101]⟩
abbrev sFirst : ByteArray := ⟨#[102, 95, 102, 105, 114, 115, 116]⟩
abbrev sLast : ByteArray := ⟨#[102, 95, 108, 97, 115, 116]⟩
abbrev sRest : ByteArray := ⟨#[102, 95, 114, 101, 115, 116]⟩
abbrev sReverse : ByteArray := ⟨#[102, 95, 114, 101, 118, 101, 114, 115, 101]⟩
def arityOf (s : ByteArray) : Int :=
  if s = sCons ∨ s = sAppend ∨ s = sConcat ∨ s = sMember then 2
  else if s = sSize ∨ s = sFirst ∨ s = sLast ∨ s = sRest ∨ s = sReverse then 1 else -1
end Go.Proofs.Ytpgakkhfjjhpdaa
end
section
namespace Go.Proofs.Ytpgakkhfjjhpdaa
open Go.Mach
theorem end_ok (b : Bool) : pureT T c84 [.bool b] = some (.func 96 [.iptr [.bool b] 0]) := by
  apply pure_enter (by simp [c84])
  simp [c84, frz, res1]
theorem callEnd (b : Bool) (bs : Nat) (σ : Heap) : callT T 84 [.bool b] bs σ = some (.func 96 [.iptr [.bool b] 0], σ) := call_clean rfl rfl rfl (by simp) (end_ok b)
def findV (s : ByteArray) : AV :=
  if s = sCons then .agg [.int .i64 2, .int .i64 1, .func 79 []]
  else if s = sAppend then .agg [.int .i64 2, .int .i64 0, .func 80 []]
  else if s = sConcat then .agg [.int .i64 2, .int .i64 0, .func 81 []]
  else if s = sMember then .agg [.int .i64 2, .int .i64 0, .func 82 []]
  else if s = sSize then .agg [.int .i64 1, .int .i64 0, .func 83 []]
  else if s = sFirst then .agg [.int .i64 1, .int .i64 0, .func 96 [.iptr [.bool false] 0]]
  else if s = sLast then .agg [.int .i64 1, .int .i64 0, .func 96 [.iptr [.bool true] 0]]
  else if s = sRest then .agg [.int .i64 1, .int .i64 0, .func 85 []]
  else if s = sReverse then .agg [.int .i64 1, .int .i64 0, .func 86 []]
  else .agg [.int .i64 (-1), .int .i64 0, .nilfunc]
theorem find_ok (s : ByteArray) : pureT T c67 [.str s] = some (findV s) := by
  apply pure_enter (by simp [c67])
  unfold findV
  by_cases h1 : s = sCons
  · subst h1; simp [c67, setRun]
  by_cases h2 : s = sAppend
  · subst h2; simp [c67, setRun]
  by_cases h3 : s = sConcat
  · subst h3; simp [c67, setRun]
  by_cases h4 : s = sMember
  · subst h4; simp [c67, setRun]
  by_cases h5 : s = sSize
  · subst h5; simp [c67, setRun]
  by_cases h6 : s = sFirst
  · subst h6; simp [c67, setRun, callEnd]
  by_cases h7 : s = sLast
  · subst h7; simp [c67, setRun, callEnd]
  by_cases h8 : s = sRest
  · subst h8; simp [c67, setRun]
  by_cases h9 : s = sReverse
  · subst h9; simp [c67, setRun]
  simp [c67, setRun, h1, h2, h3, h4, h5, h6, h7, h8, h9]
theorem callFind (s : ByteArray) (bs : Nat) (σ : Heap) : callT T 67 [.str s] bs σ = some (findV s, σ) := call_clean rfl rfl rfl (by simp) (find_ok s)
theorem bArity (s : ByteArray) (bs : Nat) (σ : Heap) : callT T 53 [.str s] bs σ = some (.int .i64 (arityOf s), σ) := call_clean rfl rfl rfl rfl (by
  apply pure_enter (by simp [c53])
  have h := callFind s
  unfold findV at h
  unfold arityOf
  by_cases h1 : s = sCons
  · subst h1; simp at h; simp [c53, h, setRun]; try decide
  by_cases h2 : s = sAppend
  · subst h2; simp at h; simp [c53, h, setRun]; try decide
  by_cases h3 : s = sConcat
  · subst h3; simp at h; simp [c53, h, setRun]; try decide
  by_cases h4 : s = sMember
  · subst h4; simp at h; simp [c53, h, setRun]; try decide
  by_cases h5 : s = sSize
  · subst h5; simp at h; simp [c53, h, setRun]; try decide
  by_cases h6 : s = sFirst
  · subst h6; simp at h; simp [c53, h, setRun]; try decide
  by_cases h7 : s = sLast
  · subst h7; simp at h; simp [c53, h, setRun]; try decide
  by_cases h8 : s = sRest
  · subst h8; simp at h; simp [c53, h, setRun]; try decide
  by_cases h9 : s = sReverse
  · subst h9; simp at h; simp [c53, h, setRun]; try decide
  simp [h1, h2, h3, h4, h5, h6, h7, h8, h9] at h
  simp [c53, h, setRun, h1, h2, h3, h4, h5, h6, h7, h8, h9])
end Go.Proofs.Ytpgakkhfjjhpdaa
end
section
namespace Go.Proofs.Ytpgakkhfjjhpdaa
open Go.Mach
def upB (c : Nat) : Bool := decide (65 ≤ c) && decide (c ≤ 90)
def varL : List UInt8 → Bool
  | [] => false
  | c :: l => upB c.toNat && l.all (fun c => upB c.toNat || innerB c.toNat)
def varOK (t : ByteArray) : Bool := varL t.data.toList && decide (t.size ≤ 16)
def sMat : ByteArray := ⟨#[109, 97, 116, 101, 114, 105, 97, 108, 105, 122, 101]⟩
def relOK (s : ByteArray) : Bool := nameOK s && decide (arityOf s < 0) && decide (s ≠ sMat)
abbrev nil0 : GV := .mk 0 0 ⟨#[]⟩ []
def bareV (v : GV) : Bool := decide (v.kind = 0 ∧ v.num = 0 ∧ v.text = ⟨#[]⟩ ∧ v.items.length = 0)
def opOK (n : ByteArray) : Bool := decide (n = ⟨#[43]⟩ ∨ n = ⟨#[45]⟩ ∨ n = ⟨#[42]⟩)
def termB (t : GT) (ar : Bool) : Bool :=
  if t.kind = 1 then bareV t.value && decide (t.args.length = 0) && varOK t.name
  else if t.kind = 2 then rightT t.value && decide (t.args.length = 0) && decide (t.name = ⟨#[]⟩) && (decide (t.value.kind ≠ 3) || decide (arityOf t.value.text < 0))
  else if t.kind = 3 then bareV t.value && decide (arityOf t.name = t.args.length) && ar
  else if t.kind = 4 then bareV t.value && decide (t.args.length = 2) && opOK t.name && ar
  else false
def termR : Nat → GT → Bool
  | 0, _ => false
  | d + 1, t => termB t (t.args.all (termR d))
theorem bareV_eq {v : GV} (h : bareV v = true) : v = nil0 := by
  obtain ⟨k, n, t, l⟩ := v
  have := of_decide_eq_true h
  obtain ⟨h1, h2, h3, h4⟩ := this
  have h4 := List.length_eq_zero_iff.1 h4
  show GV.mk k n t l = nil0
  have e1 : k = 0 := h1
  have e2 : n = 0 := h2
  have e3 : t = ⟨#[]⟩ := h3
  have e4 : l = [] := h4
  rw [e1, e2, e3, e4]
theorem term_cases {d : Nat} {t : GT} (h : termR d t = true) : 0 < d ∧ ((∃ n, t = .mk 1 n nil0 [] ∧ varOK n = true) ∨ (∃ v, t = .mk 2 ⟨#[]⟩ v [] ∧ rightT v = true ∧ (v.kind ≠ 3 ∨ arityOf v.text < 0))
    ∨ (∃ n l, t = .mk 3 n nil0 l ∧ arityOf n = (l.length : Int) ∧ ∀ x ∈ l, termR (d - 1) x = true) ∨ (∃ n l, t = .mk 4 n nil0 l ∧ opOK n = true ∧ l.length = 2 ∧ ∀ x ∈ l, termR (d - 1) x = true)) := by
  obtain ⟨k, n, v, l⟩ := t
  cases d with
  | zero => cases h
  | succ d =>
    refine ⟨by omega, ?_⟩
    simp only [termR, termB, GT.kind, GT.name, GT.value, GT.args] at h
    split at h
    · rename_i hk; subst hk
      simp only [Bool.and_eq_true, decide_eq_true_eq] at h
      rw [bareV_eq h.1.1, List.length_eq_zero_iff.1 h.1.2]
      exact .inl ⟨n, rfl, h.2⟩
    split at h
    · rename_i hk; subst hk
      simp only [Bool.and_eq_true, Bool.or_eq_true, decide_eq_true_eq] at h
      rw [List.length_eq_zero_iff.1 h.1.1.2, h.1.2]
      exact .inr (.inl ⟨v, rfl, h.1.1.1, h.2⟩)
    split at h
    · rename_i hk; subst hk
      simp only [Bool.and_eq_true, decide_eq_true_eq, List.all_eq_true] at h
      rw [bareV_eq h.1.1]
      exact .inr (.inr (.inl ⟨n, l, rfl, h.1.2, fun x hx => h.2 x hx⟩))
    split at h
    · rename_i hk; subst hk
      simp only [Bool.and_eq_true, decide_eq_true_eq, List.all_eq_true] at h
      rw [bareV_eq h.1.1.1]
      exact .inr (.inr (.inr ⟨n, l, rfl, h.1.2, h.1.1.2, fun x hx => h.2 x hx⟩))
    · cases h
mutual
def shT : GT → List UInt8
  | .mk k n v l => if k = 1 then n.data.toList else if k = 2 then pr v else if k = 3 then n.data.toList ++ 40 :: (shTs [44] l ++ [41]) else 40 :: (shTs n.data.toList l ++ [41])
def shTs (sep : List UInt8) : List GT → List UInt8
  | [] => []
  | x :: l => shT x ++ shTc sep l
def shTc (sep : List UInt8) : List GT → List UInt8
  | [] => []
  | x :: l => sep ++ (shT x ++ shTc sep l)
end
theorem stop_of {p : UInt8 → Bool} {c : UInt8} {r : List UInt8} (h : p c = false) : stopP p (c :: r) := fun x hx => by simp at hx; subst hx; exact h
theorem digit_inn {c : UInt8} (h : digitB c = true) : innC c = true := by
  simp only [digitB, decide_eq_true_eq] at h
  simp only [innC, innerB, Bool.or_eq_true, Bool.and_eq_true, decide_eq_true_eq]; omega
theorem stop_digit {r : List UInt8} (h : stopP innC r) : stopP digitB r := fun c hc => by
  have := h c hc
  cases hd : digitB c with
  | false => rfl
  | true => rw [digit_inn hd] at this; cases this
theorem itoa_split {m n : Int} {r s : List UInt8} (hr : stopP innC r) (hs : stopP innC s) (h : Lib.itoa m ++ r = Lib.itoa n ++ s) : m = n ∧ r = s := by
  obtain ⟨a1, a2, a3⟩ := decDigits_spec m.natAbs m.natAbs (Nat.le_refl _)
  obtain ⟨b1, b2, b3⟩ := decDigits_spec m.toNat m.toNat (Nat.le_refl _)
  obtain ⟨c1, c2, c3⟩ := decDigits_spec n.natAbs n.natAbs (Nat.le_refl _)
  obtain ⟨d1, d2, d3⟩ := decDigits_spec n.toNat n.toNat (Nat.le_refl _)
  have hnd : ∀ (l k : List UInt8) (x y : List UInt8), l ≠ [] → (∀ c ∈ l, digitB c = true) → ¬ (45 :: x = l ++ y) := fun l k x y hl hd h => by
    cases l with
    | nil => exact hl rfl
    | cons c l =>
      simp only [List.cons_append, List.cons.injEq] at h
      have := hd c (by simp)
      rw [← h.1] at this; simp [digitB] at this
  have hr := stop_digit hr
  have hs := stop_digit hs
  unfold Lib.itoa at h
  split at h <;> split at h
  · simp only [List.cons_append, List.cons.injEq, true_and] at h
    obtain ⟨h1, h2⟩ := span_eq digitB _ _ _ _ a2 c2 hr hs h
    rw [h1, c1] at a1; exact ⟨by omega, h2⟩
  · simp only [List.cons_append] at h
    exact absurd h (hnd _ [] _ _ d3 d2)
  · simp only [List.cons_append] at h
    exact absurd h.symm (hnd _ [] _ _ b3 b2)
  · obtain ⟨h1, h2⟩ := span_eq digitB _ _ _ _ b2 d2 hr hs h
    rw [h1, d1] at b1; exact ⟨by omega, h2⟩
theorem v_split {a b : GV} {r s : List UInt8} (ha : rightT a = true) (hb : rightT b = true) (hr : stopP innC r) (hs : stopP innC s) (h : pr a ++ r = pr b ++ s) : a = b ∧ r = s := by
  obtain ⟨c1, l1, e1, k1⟩ := pr_head ha
  obtain ⟨c2, l2, e2, k2⟩ := pr_head hb
  have hc : c1 = c2 := by rw [e1, e2] at h; simp only [List.cons_append, List.cons.injEq] at h; exact h.1
  subst hc
  have hk := head_apart k1 k2
  rcases right_cases ha with ⟨n1, rfl, _, _⟩ | ⟨t1, rfl, ht1⟩ | ⟨t1, rfl, ht1⟩ | ⟨l1', rfl, hd1, _, hl1⟩ <;> rcases right_cases hb with ⟨n2, rfl, _, _⟩ | ⟨t2, rfl, ht2⟩ | ⟨t2, rfl, ht2⟩ | ⟨l2', rfl, hd2, _, hl2⟩ <;> first
    | (exfalso; simp [GV.kind] at hk; done)
    | skip
  · simp only [pr, if_true] at h
    obtain ⟨rfl, h2⟩ := itoa_split hr hs h
    exact ⟨rfl, h2⟩
  · have p1 : pr (.mk 2 0 t1 []) = 34 :: (t1.data.toList ++ [34]) := by simp [pr]
    have p2 : pr (.mk 2 0 t2 []) = 34 :: (t2.data.toList ++ [34]) := by simp [pr]
    rw [p1, p2] at h
    simp only [List.cons_append, List.cons.injEq, true_and, List.append_assoc, List.nil_append] at h
    obtain ⟨h1, h2⟩ := span_eq (fun c => c != 34) _ _ _ _ (text_list ht1) (text_list ht2) (fun c hc => by simp at hc; subst hc; rfl) (fun c hc => by simp at hc; subst hc; rfl) h
    injection h2 with _ h2
    exact ⟨by rw [bytes_ext h1], h2⟩
  · have p1 : pr (.mk 3 0 t1 []) = t1.data.toList := by simp [pr]
    have p2 : pr (.mk 3 0 t2 []) = t2.data.toList := by simp [pr]
    rw [p1, p2] at h
    obtain ⟨c1, m1, q1, _, i1⟩ := name_list ht1
    obtain ⟨c2, m2, q2, _, i2⟩ := name_list ht2
    obtain ⟨h1, h2⟩ := span_eq innC _ _ _ _ (by rw [q1]; exact i1) (by rw [q2]; exact i2) hr hs h
    exact ⟨by rw [bytes_ext h1], h2⟩
  · have p1 : pr (.mk 4 0 ⟨#[]⟩ l1') = 91 :: (prs l1' ++ [93]) := by simp [pr]
    have p2 : pr (.mk 4 0 ⟨#[]⟩ l2') = 91 :: (prs l2' ++ [93]) := by simp [pr]
    rw [p1, p2] at h
    simp only [List.cons_append, List.cons.injEq, true_and, List.append_assoc, List.nil_append] at h
    obtain ⟨h1, h2⟩ := prs_split l1' l2' _ _ r s hl1 hl2 h
    exact ⟨by rw [h1], h2⟩
def varC (c : UInt8) : Bool := upB c.toNat || innerB c.toNat
theorem var_list {t : ByteArray} (h : varOK t = true) : ∃ c l, t.data.toList = c :: l ∧ upB c.toNat = true ∧ ∀ x ∈ c :: l, varC x = true := by
  simp only [varOK, Bool.and_eq_true] at h
  match hl : t.data.toList, h.1 with
  | c :: l, h1 =>
    simp only [varL, Bool.and_eq_true, List.all_eq_true] at h1
    refine ⟨c, l, rfl, h1.1, fun x hx => ?_⟩
    rcases List.mem_cons.1 hx with rfl | hx
    · simp [varC, h1.1]
    · exact h1.2 x hx
  | [], h1 => simp [varL] at h1
theorem fn_name {n : ByteArray} (h : 0 ≤ arityOf n) : nameOK n = true := by
  unfold arityOf at h
  split at h
  · rename_i hn; rcases hn with rfl | rfl | rfl | rfl <;> decide +kernel
  split at h
  · rename_i hn; rcases hn with rfl | rfl | rfl | rfl | rfl <;> decide +kernel
  · omega
theorem th_head {d : Nat} {t : GT} (h : termR d t = true) : ∃ c l, shT t = c :: l ∧ ((t.kind = 1 ∧ upB c.toNat = true) ∨ (t.kind = 2 ∧ (numB c = true ∨ c = 34 ∨ letterB c.toNat = true ∨ c = 91)) ∨ (t.kind = 3 ∧ letterB c.toNat = true) ∨ (t.kind = 4 ∧ c = 40)) := by
  obtain ⟨hd, ⟨n, rfl, hn⟩ | ⟨v, rfl, hv, _⟩ | ⟨n, l, rfl, hn, _⟩ | ⟨n, l, rfl, _⟩⟩ := term_cases h
  · obtain ⟨c, l, e, h1, _⟩ := var_list hn
    exact ⟨c, l, by simp [shT, e], .inl ⟨rfl, h1⟩⟩
  · obtain ⟨c, l, e, k⟩ := pr_head hv
    exact ⟨c, l, by simp [shT, e], .inr (.inl ⟨rfl, by rcases k with ⟨_, k⟩ | ⟨_, k⟩ | ⟨_, k⟩ | ⟨_, k⟩ <;> simp [k]⟩)⟩
  · obtain ⟨c, m, e, h1, _⟩ := name_list (fn_name (n := n) (by omega))
    exact ⟨c, _, by simp [shT, e]; rfl, .inr (.inr (.inl ⟨rfl, h1⟩))⟩
  · exact ⟨40, _, by simp [shT]; rfl, .inr (.inr (.inr ⟨rfl, rfl⟩))⟩
theorem inn_var {c : UInt8} (h : innC c = true) : varC c = true := by simp only [innC] at h; simp [varC, h]
theorem stop_inn {r : List UInt8} (h : stopP varC r) : stopP innC r := fun c hc => by
  have := h c hc
  cases hd : innC c with
  | false => rfl
  | true => rw [inn_var hd] at this; cases this
theorem pr_letter {v : GV} {c : UInt8} {l : List UInt8} (hv : rightT v = true) (h : pr v = c :: l) (hc : letterB c.toNat = true) : ∃ t, v = .mk 3 0 t [] ∧ nameOK t = true := by
  obtain ⟨c1, l1, e1, k1⟩ := pr_head hv
  rw [h] at e1
  simp only [List.cons.injEq] at e1
  obtain ⟨rfl, _⟩ := e1
  have hk := head_apart k1 (.inr (.inr (.inl ⟨rfl, hc⟩)) : ((3 : Int) = 1 ∧ numB c = true) ∨ ((3 : Int) = 2 ∧ c = 34) ∨ ((3 : Int) = 3 ∧ letterB c.toNat = true) ∨ ((3 : Int) = 4 ∧ c = 91))
  rcases right_cases hv with ⟨n1, rfl, _, _⟩ | ⟨t1, rfl, ht1⟩ | ⟨t1, rfl, ht1⟩ | ⟨l1', rfl, hd1, _, hl1⟩
  · simp [GV.kind] at hk
  · simp [GV.kind] at hk
  · exact ⟨t1, rfl, ht1⟩
  · simp [GV.kind] at hk
theorem th_apart {c : UInt8} {k k2 : Int} (h : (k = 1 ∧ upB c.toNat = true) ∨ (k = 2 ∧ (numB c = true ∨ c = 34 ∨ letterB c.toNat = true ∨ c = 91)) ∨ (k = 3 ∧ letterB c.toNat = true) ∨ (k = 4 ∧ c = 40))
    (h2 : (k2 = 1 ∧ upB c.toNat = true) ∨ (k2 = 2 ∧ (numB c = true ∨ c = 34 ∨ letterB c.toNat = true ∨ c = 91)) ∨ (k2 = 3 ∧ letterB c.toNat = true) ∨ (k2 = 4 ∧ c = 40)) : k = k2 ∨ ((k = 2 ∧ k2 = 3 ∨ k = 3 ∧ k2 = 2) ∧ letterB c.toNat = true) := by
  have e1 : numB c = true → c.toNat = 45 ∨ (48 ≤ c.toNat ∧ c.toNat ≤ 57) := fun h => by
    simp only [numB, digitB, Bool.or_eq_true, decide_eq_true_eq] at h
    rcases h with h | rfl
    · exact .inr h
    · exact .inl rfl
  have e2 : upB c.toNat = true → 65 ≤ c.toNat ∧ c.toNat ≤ 90 := fun h => by simpa [upB] using h
  have e3 : letterB c.toNat = true → 97 ≤ c.toNat ∧ c.toNat ≤ 122 := fun h => by simpa [letterB] using h
  have e4 : c = 34 → c.toNat = 34 := fun h => by rw [h]; rfl
  have e5 : c = 91 → c.toNat = 91 := fun h => by rw [h]; rfl
  have e6 : c = 40 → c.toNat = 40 := fun h => by rw [h]; rfl
  rcases h with ⟨rfl, h⟩ | ⟨rfl, h⟩ | ⟨rfl, h⟩ | ⟨rfl, h⟩ <;> rcases h2 with ⟨rfl, h2⟩ | ⟨rfl, h2⟩ | ⟨rfl, h2⟩ | ⟨rfl, h2⟩ <;> first
    | exact .inl rfl
    | exact .inr ⟨.inl ⟨rfl, rfl⟩, h2⟩
    | exact .inr ⟨.inr ⟨rfl, rfl⟩, h⟩
    | (exfalso; grind)
theorem op_char {n : ByteArray} (h : opOK n = true) : ∃ c, n.data.toList = [c] ∧ varC c = false ∧ c ≠ 41 := by
  rcases of_decide_eq_true h with rfl | rfl | rfl
  · exact ⟨43, rfl, by decide, by decide⟩
  · exact ⟨45, rfl, by decide, by decide⟩
  · exact ⟨42, rfl, by decide, by decide⟩
theorem stop_tc {c : UInt8} (hc : varC c = false) (l : List GT) (r : List UInt8) : stopP varC (shTc [c] l ++ 41 :: r) := by
  cases l with
  | nil => exact stop_of (by decide)
  | cons x l => exact stop_of hc
theorem th_not41 {d : Nat} {t : GT} (h : termR d t = true) (r s : List UInt8) : ¬ (shT t ++ r = 41 :: s) := by
  obtain ⟨c, l, e, k⟩ := th_head h
  intro hh
  rw [e] at hh
  simp only [List.cons_append, List.cons.injEq] at hh
  have := hh.1; subst this
  rcases k with ⟨_, k⟩ | ⟨_, k⟩ | ⟨_, k⟩ | ⟨_, k⟩
  · revert k; decide
  · rcases k with k | k | k | k <;> revert k <;> decide
  · revert k; decide
  · revert k; decide
mutual
theorem t_split : ∀ (a b : GT) (d e : Nat) (r s : List UInt8), termR d a = true → termR e b = true → stopP varC r → stopP varC s → shT a ++ r = shT b ++ s → a = b ∧ r = s
  | .mk k n v l, b, d, e, r, s, ha, hb, hr, hs, h => by
    obtain ⟨c1, l1, e1, k1⟩ := th_head ha
    obtain ⟨c2, l2, e2, k2⟩ := th_head hb
    have hc : c1 = c2 := by rw [e1, e2] at h; simp only [List.cons_append, List.cons.injEq] at h; exact h.1
    subst hc
    have hk := th_apart k1 k2
    obtain ⟨_, ha'⟩ := term_cases ha
    obtain ⟨_, hb'⟩ := term_cases hb
    rcases ha' with ⟨n1, ea, hn1⟩ | ⟨v1, ea, hv1, hx1⟩ | ⟨n1, m1, ea, hn1, hm1⟩ | ⟨n1, m1, ea, hn1, hm1, hy1⟩ <;> rcases hb' with ⟨n2, eb, hn2⟩ | ⟨v2, eb, hv2, hx2⟩ | ⟨n2, m2, eb, hn2, hm2⟩ | ⟨n2, m2, eb, hn2, hm2, hy2⟩ <;> injection ea with ea1 ea2 ea3 ea4 <;> subst ea1 ea2 ea3 ea4 <;> subst eb <;> first
      | (exfalso; simp [GT.kind] at hk; done)
      | skip
    · have p1 : shT (.mk 1 n nil0 []) = n.data.toList := by simp [shT]
      have p2 : shT (.mk 1 n2 nil0 []) = n2.data.toList := by simp [shT]
      rw [p1, p2] at h
      obtain ⟨x1, m1, q1, _, i1⟩ := var_list hn1
      obtain ⟨x2, m2, q2, _, i2⟩ := var_list hn2
      obtain ⟨h1, h2⟩ := span_eq varC _ _ _ _ (by rw [q1]; exact i1) (by rw [q2]; exact i2) hr hs h
      exact ⟨by rw [bytes_ext h1], h2⟩
    · have p1 : shT (.mk 2 ⟨#[]⟩ v []) = pr v := by simp [shT]
      have p2 : shT (.mk 2 ⟨#[]⟩ v2 []) = pr v2 := by simp [shT]
      rw [p1, p2] at h
      obtain ⟨rfl, h2⟩ := v_split hv1 hv2 (stop_inn hr) (stop_inn hs) h
      exact ⟨rfl, h2⟩
    · exfalso
      have hl : letterB c1.toNat = true := by simpa [GT.kind] using hk
      have p1 : shT (.mk 2 ⟨#[]⟩ v []) = pr v := by simp [shT]
      have p2 : shT (.mk 3 n2 nil0 m2) = n2.data.toList ++ 40 :: (shTs [44] m2 ++ [41]) := by simp [shT]
      rw [p1] at e1 h
      obtain ⟨t, rfl, ht⟩ := pr_letter hv1 e1 hl
      have p3 : pr (.mk 3 0 t []) = t.data.toList := by simp [pr]
      rw [p3, p2, List.append_assoc] at h
      obtain ⟨x1, m1, q1, _, i1⟩ := name_list ht
      obtain ⟨x2, m2, q2, _, i2⟩ := name_list (fn_name (n := n2) (by omega))
      obtain ⟨h1, h2⟩ := span_eq innC _ _ _ _ (by rw [q1]; exact i1) (by rw [q2]; exact i2) (stop_inn hr) (stop_of (by decide)) h
      have := bytes_ext h1
      subst this
      rcases hx1 with hx | hx
      · exact hx rfl
      · have hx : arityOf t < 0 := hx
        omega
    · exfalso
      have hl : letterB c1.toNat = true := by simpa [GT.kind] using hk
      have p1 : shT (.mk 2 ⟨#[]⟩ v2 []) = pr v2 := by simp [shT]
      have p2 : shT (.mk 3 n nil0 l) = n.data.toList ++ 40 :: (shTs [44] l ++ [41]) := by simp [shT]
      rw [p1] at e2 h
      obtain ⟨t, rfl, ht⟩ := pr_letter hv2 e2 hl
      have p3 : pr (.mk 3 0 t []) = t.data.toList := by simp [pr]
      rw [p3, p2, List.append_assoc] at h
      obtain ⟨x1, m1, q1, _, i1⟩ := name_list ht
      obtain ⟨x2, m2, q2, _, i2⟩ := name_list (fn_name (n := n) (by omega))
      obtain ⟨h1, h2⟩ := span_eq innC _ _ _ _ (by rw [q1]; exact i1) (by rw [q2]; exact i2) (stop_inn hs) (stop_of (by decide)) h.symm
      have := bytes_ext h1
      subst this
      rcases hx2 with hx | hx
      · exact hx rfl
      · have hx : arityOf t < 0 := hx
        omega
    · have p1 : shT (.mk 3 n nil0 l) = n.data.toList ++ 40 :: (shTs [44] l ++ [41]) := by simp [shT]
      have p2 : shT (.mk 3 n2 nil0 m2) = n2.data.toList ++ 40 :: (shTs [44] m2 ++ [41]) := by simp [shT]
      rw [p1, p2, List.append_assoc, List.append_assoc] at h
      obtain ⟨x1, m1, q1, _, i1⟩ := name_list (fn_name (n := n) (by omega))
      obtain ⟨x2, m2, q2, _, i2⟩ := name_list (fn_name (n := n2) (by omega))
      obtain ⟨h1, h2⟩ := span_eq innC _ _ _ _ (by rw [q1]; exact i1) (by rw [q2]; exact i2) (stop_of (by decide)) (stop_of (by decide)) h
      simp only [List.cons_append, List.append_eq, List.cons.injEq, true_and, List.append_assoc, List.nil_append] at h2
      obtain ⟨h3, h4, _⟩ := ts_split l _ (d - 1) (e - 1) 44 44 r s hm1 hm2 (by decide) (by decide) (by decide) (by decide) h2
      exact ⟨by rw [bytes_ext h1, h3], h4⟩
    · have p1 : shT (.mk 4 n nil0 l) = 40 :: (shTs n.data.toList l ++ [41]) := by simp [shT]
      have p2 : shT (.mk 4 n2 nil0 m2) = 40 :: (shTs n2.data.toList m2 ++ [41]) := by simp [shT]
      obtain ⟨x1, q1, z1, w1⟩ := op_char hn1
      obtain ⟨x2, q2, z2, w2⟩ := op_char hn2
      rw [p1, p2, q1, q2] at h
      simp only [List.cons_append, List.cons.injEq, true_and, List.append_assoc, List.nil_append] at h
      obtain ⟨h3, h4, h5⟩ := ts_split l _ (d - 1) (e - 1) x1 x2 r s hy1 hy2 z1 z2 w1 w2 h
      have hxx := h5 (by omega)
      subst hxx
      have : n = n2 := bytes_ext (by rw [q1, q2])
      exact ⟨by rw [this, h3], h4⟩
theorem ts_split : ∀ (a b : List GT) (d e : Nat) (c c' : UInt8) (r s : List UInt8), (∀ x ∈ a, termR d x = true) → (∀ x ∈ b, termR e x = true) → varC c = false → varC c' = false → c ≠ 41 → c' ≠ 41 →
    shTs [c] a ++ 41 :: r = shTs [c'] b ++ 41 :: s → a = b ∧ r = s ∧ (2 ≤ a.length → c = c')
  | [], [], d, e, c, c', r, s, _, _, _, _, _, _, h => ⟨rfl, by simpa [shTs] using h, fun h => by simp at h⟩
  | [], y :: b, d, e, c, c', r, s, _, hb, _, _, _, _, h => by
    exfalso
    simp only [shTs, List.nil_append, List.append_assoc] at h
    exact th_not41 (hb y (by simp)) _ _ h.symm
  | x :: a, [], d, e, c, c', r, s, ha, _, _, _, _, _, h => by
    exfalso
    simp only [shTs, List.nil_append, List.append_assoc] at h
    exact th_not41 (ha x (by simp)) _ _ h
  | x :: a, y :: b, d, e, c, c', r, s, ha, hb, z1, z2, w1, w2, h => by
    simp only [shTs, List.append_assoc] at h
    obtain ⟨h0, h1⟩ := t_split x y d e _ _ (ha x (by simp)) (hb y (by simp)) (stop_tc z1 a r) (stop_tc z2 b s) h
    obtain ⟨h2, h3, h4⟩ := tc_split a b d e c c' r s (fun z hz => ha z (by simp [hz])) (fun z hz => hb z (by simp [hz])) z1 z2 w1 w2 h1
    exact ⟨by rw [h0, h2], h3, fun hl => h4 (by rintro rfl; simp at hl)⟩
theorem tc_split : ∀ (a b : List GT) (d e : Nat) (c c' : UInt8) (r s : List UInt8), (∀ x ∈ a, termR d x = true) → (∀ x ∈ b, termR e x = true) → varC c = false → varC c' = false → c ≠ 41 → c' ≠ 41 →
    shTc [c] a ++ 41 :: r = shTc [c'] b ++ 41 :: s → a = b ∧ r = s ∧ (a ≠ [] → c = c')
  | [], [], d, e, c, c', r, s, _, _, _, _, _, _, h => ⟨rfl, by simpa [shTc] using h, fun h => absurd rfl h⟩
  | [], y :: b, d, e, c, c', r, s, _, hb, _, _, _, w2, h => by
    exfalso
    simp only [shTc, List.nil_append, List.cons_append, List.cons.injEq] at h
    exact w2 h.1.symm
  | x :: a, [], d, e, c, c', r, s, ha, _, _, _, w1, _, h => by
    exfalso
    simp only [shTc, List.nil_append, List.cons_append, List.cons.injEq] at h
    exact w1 h.1
  | x :: a, y :: b, d, e, c, c', r, s, ha, hb, z1, z2, w1, w2, h => by
    simp only [shTc, List.cons_append, List.nil_append, List.cons.injEq, List.append_assoc] at h
    obtain ⟨hc, h⟩ := h
    obtain ⟨h0, h1⟩ := t_split x y d e _ _ (ha x (by simp)) (hb y (by simp)) (stop_tc z1 a r) (stop_tc z2 b s) h
    obtain ⟨h2, h3, h4⟩ := tc_split a b d e c c' r s (fun z hz => ha z (by simp [hz])) (fun z hz => hb z (by simp [hz])) z1 z2 w1 w2 h1
    exact ⟨by rw [h0, h2], h3, fun _ => hc⟩
end
end Go.Proofs.Ytpgakkhfjjhpdaa
end
section
namespace Go.Proofs.Ytpgakkhfjjhpdaa
open Go.Mach
def headOK (l : List GT) : Bool := match l with
  | t :: _ => decide (t.kind = 1) || (decide (t.kind = 2) && decide (t.value.kind = 3))
  | [] => false
def argsB (l : List GT) : Bool := decide (1 ≤ l.length ∧ l.length ≤ 8) && l.all (termR 8) && headOK l
def tOK (n : ByteArray) : Bool := decide (n = ⟨#[61, 61]⟩ ∨ n = ⟨#[33, 61]⟩ ∨ n = ⟨#[60]⟩ ∨ n = ⟨#[60, 61]⟩ ∨ n = ⟨#[62]⟩ ∨ n = ⟨#[62, 61]⟩)
def litB (l : GL) : Bool :=
  if l.kind = 1 ∨ l.kind = 2 then relOK l.name && argsB l.args
  else if l.kind = 3 then tOK l.name && decide (l.args.length = 2) && l.args.all (termR 8)
  else if l.kind = 4 then varOK l.name && decide (l.args.length = 1) && l.args.all (termR 8)
  else false
abbrev sMin : ByteArray := ⟨#[109, 105, 110]⟩
abbrev sMax : ByteArray := ⟨#[109, 97, 120]⟩
abbrev sCount : ByteArray := ⟨#[99, 111, 117, 110, 116]⟩
def aggB (r : GR) : Bool :=
  if r.agg = ⟨#[]⟩ then decide (r.pos = 0)
  else decide (r.agg = sMin ∨ r.agg = sMax ∨ r.agg = sCount) && decide (1 ≤ r.pos ∧ r.pos < r.args.length) && decide (((r.args[r.pos.toNat]?).map (·.kind)) = some 1)
def ruleB (r : GR) : Bool := relOK r.label && relOK r.head && argsB r.args && decide (1 ≤ r.body.length ∧ r.body.length ≤ 8) && r.body.all litB && aggB r
def tupB (t : GU) : Bool := relOK t.name && decide (1 ≤ t.args.length ∧ t.args.length ≤ 8) && (match t.args with | v :: _ => decide (v.kind = 3) | [] => false) && t.args.all rightT
def declB (d : GD) : Bool := relOK d.name && decide (1 ≤ d.arity ∧ d.arity ≤ 8)
def progB (p : GP) : Bool := decide (p.decls.length ≤ 64 ∧ p.facts.length ≤ 64 ∧ p.rules.length ≤ 64) && p.facts.all tupB && p.rules.all ruleB && p.decls.all declB
end Go.Proofs.Ytpgakkhfjjhpdaa
end
section
namespace Go.Proofs.Ytpgakkhfjjhpdaa
open Go.Mach
inductive Ln where
  | d (x : GD) | u (x : GU) | r (x : GR)
def Ln.ok : Ln → Bool
  | .d x => declB x | .u x => tupB x | .r x => ruleB x
def Ln.D : Ln → Option GD | .d x => some x | _ => none
def Ln.R : Ln → Option GR | .r x => some x | _ => none
end Go.Proofs.Ytpgakkhfjjhpdaa
end
section
namespace Go.Proofs.Ytpgakkhfjjhpdaa
open Go.Mach
def varG (s : ByteArray) (i : Nat) : Bool := upB (bt s i) || (decide (i ≠ 0) && innerB (bt s i))
theorem varG_iff (s : ByteArray) (i : Nat) : varG s i = true ↔ (65 ≤ bt s i ∧ bt s i ≤ 90) ∨ (i ≠ 0 ∧ ((97 ≤ bt s i ∧ bt s i ≤ 122) ∨ bt s i = 95 ∨ (48 ≤ bt s i ∧ bt s i ≤ 57))) := by
  simp only [varG, upB, innerB, letterB, Bool.or_eq_true, Bool.and_eq_true, decide_eq_true_eq]; omega
theorem varOK_iff (t : ByteArray) : varOK t = true ↔ (∀ i, i < t.size → varG t i = true) ∧ t.size ≠ 0 ∧ t.size ≤ 16 := by
  have hs : t.data.toList.length = t.size := by simp
  simp only [varOK, Bool.and_eq_true, decide_eq_true_eq]
  match hl : t.data.toList with
  | [] =>
    rw [hl] at hs; simp at hs
    simp only [varL, Bool.false_eq_true, false_and, false_iff]; omega
  | c :: l =>
    rw [hl] at hs; simp at hs
    have hb : ∀ i, bt t i = (((c :: l)[i]?).getD 0).toNat := fun i => by simp only [bt, hl]
    simp only [varL, Bool.and_eq_true, List.all_eq_true]
    constructor
    · rintro ⟨⟨h1, h2⟩, h3⟩
      refine ⟨fun i hi => ?_, by omega, h3⟩
      unfold varG
      cases i with
      | zero => simp [hb, h1]
      | succ i =>
        have hi' : i < l.length := by omega
        have := h2 l[i] (List.getElem_mem hi')
        simpa [hb, List.getElem?_eq_getElem hi'] using this
    · rintro ⟨h1, h2, h3⟩
      refine ⟨⟨?_, fun x hx => ?_⟩, h3⟩
      · have := h1 0 (by omega)
        simpa [varG, hb] using this
      · obtain ⟨i, hi, rfl⟩ := List.getElem_of_mem hx
        have := h1 (i + 1) (by omega)
        simpa [varG, hb, List.getElem?_eq_getElem hi] using this
theorem varOK_no {t : ByteArray} {i : Nat} (h : i < t.size) (hp : ¬ ((65 ≤ bt t i ∧ bt t i ≤ 90) ∨ (i ≠ 0 ∧ ((97 ≤ bt t i ∧ bt t i ≤ 122) ∨ bt t i = 95 ∨ (48 ≤ bt t i ∧ bt t i ≤ 57))))) : varOK t = false := by
  rw [← varG_iff] at hp
  rw [Bool.eq_false_iff, Ne, varOK_iff]; intro hh; exact hp (hh.1 i h)
theorem var_ok (t : ByteArray) (ht : t.size ≤ 100000000000) : pureT T c66 [.str t] = some (.bool (varOK t)) := by
  apply pure_enter (by simp [c66])
  simp [c66]
  refine W_for T 0 52 t.size (fun i f σ => f 0 = .str t ∧ f 7 = .ptr 0 0 ∧ σ = [.iter t i] ∧ ∀ j, j < i → varG t j = true) ?_ _ _ ?_
  · rintro i f σ hi ⟨h0, h6, rfl, hall⟩
    by_cases hlt : i < t.size
    · have hno := @varOK_no t i hlt
      have hyes : _ → ∀ j, j < i + 1 → varG t j = true := fun h j hj => by
        by_cases e : j = i
        · subst e; exact (varG_iff t j).2 h
        · exact hall j (by omega)
      by_cases hlo : bt t i < 128
      · simp [h0, h6, hlt, dec_lo hlt hlo]
        repeat' (first | apply And.intro | intro _)
        all_goals first | exact hno (by omega) | exact hyes (by omega) _ (by assumption)
      · have := dec_hi hlt (by omega)
        simp [h0, h6, hlt]
        repeat' (first | apply And.intro | intro _)
        all_goals first | exact hno (by omega) | omega
    · have he : i = t.size := by omega
      subst he
      have hb : (varOK t = true) ↔ t.size ≠ 0 ∧ t.size ≤ 16 := by rw [varOK_iff]; exact ⟨fun h => h.2, fun h => ⟨fun i hi => hall i hi, h⟩⟩
      simp [h0, h6, ba_empty, ba_nil, -ByteArray.size_eq_zero_iff]
      refine ⟨fun h => ⟨fun h2 => hb.2 ⟨h, by omega⟩, fun h2 => ?_⟩, fun h => ?_⟩
      all_goals (refine Bool.eq_false_iff.2 fun hh => ?_; have := hb.1 hh; omega)
  · simp
theorem callVar (t : ByteArray) (ht : t.size ≤ 100000000000) (bs : Nat) (σ : Heap) : callT T 66 [.str t] bs σ = some (.bool (sym (varOK t)), σ) := call_clean rfl rfl rfl rfl (var_ok t ht)
theorem rel_ok (t : ByteArray) (ht : t.size ≤ 100000000000) : pureT T c33 [.str t] = some (.bool (relOK t)) := by
  have h1 := name_call t ht
  have h2 := bArity t
  apply pure_enter (by simp [c33])
  unfold relOK sMat
  generalize nameOK t = b at *
  cases b
  · simp [c33, h1, h2]
  · by_cases h3 : arityOf t < 0
    · by_cases h4 : t = ⟨#[109, 97, 116, 101, 114, 105, 97, 108, 105, 122, 101]⟩
      · simp [c33, h1, h2, h3, ← h4]
      · simp [c33, h1, h2, h3, h4]
    · simp [c33, h1, h2, h3]
theorem callRel (t : ByteArray) (ht : t.size ≤ 100000000000) (bs : Nat) (σ : Heap) : callT T 33 [.str t] bs σ = some (.bool (sym (relOK t)), σ) := call_clean rfl rfl rfl rfl (rel_ok t ht)
theorem pterm_ok : ∀ (d : Nat) (t : GT), d ≤ 100 → t.size ≤ 100000000000 → pureT T c77 [t.enc, .int .i64 (d : Int)] = some (.bool (termR d t)) := by
  intro d
  induction d with
  | zero =>
    intro t hd hs
    obtain ⟨k, n, ⟨vk, vn, vt, vl⟩, l⟩ := t
    simp only [GT.size, GV.size] at hs
    have hvar := callVar n (by omega)
    have hval := valRight (.mk vk vn vt vl) (by simp only [GV.size]; omega)
    have har1 := bArity vt
    have har2 := bArity n
    apply pure_enter (by simp [c77])
    by_cases h1 : k = 1
    · subst h1
      simp [c77, GT.enc_eq, GT.kind, GT.name, GT.value, GT.args, GV.kind, GV.num, GV.text, GV.items, hvar, hval, har1, har2, enc_mk, setRun, termR, termB, bareV, opOK]
      repeat' (first | apply And.intro | intro _)
      all_goals first | (simp_all; done) | grind
    by_cases h2 : k = 2
    · subst h2
      simp [c77, GT.enc_eq, GT.kind, GT.name, GT.value, GT.args, GV.kind, GV.num, GV.text, GV.items, hvar, hval, har1, har2, enc_mk, setRun, termR, termB, bareV, opOK]
      repeat' (first | apply And.intro | intro _)
      all_goals first | (simp_all; done) | grind
    by_cases h3 : k = 3
    · subst h3
      simp [c77, GT.enc_eq, GT.kind, GT.name, GT.value, GT.args, GV.kind, GV.num, GV.text, GV.items, hvar, hval, har1, har2, enc_mk, setRun, termR, termB, bareV, opOK]
      repeat' (first | apply And.intro | intro _)
      all_goals first | (simp_all; done) | grind
    by_cases h4 : k = 4
    · subst h4
      simp [c77, GT.enc_eq, GT.kind, GT.name, GT.value, GT.args, GV.kind, GV.num, GV.text, GV.items, hvar, hval, har1, har2, enc_mk, setRun, termR, termB, bareV, opOK]
      repeat' (first | apply And.intro | intro _)
      all_goals first | (simp_all; done) | grind
    simp [c77, GT.enc_eq, GT.kind, GT.name, GT.value, GT.args, GV.kind, GV.num, GV.text, GV.items, hvar, hval, har1, har2, enc_mk, setRun, termR, termB, bareV, opOK, h1, h2, h3, h4]
  | succ d ih =>
    intro t hd hs
    obtain ⟨k, n, ⟨vk, vn, vt, vl⟩, l⟩ := t
    simp only [GT.size, GV.size] at hs
    have hlen := GT.len_sizes l
    have hw : IntKind.i64.wrap (d : Int) = (d : Int) := wr64 (by omega) (by omega)
    have hall : ∀ bs A C, callT T 62 [.isl (GT.encs l) false, .func 88 [.ptr 1 0]] bs [A, .cells [.int .i64 ((d : Int) + 1)] 0 false, C] = some (.bool (sym (l.all (termR d))), [A, .cells [.int .i64 ((d : Int) + 1)] 0 false, C]) := fun bs A C =>
      allTerm (termR d) l 88 [.ptr 1 0] (by omega) _ (fun x hx τ bs => by
        have hr : ∀ bs σ, callT T 77 [x.enc, .int .i64 d] bs σ = some (.bool (termR d x), σ) := fun bs σ => call_clean rfl rfl rfl (by simp) (ih x (by omega) (by have := (GT.sizes_mem hx).1; omega))
        refine heap_enter (af := c88) (args' := [x.enc, .ptr 1 0]) rfl rfl (by simp [c88]) (by simp [c88]) rfl ?_
        simp [c88, baseA, hr, hw, ← GT.enc_eq, setRun, dropA_gc, refLt, res1, refLt2_bool]) bs
    have hvar := callVar n (by omega)
    have hval := valRight (.mk vk vn vt vl) (by simp only [GV.size]; omega)
    have har1 := bArity vt
    have har2 := bArity n
    apply pure_enter (by simp [c77])
    by_cases h1 : k = 1
    · subst h1
      simp [c77, GT.enc_eq, GT.kind, GT.name, GT.value, GT.args, GV.kind, GV.num, GV.text, GV.items, hvar, hval, har1, har2, enc_mk, setRun, termR, termB, bareV, opOK, hall]
      repeat' (first | apply And.intro | intro _)
      all_goals first | (simp_all; done) | grind
    by_cases h2 : k = 2
    · subst h2
      simp [c77, GT.enc_eq, GT.kind, GT.name, GT.value, GT.args, GV.kind, GV.num, GV.text, GV.items, hvar, hval, har1, har2, enc_mk, setRun, termR, termB, bareV, opOK, hall]
      repeat' (first | apply And.intro | intro _)
      all_goals first | (simp_all; done) | grind
    by_cases h3 : k = 3
    · subst h3
      simp [c77, GT.enc_eq, GT.kind, GT.name, GT.value, GT.args, GV.kind, GV.num, GV.text, GV.items, hvar, hval, har1, har2, enc_mk, setRun, termR, termB, bareV, opOK, hall]
      repeat' (first | apply And.intro | intro _)
      all_goals first | (simp_all; done) | grind
    by_cases h4 : k = 4
    · subst h4
      simp [c77, GT.enc_eq, GT.kind, GT.name, GT.value, GT.args, GV.kind, GV.num, GV.text, GV.items, hvar, hval, har1, har2, enc_mk, setRun, termR, termB, bareV, opOK, hall]
      repeat' (first | apply And.intro | intro _)
      all_goals first | (simp_all; done) | grind
    simp [c77, GT.enc_eq, GT.kind, GT.name, GT.value, GT.args, GV.kind, GV.num, GV.text, GV.items, hvar, hval, har1, har2, enc_mk, setRun, termR, termB, bareV, opOK, h1, h2, h3, h4]
end Go.Proofs.Ytpgakkhfjjhpdaa
end
section
namespace Go.Proofs.Ytpgakkhfjjhpdaa
open Go.Mach
theorem idxS_ok (l : List ByteArray) (s : ByteArray) (hl : l.length ≤ 100000000000) :
    pureT T c78 [.isl (l.map .str) false, .str s] = some (.int .i64 (idxG (fun x => decide (s = x)) l)) := by
  apply pure_enter (by simp [c78])
  simp [c78]
  refine W_for T 0 19 l.length (fun i f σ => f 0 = .isl (l.map .str) false ∧ f 1 = .str s ∧ f 7 = .int .i64 (l.length : Int) ∧ f 8 = .int .i64 (i : Int) ∧ ∀ j, (hj : j < l.length) → j < i → decide (s = l[j]) = false) ?_ _ _ ?_
  · rintro i f σ hi ⟨h0, h1, h7, h8, hall⟩
    by_cases hlt : i < l.length
    · have e1 : l[i]? = some l[i] := List.getElem?_eq_getElem hlt
      by_cases hp : s = l[i]
      · simp [h0, h1, h7, h8, hlt, ← hp]
        simp [idxG, idxG_drop (fun x => decide (s = x)) l i hlt hall (by simp [← hp])]
      · simp [h0, h1, h7, h8, hlt, hp]
        refine ⟨wr64 (by omega) (by omega), fun j hj hji => ?_⟩
        by_cases e : j = i
        · subst e; exact hp
        · simpa using hall j hj (by omega)
    · have he : i = l.length := by omega
      subst he
      have hn : l.findIdx? (fun x => decide (s = x)) = none := by
        rw [List.findIdx?_eq_none_iff]
        intro x hx
        obtain ⟨j, hj, rfl⟩ := List.getElem_of_mem hx
        exact hall j hj hj
      simp [h0, h1, h7, h8, idxG, hn]
  · simp
theorem conS_ok (l : List ByteArray) (s : ByteArray) (hl : l.length ≤ 100000000000) :
    pureT T c65 [.isl (l.map .str) false, .str s] = some (.bool (l.any (fun x => decide (s = x)))) := by
  have h1 : ∀ bs σ, callT T 78 [.isl (l.map .str) false, .str s] bs σ = some (.int .i64 (idxG (fun x => decide (s = x)) l), σ) := fun bs σ => call_clean rfl rfl rfl (by simp) (idxS_ok l s hl)
  have h2 := idxG_any (fun x => decide (s = x)) l
  apply pure_enter (by simp [c65])
  simp [c65, h1]
  refine ⟨fun h => by simpa using h2.1 h, fun h x hx e => ?_⟩
  have := h2.2 (by simp; exact e ▸ hx)
  omega
def six : List ByteArray := [⟨#[61, 61]⟩, ⟨#[33, 61]⟩, ⟨#[60]⟩, ⟨#[60, 61]⟩, ⟨#[62]⟩, ⟨#[62, 61]⟩]
theorem six_any (s : ByteArray) : six.any (fun x => decide (s = x)) = tOK s := by
  rw [Bool.eq_iff_iff]; simp [six, tOK]
theorem conSix (s : ByteArray) (o : AObj) (bs : Nat) : callT T 65 [.sl 1 0 6 1 false, .str s] bs [o, .cells [.str ⟨#[61, 61]⟩, .str ⟨#[33, 61]⟩, .str ⟨#[60]⟩, .str ⟨#[60, 61]⟩, .str ⟨#[62]⟩, .str ⟨#[62, 61]⟩] 0 false] =
    some (.bool (sym (tOK s)), [o, .cells [.str ⟨#[61, 61]⟩, .str ⟨#[33, 61]⟩, .str ⟨#[60]⟩, .str ⟨#[60, 61]⟩, .str ⟨#[62]⟩, .str ⟨#[62, 61]⟩] 0 false]) := by
  have h := conS_ok six s (by decide)
  rw [six_any] at h
  exact call_scal rfl rfl rfl h rfl (by simp) rfl
theorem fine_ok (t : GT) (hs : t.size ≤ 100000000000) : pureT T c63 [t.enc] = some (.bool (termR 8 t)) := by
  have h : ∀ bs σ, callT T 77 [t.enc, .int .i64 8] bs σ = some (.bool (sym (termR 8 t)), σ) := fun bs σ => call_clean rfl rfl rfl (by simp) (pterm_ok 8 t (by omega) hs)
  apply pure_enter (by simp [c63])
  simp [c63, h, ← GT.enc_eq]
theorem callFine (t : GT) (hs : t.size ≤ 100000000000) (bs : Nat) (σ : Heap) : callT T 63 [t.enc] bs σ = some (.bool (sym (termR 8 t)), σ) := call_clean rfl rfl rfl (by simp) (fine_ok t hs)
theorem allFine (l : List GT) (hs : GT.sizes l ≤ 10000000000) (bs : Nat) (σ : Heap) : callT T 62 [.isl (GT.encs l) false, .func 63 []] bs σ = some (.bool (sym (l.all (termR 8))), σ) :=
  allTerm (termR 8) l 63 [] (by have := GT.len_sizes l; omega) σ (fun x hx τ bs => callFine x (by have := (GT.sizes_mem hx).1; omega) bs _) bs
theorem pargs_ok (l : List GT) (hs : GT.sizes l ≤ 10000000000) : pureT T c47 [.isl (GT.encs l) false] = some (.bool (argsB l)) := by
  have hall := allFine l hs
  have hlen := GT.len_sizes l
  apply pure_enter (by simp [c47])
  unfold argsB headOK
  generalize l.all (termR 8) = b at *
  match l with
  | [] => simp [c47]
  | x :: l =>
    simp only [List.length_cons] at *
    by_cases h8 : l.length + 1 ≤ 8
    · have h8' : ¬ (8 < (l.length : Int) + 1) := by omega
      have h1' : ¬ ((l.length : Int) + 1 < 1) := by omega
      cases b
      · simp [c47, hall, h8, h8', h1']
      · simp [c47, hall, h8, h8', h1']
        repeat' (first | apply And.intro | intro _)
        all_goals first | (simp_all; done) | grind
    · have h8' : 8 < (l.length : Int) + 1 := by omega
      have h1' : ¬ ((l.length : Int) + 1 < 1) := by omega
      simp [c47, hall, h8, h8', h1']
theorem callArgs (l : List GT) (hs : GT.sizes l ≤ 10000000000) (bs : Nat) (σ : Heap) : callT T 47 [.isl (GT.encs l) false] bs σ = some (.bool (sym (argsB l)), σ) := call_clean rfl rfl rfl (by simp) (pargs_ok l hs)
theorem plit_ok (x : GL) (hs : x.size ≤ 10000000000) : pureT T c49 [x.enc] = some (.bool (litB x)) := by
  have h1 := x.name_le
  have h2 := x.args_le
  obtain ⟨k, n, l⟩ := x
  simp only at h1 h2
  have hrel := callRel n (by omega)
  have hvar := callVar n (by omega)
  have hargs := callArgs l (by omega)
  have hall := allFine l (by omega)
  have hcon := conSix n
  apply pure_enter (by simp [c49])
  unfold litB
  by_cases k1 : k = 1
  · subst k1
    simp [c49, GL.enc_eq, hrel, hargs]
    cases relOK n <;> simp
  by_cases k2 : k = 2
  · subst k2
    simp [c49, GL.enc_eq, hrel, hargs]
    cases relOK n <;> simp
  by_cases k3 : k = 3
  · subst k3
    generalize l.all (termR 8) = b at *
    simp [c49, GL.enc_eq, hcon, hall]
    repeat' (first | apply And.intro | intro _)
    all_goals first | (simp_all; done) | omega | grind
  by_cases k4 : k = 4
  · subst k4
    generalize l.all (termR 8) = b at *
    simp [c49, GL.enc_eq, hvar, hall]
    repeat' (first | apply And.intro | intro _)
    all_goals first | (simp_all; done) | omega | grind
  simp [c49, GL.enc_eq, k1, k2, k3, k4]
theorem callPLit (x : GL) (hs : x.size ≤ 10000000000) (bs : Nat) (σ : Heap) : callT T 49 [x.enc] bs σ = some (.bool (sym (litB x)), σ) := call_clean rfl rfl rfl (by simp) (plit_ok x hs)
theorem ptup_ok (x : GU) (hs : x.size ≤ 10000000000) : pureT T c28 [x.enc] = some (.bool (tupB x)) := by
  have h1 := x.name_le
  have h2 := x.args_le
  obtain ⟨n, l⟩ := x
  simp only at h1 h2
  have hrel := callRel n (by omega)
  have hlen := len_sizes l
  have hall : ∀ bs σ, callT T 43 [.isl (GV.encs l) false, .func 44 []] bs σ = some (.bool (sym (l.all rightT)), σ) := fun bs σ =>
    allValue rightT l 44 [] (by omega) σ (fun x hx τ bs => valRight x (by have := (sizes_mem hx).1; omega) bs _) bs
  apply pure_enter (by simp [c28])
  unfold tupB
  generalize l.all rightT = b at *
  match l with
  | [] =>
    simp [c28, GU.enc_eq, hrel]
  | x :: l =>
    simp only [List.length_cons] at *
    simp [c28, GU.enc_eq, hrel, hall]
    repeat' (first | apply And.intro | intro _)
    all_goals first | (simp_all; done) | omega | grind
theorem callPTup (x : GU) (hs : x.size ≤ 10000000000) (bs : Nat) (σ : Heap) : callT T 28 [x.enc] bs σ = some (.bool (sym (tupB x)), σ) := call_clean rfl rfl rfl (by simp) (ptup_ok x hs)
theorem pdecl_ok (x : GD) (hs : x.size ≤ 10000000000) : pureT T c32 [x.enc] = some (.bool (declB x)) := by
  have h1 := x.name_le
  obtain ⟨n, l⟩ := x
  simp only at h1
  have hrel := callRel n (by omega)
  apply pure_enter (by simp [c32])
  unfold declB
  simp [c32, GD.enc_eq, hrel]
  repeat' (first | apply And.intro | intro _)
  all_goals first | (simp_all; done) | omega | grind
theorem callPDecl (x : GD) (hs : x.size ≤ 10000000000) (bs : Nat) (σ : Heap) : callT T 32 [x.enc] bs σ = some (.bool (sym (declB x)), σ) := call_clean rfl rfl rfl (by simp) (pdecl_ok x hs)
end Go.Proofs.Ytpgakkhfjjhpdaa
end
section
namespace Go.Proofs.Ytpgakkhfjjhpdaa
open Go.Mach
theorem prule_ok (x : GR) (hs : x.size ≤ 10000000000) : pureT T c30 [x.enc] = some (.bool (ruleB x)) := by
  have h1 := x.label_le
  have h2 := x.head_le
  have h3 := x.args_le
  have h4 := x.agg_le
  have h5 := x.body_len
  have h6 := fun y hy => x.body_mem (y := y) hy
  obtain ⟨lab, hd, l, agg, at', body⟩ := x
  simp only at h1 h2 h3 h4 h5 h6
  have hlen := GT.len_sizes l
  have hr1 := callRel lab (by omega)
  have hr2 := callRel hd (by omega)
  have hargs := callArgs l (by omega)
  have hall : ∀ bs σ, callT T 48 [.isl (body.map GL.enc) false, .func 49 []] bs σ = some (.bool (sym (body.all litB)), σ) := fun bs σ =>
    allLiteral litB body 49 [] (by omega) σ (fun y hy τ bs => callPLit y (by have := h6 y hy; omega) bs _) bs
  apply pure_enter (by simp [c30])
  unfold ruleB
  simp only
  generalize body.all litB = b at *
  generalize relOK lab = b1 at *
  generalize relOK hd = b2 at *
  generalize argsB l = b3 at *
  cases b1
  · simp [c30, GR.enc_eq, hr1]
  cases b2
  · simp [c30, GR.enc_eq, hr1, hr2]
  cases b3
  · simp [c30, GR.enc_eq, hr1, hr2, hargs]
  by_cases c1 : body.length < 1
  · have c1' : (body.length : Int) < 1 := by omega
    simp [c30, GR.enc_eq, hr1, hr2, hargs, c1']
    omega
  by_cases c2 : 8 < body.length
  · have c1' : ¬ (body.length : Int) < 1 := by omega
    have c2' : 8 < (body.length : Int) := by omega
    simp [c30, GR.enc_eq, hr1, hr2, hargs, c1', c2']
    omega
  have c1' : ¬ (body.length : Int) < 1 := by omega
  have c2' : ¬ 8 < (body.length : Int) := by omega
  cases b
  · simp [c30, GR.enc_eq, hr1, hr2, hargs, c1', c2', hall]
  have c3 : 1 ≤ body.length ∧ body.length ≤ 8 := by omega
  unfold aggB
  simp only [c3, and_self, decide_true, Bool.and_true, Bool.true_and]
  by_cases g0 : agg = ⟨#[]⟩
  · subst g0
    simp [c30, GR.enc_eq, hr1, hr2, hargs, c1', c2', hall]
    done
  rw [if_neg g0]
  by_cases g1 : agg = sMin ∨ agg = sMax ∨ agg = sCount
  · have hat : ∀ h : 1 ≤ at' ∧ at' < l.length, at'.toNat < l.length := fun h => by omega
    by_cases g2 : 1 ≤ at' ∧ at' < (l.length : Int)
    · obtain ⟨t, ht⟩ : ∃ t, l[at'.toNat]? = some t := ⟨_, List.getElem?_eq_getElem (hat g2)⟩
      have g3 : 0 ≤ at' := by omega
      rcases g1 with rfl | rfl | rfl
      all_goals
        simp [c30, GR.enc_eq, hr1, hr2, hargs, c1', c2', hall, g2, g3, ht]
    · rcases g1 with rfl | rfl | rfl
      all_goals
        simp [c30, GR.enc_eq, hr1, hr2, hargs, c1', c2', hall, g2]
        try grind
  · have g1' := not_or.1 g1
    have g2' := not_or.1 g1'.2
    simp [c30, GR.enc_eq, hr1, hr2, hargs, c1', c2', hall, g0, g1'.1, g2'.1, g2'.2]
theorem callPRule (x : GR) (hs : x.size ≤ 10000000000) (bs : Nat) (σ : Heap) : callT T 30 [x.enc] bs σ = some (.bool (sym (ruleB x)), σ) := call_clean rfl rfl rfl (by simp) (prule_ok x hs)
theorem pright_ok (x : GP) (hs : x.size ≤ 10000000000) : pureT T c18 [x.enc] = some (.bool (progB x)) := by
  have h1 := x.decls_len
  have h2 := x.facts_len
  have h3 := x.rules_len
  have m1 := fun y hy => x.decls_mem (y := y) hy
  have m2 := fun y hy => x.facts_mem (y := y) hy
  have m3 := fun y hy => x.rules_mem (y := y) hy
  obtain ⟨ds, us, rs⟩ := x
  simp only at h1 h2 h3 m1 m2 m3
  have a1 : ∀ bs σ, callT T 31 [.isl (ds.map GD.enc) false, .func 32 []] bs σ = some (.bool (sym (ds.all declB)), σ) := fun bs σ =>
    allDecl declB ds 32 [] (by omega) σ (fun y hy τ bs => callPDecl y (by have := m1 y hy; omega) bs _) bs
  have a2 : ∀ bs σ, callT T 27 [.isl (us.map GU.enc) false, .func 28 []] bs σ = some (.bool (sym (us.all tupB)), σ) := fun bs σ =>
    allTuple tupB us 28 [] (by omega) σ (fun y hy τ bs => callPTup y (by have := m2 y hy; omega) bs _) bs
  have a3 : ∀ bs σ, callT T 29 [.isl (rs.map GR.enc) false, .func 30 []] bs σ = some (.bool (sym (rs.all ruleB)), σ) := fun bs σ =>
    allRule ruleB rs 30 [] (by omega) σ (fun y hy τ bs => callPRule y (by have := m3 y hy; omega) bs _) bs
  apply pure_enter (by simp [c18])
  unfold progB
  simp only
  generalize ds.all declB = b1 at *
  generalize us.all tupB = b2 at *
  generalize rs.all ruleB = b3 at *
  simp [c18, GP.enc_eq, a1, a2, a3]
  repeat' (first | apply And.intro | intro _)
  all_goals first | (simp_all; done) | omega | grind
theorem callPRight (x : GP) (hs : x.size ≤ 10000000000) (bs : Nat) (σ : Heap) : callT T 18 [x.enc] bs σ = some (.bool (sym (progB x)), σ) := call_clean rfl rfl rfl (by simp) (pright_ok x hs)
end Go.Proofs.Ytpgakkhfjjhpdaa
end
section
namespace Go.Proofs.Ytpgakkhfjjhpdaa
open Go.Mach
end Go.Proofs.Ytpgakkhfjjhpdaa
end
section
namespace Go.Proofs.Ytpgakkhfjjhpdaa
open Go.Mach
section
variable {bs n : Nat} {f : FR} {σ : Heap}
theorem W_rfn {x : AX} {rc : RCode} {Q : AExit → FR → Heap → Prop} {g : Nat} {caps : List AV} {v : AV} {σ' σ2 : Heap} {e : AExit} (hg : g ≠ yno) (hx : evF n f x = .func g caps)
    (hc : callT T g (.yld σ.length :: caps) bs (σ ++ [.lp rc (lst n f) .ready none]) = some (v, σ')) (he : endLp σ.length (lst n f) σ' = some (e, lst n f, σ2)) (hQ : Q e f σ2) : W T bs n (.rfn x rc) f σ Q := by
  refine ⟨e, f, σ2, ?_, hQ⟩
  rw [execT_rfn, ev_lst, hx]
  simp only [callN, if_neg hg, hc, Option.bind_some, he]
theorem round_call {id nt : Nat} {rc : RCode} {a b : ACode} {f1 : FR} {st : LoopState} {pd : Option Code} {xs : List AV} {v : AV} {σ' : Heap} (hσ : σ[id]? = some (.lp rc (lst n f) st pd)) (hrd : rds rc = some (nt, a, b)) (hn : nt ≤ n)
    (hp : xs.length = rc.params.size) (hput : putAll rc.params.toList xs (lst n f) = lst n f1)
    (hw : W T bs n a f1 σ fun e f2 σ1 => e = .normal ∧ ∃ σ2, begLp id σ1 = some σ2 ∧ W T bs n b f2 σ2 fun e f3 σ3 => endRd id (e, lst n f3, σ3) = some (v, σ')) :
    callT T yno (.yld id :: xs) bs σ = some (v, σ') := by
  rw [callT_yld T bs σ T_ok.yn.1 T_ok.yn.2]
  obtain ⟨e, f2, σ1, hr, rfl, σ2, hb, e3, f3, σ3, hr3, hend⟩ := hw
  have hT : T.rd rc = some (nt, a, b) := hrd
  have hlen : (lst n f).length = n := by simp [lst]
  simp only [roundA, hσ, hT, Option.bind_some, hlen]
  rw [if_pos ⟨hp, hn⟩, hput, hr]
  simp only [Option.bind_some, bodyA, hb, hr3]
  exact hend
theorem put1 (d : Nat) (x : AV) (hd : d < n) : putAll [d] [x] (lst n f) = lst n (upF f d x) := by
  have := setDst_lst n f (some d) x
  simpa [putAll, setDst] using this
end
mutual
def vs1 : GT → List ByteArray
  | .mk k n _ l => if k = 1 then [n] else vsL l
def vsL : List GT → List ByteArray
  | [] => []
  | t :: l => vs1 t ++ vsL l
end
theorem vs1_eq (t : GT) : vs1 t = if t.kind = 1 then [t.name] else vsL t.args := by cases t; rfl
theorem vsL_append : ∀ (a b : List GT), vsL (a ++ b) = vsL a ++ vsL b
  | [], b => rfl
  | t :: a, b => by simp [vsL, vsL_append a b]
def runS {S : Type} (step : S → ByteArray → S × Bool) : S → List ByteArray → S × Bool
  | s, [] => (s, true)
  | s, n :: ns => if (step s n).2 = true then runS step (step s n).1 ns else ((step s n).1, false)
theorem runS_append {S : Type} (step : S → ByteArray → S × Bool) : ∀ (a b : List ByteArray) (s : S), runS step s (a ++ b) = if (runS step s a).2 = true then runS step (runS step s a).1 b else ((runS step s a).1, false)
  | [], b, s => by simp [runS]
  | n :: a, b, s => by
    simp only [List.cons_append, runS]
    by_cases h : (step s n).2 = true
    · simp only [if_pos h]; exact runS_append step a b _
    · simp only [if_neg h]; simp
section
variable {S : Type} (H X : S → Heap → Prop) (step : S → ByteArray → S × Bool) (cnt : S → Nat) (C : Nat)
def Counts : Prop := ∀ s m, (step s m).2 = true → cnt (step s m).1 = cnt s + 1
theorem Counts.run {step : S → ByteArray → S × Bool} {cnt : S → Nat} (h : Counts step cnt) : ∀ (l : List ByteArray) (s : S), (runS step s l).2 = true → cnt (runS step s l).1 = cnt s + l.length
  | [], s, _ => rfl
  | m :: l, s, hr => by
    simp only [runS] at hr ⊢
    by_cases hb : (step s m).2 = true
    · rw [if_pos hb] at hr ⊢
      rw [h.run l _ hr, h s m hb, List.length_cons]; omega
    · rw [if_neg hb] at hr; cases hr
structure Rounds (bs id iy ie : Nat) : Prop where
  more : ∀ s σ o, H s σ → H s (σ ++ [o])
  y : ∀ s σ, H s σ → σ[iy]? = some (.cells [.yld id] 0 false)
  e : ∀ s σ, H s σ → σ[ie]? = some (.cells [.func 70 [.ptr iy 0, .ptr ie 0]] 0 false)
  ct : Counts step cnt
  rd : ∀ s σ m, H s σ → cnt s < C → bs ≤ σ.length → ∃ σ', callT T yno [.yld id, .str m] bs σ = some (.bool (step s m).2, σ') ∧ ((step s m).2 = true → H (step s m).1 σ') ∧ ((step s m).2 = false → X (step s m).1 σ') ∧ σ.length ≤ σ'.length
theorem GT.size_args (t : GT) : GT.sizes t.args + 3 ≤ t.size := by cases t; simp only [GT.size, GT.args]; omega
theorem each_ok {bs id iy ie : Nat} (R : Rounds H X step cnt C bs id iy ie) : ∀ (k : Nat) (l : List GT) (s : S) (σ : Heap), GT.sizes l ≤ k → k ≤ 100000000000 → H s σ → cnt s + (vsL l).length ≤ C → bs ≤ σ.length →
    ∃ σ', callT T 70 [.isl (GT.encs l) false, .ptr iy 0, .ptr ie 0] bs σ = some (.bool (runS step s (vsL l)).2, σ') ∧ ((runS step s (vsL l)).2 = true → H (runS step s (vsL l)).1 σ') ∧ ((runS step s (vsL l)).2 = false → X (runS step s (vsL l)).1 σ') ∧ σ.length ≤ σ'.length := by
  intro k
  induction k using Nat.strongRecOn with
  | ind k ih =>
    intro l s σ hs hk hH hC hbs
    have hlen := GT.len_sizes l
    suffices hh : ∃ r, callT T 70 [.isl (GT.encs l) false, .ptr iy 0, .ptr ie 0] bs σ = some r ∧ (r.1 = .bool (runS step s (vsL l)).2 ∧ ((runS step s (vsL l)).2 = true → H (runS step s (vsL l)).1 r.2) ∧ ((runS step s (vsL l)).2 = false → X (runS step s (vsL l)).1 r.2) ∧ σ.length ≤ r.2.length) by
      obtain ⟨r, h1, h2, h3⟩ := hh
      exact ⟨r.2, by rw [h1, ← h2], h3⟩
    refine heap_enterE (args' := [.isl (GT.encs l) false, .ptr iy 0, .ptr ie 0]) (σ1 := σ) (af := c70) rfl rfl (by simp [c70]) (by simp [c70]) rfl ?_
    simp [c70, baseA]
    refine W_for T bs 27 l.length (fun i f τ => f 1 = .ptr iy 0 ∧ f 2 = .ptr ie 0 ∧ f 7 = .isl (GT.encs l) false ∧ f 8 = .int .i64 (l.length : Int) ∧ f 9 = .int .i64 (i : Int) ∧ (runS step s (vsL (l.take i))).2 = true ∧ H (runS step s (vsL (l.take i))).1 τ ∧ σ.length ≤ τ.length) ?_ _ _ ?_
    · rintro i f τ hi ⟨h1, h2, h7, h8, h9, hgo, hH2, hτ⟩
      by_cases hlt : i < l.length
      · have hw : IntKind.i64.wrap ((i : Int) + 1) = (i : Int) + 1 := wr64 (by omega) (by omega)
        have hsz := GT.sizes_mem (List.getElem_mem hlt)
        have htk : vsL (l.take (i + 1)) = vsL (l.take i) ++ vs1 l[i] := by
          rw [List.take_succ_eq_append_getElem hlt, vsL_append]; simp [vsL]
        have hobj : AObj.cells l[i].enc.cells 0 false = AObj.cells [.int .i64 l[i].kind, .str l[i].name, .int .i64 l[i].value.kind, .int .i64 l[i].value.num, .str l[i].value.text, .isl (GV.encs l[i].value.items) false, .isl (GT.encs l[i].args) false] 0 false := by rw [GT.enc_eq]; rfl
        have hH3 := R.more _ _ (.cells l[i].enc.cells 0 false) hH2
        have hy := R.y _ _ hH3
        have he := R.e _ _ hH3
        rw [hobj] at hH3 hy he
        have hgn : ∀ x : S × Bool, runS step s (vsL (l.take i) ++ vs1 l[i]) = runS step (runS step s (vsL (l.take i))).1 (vs1 l[i]) := fun _ => by rw [runS_append, if_pos hgo]
        have hall : runS step s (vsL l) = if (runS step s (vsL (l.take (i + 1)))).2 = true then runS step (runS step s (vsL (l.take (i + 1)))).1 (vsL (l.drop (i + 1))) else ((runS step s (vsL (l.take (i + 1)))).1, false) := by
          rw [← runS_append, ← vsL_append, List.take_append_drop]
        rw [htk, runS_append, if_pos hgo] at hall
        rw [htk, runS_append, if_pos hgo]
        obtain ⟨s1, hs1⟩ : ∃ s1, (runS step s (vsL (l.take i))).1 = s1 := ⟨_, rfl⟩
        rw [hs1] at hall hH3 ⊢
        rw [vs1_eq] at hall ⊢
        have hcn : cnt s1 + (vs1 l[i]).length ≤ C := by
          have h1 := R.ct.run _ _ hgo
          rw [hs1] at h1
          have h2 : vsL l = vsL (l.take i) ++ (vs1 l[i] ++ vsL (l.drop (i + 1))) := by
            rw [← List.append_assoc, ← htk, ← vsL_append, List.take_append_drop]
          rw [h2, List.length_append, List.length_append] at hC
          omega
        rw [vs1_eq] at hcn
        by_cases hkind : l[i].kind = 1
        · have hc1 : cnt s1 < C := by rw [if_pos hkind] at hcn; simp at hcn; omega
          rw [hkind] at hH3 hy he
          rw [if_pos hkind] at hall ⊢
          obtain ⟨τ2, hc, hH4, hX4, hl4⟩ := R.rd _ _ l[i].name hH3 hc1 (by simp; omega)
          simp only [runS] at hall ⊢
          simp only [List.length_append, List.length_singleton] at hl4
          by_cases hb : (step s1 l[i].name).2 = true
          · rw [hb] at hc
            simp [h1, h2, h7, h8, h9, hlt, hw, hkind, hy, hc, hb]
            exact ⟨hH4 hb, by omega⟩
          · have hb' : (step s1 l[i].name).2 = false := by simpa using hb
            rw [hb'] at hc
            simp [h1, h2, h7, h8, h9, hlt, hw, hkind, hy, hc, hb', hall]
            exact ⟨hX4 hb', by omega⟩
        · have hc2 : cnt s1 + (vsL l[i].args).length ≤ C := by rw [if_neg hkind] at hcn; exact hcn
          rw [if_neg hkind] at hall ⊢
          obtain ⟨τ2, hc, hH4, hX4, hl4⟩ := ih (GT.sizes l[i].args) (by have := GT.size_args l[i]; omega) l[i].args s1 _ (Nat.le_refl _) (by have := GT.size_args l[i]; omega) hH3 hc2 (by simp; omega)
          simp only [List.length_append, List.length_singleton] at hl4
          by_cases hb : (runS step s1 (vsL l[i].args)).2 = true
          · rw [hb] at hc
            simp [h1, h2, h7, h8, h9, hlt, hw, hkind, he, hc, hb]
            exact ⟨hH4 hb, by omega⟩
          · have hb' : (runS step s1 (vsL l[i].args)).2 = false := by simpa using hb
            rw [hb'] at hc
            simp [h1, h2, h7, h8, h9, hlt, hw, hkind, he, hc, hb', hall]
            exact ⟨hX4 hb', by omega⟩
      · have he : i = l.length := by omega
        subst he
        simp [h1, h2, h7, h8, h9]
        rw [List.take_length] at hgo hH2
        simp [hgo]
        exact ⟨hH2, hτ⟩
    · simp [runS, vsL]
      exact hH
structure Rounds1 (bs id N : Nat) : Prop where
  more : ∀ s σ o, H s σ → H s (σ ++ [o])
  len : ∀ s σ, H s σ → N ≤ σ.length
  ct : Counts step cnt
  rd : ∀ s σ m, H s σ → cnt s < C → bs ≤ σ.length → ∃ σ', callT T yno [.yld id, .str m] bs σ = some (.bool (step s m).2, σ') ∧ ((step s m).2 = true → H (step s m).1 σ') ∧ ((step s m).2 = false → X (step s m).1 σ') ∧ σ.length ≤ σ'.length ∧
    ∀ j cs, N ≤ j → σ[j]? = some (.cells cs 0 false) → σ'[j]? = some (.cells cs 0 false)
theorem iter_ok {bs id N il : Nat} (R : Rounds1 H X step cnt C bs id N) (l : List GT) (s : S) (σ : Heap) {fz : Nat} {ext : Bool} (hl : GT.sizes l ≤ 100000000000) (hH : H s σ) (hC : cnt s + (vsL l).length ≤ C) (hbs : bs ≤ σ.length) (hil : σ[il]? = some (.cells [.isl (GT.encs l) false] fz ext)) :
    ∃ σ', callT T 69 [.yld id, .ptr il 0] bs σ = some (.tup [], σ') ∧ ((runS step s (vsL l)).2 = true → H (runS step s (vsL l)).1 σ') ∧ ((runS step s (vsL l)).2 = false → X (runS step s (vsL l)).1 σ') ∧ σ.length ≤ σ'.length := by
  have hN := R.len _ _ hH
  have hlt : il < σ.length := (List.getElem?_eq_some_iff.1 hil).1
  have R2 : Rounds (fun s τ => H s τ ∧ σ.length + 1 < τ.length ∧ τ[σ.length]? = some (.cells [.yld id] 0 false) ∧ τ[σ.length + 1]? = some (.cells [.func 70 [.ptr σ.length 0, .ptr (σ.length + 1) 0]] 0 false)) X step cnt C bs id σ.length (σ.length + 1) := by
    refine ⟨fun s τ o h => ⟨R.more _ _ _ h.1, by simp; omega, ?_, ?_⟩, fun s τ h => h.2.2.1, fun s τ h => h.2.2.2, R.ct, fun s τ m h hc hb => ?_⟩
    · rw [List.getElem?_append_left (by omega)]; exact h.2.2.1
    · rw [List.getElem?_append_left (by omega)]; exact h.2.2.2
    · obtain ⟨τ', h1, h2, h3, h4, h5⟩ := R.rd s τ m h.1 hc hb
      exact ⟨τ', h1, fun e => ⟨h2 e, by omega, h5 _ _ (by omega) h.2.2.1, h5 _ _ (by omega) h.2.2.2⟩, h3, h4⟩
  have e1 : σ ++ [AObj.cells [.yld id] 0 false, AObj.cells [.func 70 [.ptr σ.length 0, .ptr (σ.length + 1) 0]] 0 false] = (σ ++ [AObj.cells [.yld id] 0 false]) ++ [AObj.cells [.func 70 [.ptr σ.length 0, .ptr (σ.length + 1) 0]] 0 false] := by simp
  obtain ⟨σ2, hc, h1, h2, h3⟩ := each_ok _ X step cnt C R2 (GT.sizes l) l s (σ ++ [AObj.cells [.yld id] 0 false, AObj.cells [.func 70 [.ptr σ.length 0, .ptr (σ.length + 1) 0]] 0 false]) (Nat.le_refl _) hl
    ⟨by rw [e1]; exact R.more _ _ _ (R.more _ _ _ hH), by simp, by simp, by simp⟩ hC (by simp; omega)
  refine ⟨σ2, ?_, fun e => (h1 e).1, h2, by simp at h3; omega⟩
  have hil2 : (σ ++ [AObj.cells [.yld id] 0 false, AObj.cells [.func 70 [.ptr σ.length 0, .ptr (σ.length + 1) 0]] 0 false])[il]? = some (.cells [.isl (GT.encs l) false] fz ext) := by rw [List.getElem?_append_left hlt]; exact hil
  refine heap_enter (args' := [.yld id, .ptr il 0]) (σ1 := σ) (af := c69) rfl rfl (by simp [c69]) (by simp [c69]) rfl ?_
  have hb1 : bs ≤ σ.length + 1 := by omega
  simp [c69, baseA, hil2, hc, hb1, res1]
end
theorem variables_isl (l : List GT) (bs : Nat) (σ : Heap) : callT T 56 [.isl (GT.encs l) false] bs σ = some (.func 69 [.ptr σ.length 0], σ ++ [.cells [.isl (GT.encs l) false] 0 false]) := by
  refine heap_enter (args' := [.isl (GT.encs l) false]) (σ1 := σ) (af := c56) rfl rfl (by simp [c56]) (by simp [c56]) (by simp [closeArgs, c56]) ?_
  simp [c56, baseA, res1]
end Go.Proofs.Ytpgakkhfjjhpdaa
end
section
namespace Go.Proofs.Ytpgakkhfjjhpdaa
open Go.Mach
def memB (m : ByteArray) (b : List ByteArray) : Bool := b.any fun n => decide (m = n)
theorem memB_iff (m : ByteArray) (b : List ByteArray) : memB m b = true ↔ m ∈ b := by simp [memB]
def idxN (m : ByteArray) : List ByteArray → Nat
  | [] => 0
  | n :: b => if m = n then 0 else idxN m b + 1
theorem idxN_get (m : ByteArray) : ∀ b : List ByteArray, memB m b = true → b[idxN m b]? = some m
  | [], h => by simp [memB] at h
  | n :: b, h => by
    simp only [idxN]
    by_cases e : m = n
    · subst e; simp
    · have h' : memB m b = true := by simpa [memB, e] using h
      simp [e, idxN_get m b h']
def addB (b : List ByteArray) (m : ByteArray) : List ByteArray := if memB m b = true then b else b ++ [m]
def mpN (b : List ByteArray) : AObj := .mp (b.map fun n => (.str n, .bool true))
theorem mfind_names (m : ByteArray) : ∀ (b : List ByteArray) (i : Nat), mfind false [2] [.str m] i (b.map fun n => (AV.str n, AV.bool true)) = some (if memB m b = true then some (i + idxN m b, .bool true) else none)
  | [], i => rfl
  | n :: b, i => by
    have ih := mfind_names m b (i + 1)
    simp only [List.map_cons, mfind, keyC, Option.bind_some, eqcs_str, eqcs_nil, Option.map_some, Bool.and_true, Bool.false_eq_true, if_false]
    by_cases h : m = n
    · subst h; simp [memB, idxN]
    · have hm : memB m (n :: b) = memB m b := by simp [memB, h]
      simp only [decide_eq_false h, ih, hm, idxN, if_neg h]
      split
      · congr 3; omega
      · rfl
theorem mlook_n {σ : Heap} {id : Nat} {b : List ByteArray} (h : σ[id]? = some (mpN b)) (m : ByteArray) : mlookA σ false [2] (.bool false) false (.map id) (.str m) = some (.bool (memB m b)) := by
  simp only [mlookA, keyC, Option.bind_some, eqcs_str, eqcs_nil, Option.map_some, Option.isSome_some, if_true, mapOf, h, mpN, mfind_names, Bool.false_eq_true, if_false]
  cases hb : memB m b <;> simp [lookV]
theorem mset_n {σ : Heap} {id : Nat} {b : List ByteArray} (h : σ[id]? = some (mpN b)) (m : ByteArray) : msetA σ false [2] (.map id) (.str m) (.bool true) = some (σ.set id (mpN (addB b m))) := by
  have hcl : closeA σ (.bool true) = some (.bool true, σ) := by simp
  simp only [msetA, keyC, Option.bind_some, eqcs_str, eqcs_nil, Option.map_some, Option.isSome_some, true_and, hcl, h, mpN, mfind_names, Bool.false_eq_true, if_false]
  cases hb : memB m b
  · simp [addB, hb]
  · have hi : (b.map fun n => (AV.str n, AV.bool true)).set (idxN m b) (.str m, .bool true) = b.map fun n => (AV.str n, AV.bool true) := by
      apply List.ext_getElem?
      intro j
      rw [List.getElem?_set]
      split
      · rename_i e; subst e
        have hg := idxN_get m b hb
        have hlt := (List.getElem?_eq_some_iff.1 hg).1
        rw [List.getElem?_map, hg, if_pos (by simpa using hlt)]; rfl
      · rfl
    simp [addB, hb, hi]
theorem set_same {σ : Heap} {i : Nat} {o : AObj} (h : σ[i]? = some o) : σ.set i o = σ := by
  apply List.ext_getElem?
  intro j
  rw [List.getElem?_set]
  split
  · rename_i e; subst e; rw [if_pos (List.getElem?_eq_some_iff.1 h).1, h]
  · rfl
theorem endRd_n {H : Heap} {i : Nat} {rc : RCode} {tm ρ : Regs} {st : LoopState} {pd : Option Go.Code} (h : H[i]? = some (.lp rc tm st pd)) : endRd i (.normal, ρ, H) = some (.bool true, H.set i (.lp rc tm .ready none)) := by simp [endRd, h]
mutual
theorem vs1_len : ∀ t : GT, (vs1 t).length ≤ t.size
  | .mk k n v l => by
    have := vsL_len l
    simp only [vs1, GT.size]
    split <;> simp <;> omega
theorem vsL_len : ∀ l : List GT, (vsL l).length ≤ GT.sizes l
  | [] => by simp [vsL]
  | t :: l => by
    have h1 := vs1_len t
    have h2 := vsL_len l
    simp only [vsL, List.length_append, GT.sizes]; omega
end
end Go.Proofs.Ytpgakkhfjjhpdaa
end
