import Derived.Test.YtpgakkhfjjhpdaaC3
import Derived.Laws.Strings
import Derived.Test.YtpgakkhfjjhpdaaRows
import Derived.ProofKit
import Derived.OpenShut
import Derived.JoinedCond
import Derived.Laws.Bits64
import Derived.Laws.BitsLemmas
set_option linter.unusedVariables false
set_option linter.unusedSimpArgs false
set_option linter.unnecessarySimpa false
section
namespace Go.Mach
open Go.RowKit
abbrev FR := Nat → AV
def lst (n : Nat) (f : FR) : Regs := (List.range n).map f
def upF (f : FR) (d : Nat) (v : AV) : FR := fun t => if t = d then v else f t
theorem lst_getD (n : Nat) (f : FR) (t : Nat) : (lst n f).getD t .undef = if t < n then f t else .undef := by
  simp only [lst, List.getD_eq_getElem?_getD, List.getElem?_map]
  rcases Nat.lt_or_ge t n with h | h
  · rw [List.getElem?_range h, if_pos h]; rfl
  · rw [List.getElem?_eq_none (by simpa using h), if_neg (by omega)]; rfl
theorem lst_set (n : Nat) (f : FR) (d : Nat) (v : AV) : (lst n f).set d v = lst n (upF f d v) := by
  apply List.ext_getElem?
  intro t
  simp only [lst, List.getElem?_set, List.getElem?_map, List.length_map, List.length_range]
  by_cases h : d = t
  · subst h
    rcases Nat.lt_or_ge d n with h | h
    · simp [h, upF]
    · simp [Nat.not_lt.2 h]
  · simp only [if_neg h]
    rcases Nat.lt_or_ge t n with h' | h'
    · rw [List.getElem?_range h']; simp [upF, Ne.symm h]
    · rw [List.getElem?_eq_none (by simpa using h')]; rfl
def evF (n : Nat) (f : FR) : AX → AV
  | .t t => if t < n then f t else .undef
  | .c v => v
  | .f k => .func k []
@[simp] theorem ev_lst (n : Nat) (f : FR) (x : AX) : ev (lst n f) x = evF n f x := by
  cases x with
  | t t => exact lst_getD n f t
  | _ => rfl
def updO (f : FR) : Option Nat → AV → FR
  | some d, v => upF f d v
  | none, _ => f
theorem setDst_lst (n : Nat) (f : FR) (d : Option Nat) (v : AV) : setDst (lst n f) d v = lst n (updO f d v) := by
  cases d with
  | none => rfl
  | some d => exact lst_set n f d v
def guardV (b : Bool) : AV → Option Bool
  | .bool c => some (c == b)
  | .tup _ => some false
  | _ => none
section
variable (T : Tab) (bs n : Nat)
def W (c : ACode) (f : FR) (σ : Heap) (Q : AExit → FR → Heap → Prop) : Prop := ∃ e f' σ', execT T bs c (lst n f) σ = some (e, lst n f', σ') ∧ Q e f' σ'
inductive Fr where
  | code (c : ACode)
  | ops (os : List AOper)
  | blk (id : Nat)
def ACode.sz : ACode → Nat
  | .region os => os.length + 2
  | .seq a b => a.sz + b.sz + 1
  | .cond _ a b => a.sz + b.sz + 1
  | .block _ c => c.sz + 2
  | .loop c => c.sz + 1
  | _ => 1
def Fr.sz : Fr → Nat
  | .code c => c.sz
  | .ops os => os.length + 1
  | .blk _ => 1
def szs (k : List Fr) : Nat := (k.map Fr.sz).sum
def popTo (id : Nat) : List Fr → Option (List Fr)
  | [] => none
  | .blk i :: k => if i = id then some k else popTo id k
  | _ :: k => popTo id k
theorem ACode.sz_pos (c : ACode) : 0 < c.sz := by cases c <;> simp [ACode.sz]
theorem Fr.sz_pos (x : Fr) : 0 < x.sz := by
  cases x with
  | code c => exact c.sz_pos
  | ops os => simp [Fr.sz]
  | blk id => simp [Fr.sz]
theorem popTo_sz {id : Nat} : ∀ {k k' : List Fr}, popTo id k = some k' → szs k' < szs k
  | [], k', h => by simp [popTo] at h
  | x :: k, k', h => by
    have hx := x.sz_pos
    have e : szs (x :: k) = x.sz + szs k := by simp [szs]
    cases x with
    | blk i =>
      simp only [popTo] at h
      split at h
      · injection h with h; subst h; omega
      · have := popTo_sz h; omega
    | code c => have := popTo_sz (k := k) (k' := k') h; omega
    | ops os => have := popTo_sz (k := k) (k' := k') h; omega
def contQ : List Fr → (AExit → FR → Heap → Prop) → AExit → FR → Heap → Prop
  | [], Q, e, f, σ => Q e f σ
  | .code b :: k, Q, e, f, σ => match e with
    | .normal => W T bs n b f σ (contQ k Q)
    | e => contQ k Q e f σ
  | .ops os :: k, Q, e, f, σ => match e with
    | .normal => W T bs n (.region os) f σ (contQ k Q)
    | e => contQ k Q e f σ
  | .blk id :: k, Q, e, f, σ => match e with
    | .exit i => if i = id then contQ k Q .normal f σ else contQ k Q (.exit i) f σ
    | e => contQ k Q e f σ
def wpK (k : List Fr) (f : FR) (σ : Heap) (Q : AExit → FR → Heap → Prop) : Prop :=
  match k with
  | [] => Q .normal f σ
  | .blk _ :: k => wpK k f σ Q
  | .ops [] :: k => wpK k f σ Q
  | .ops (⟨d, op, none, chk⟩ :: os) :: k => match stepAll (callT T) bs (lst n f) σ op with
    | some (v, σ1) => chkO (lst n f) σ σ1 chk = some () ∧ wpK (.ops os :: k) (updO f d v) σ1 Q
    | none => False
  | .ops (⟨d, op, some (g, w), chk⟩ :: os) :: k => match guardV w (evF n f (.t g)) with
    | some true => (match stepAll (callT T) bs (lst n f) σ op with
      | some (v, σ1) => chkO (lst n f) σ σ1 chk = some () ∧ wpK (.ops os :: k) (updO f d v) σ1 Q
      | none => False)
    | some false => wpK (.ops os :: k) (updO f d (.tup [])) σ Q
    | none => False
  | .code .skip :: k => wpK k f σ Q
  | .code (.region os) :: k => wpK (.ops os :: k) f σ Q
  | .code (.seq a b) :: k => wpK (.code a :: .code b :: k) f σ Q
  | .code (.cond c x y) :: k => match evF n f c with
    | .bool true => wpK (.code x :: k) f σ Q
    | .bool false => wpK (.code y :: k) f σ Q
    | _ => False
  | .code (.block id c) :: k => wpK (.code c :: .blk id :: k) f σ Q
  | .code (.exit id) :: k => match _h : popTo id k with
    | some k' => wpK k' f σ Q
    | none => Q (.exit id) f σ
  | .code .ret :: _ => Q .ret f σ
  | .code (.loop c) :: k => W T bs n (.loop c) f σ (contQ T bs n k Q)
  | .code (.lab _) :: k => wpK k f σ Q
  | .code (.scope c l rest) :: k => W T bs n (.scope c l rest) f σ (contQ T bs n k Q)
  | .code (.rfn x rc) :: k => W T bs n (.rfn x rc) f σ (contQ T bs n k Q)
termination_by szs k
decreasing_by
  all_goals (simp only [szs, List.map_cons, List.sum_cons, Fr.sz, ACode.sz, List.length_cons, List.length_nil] at *)
  all_goals (try omega)
  · have := popTo_sz _h; simp only [szs] at this; omega
def stW (r : Option (AV × Heap)) (d : Option Nat) (chk : List AX) (os : List AOper) (k : List Fr) (f : FR) (σ : Heap) (Q : AExit → FR → Heap → Prop) : Prop := match r with
  | some (v, σ1) => chkO (lst n f) σ σ1 chk = some () ∧ wpK T bs n (.ops os :: k) (updO f d v) σ1 Q
  | none => False
def gdW (r : Option Bool) (d : Option Nat) (op : AOp) (chk : List AX) (os : List AOper) (k : List Fr) (f : FR) (σ : Heap) (Q : AExit → FR → Heap → Prop) : Prop := match r with
  | some true => stW T bs n (stepAll (callT T) bs (lst n f) σ op) d chk os k f σ Q
  | some false => wpK T bs n (.ops os :: k) (updO f d (.tup [])) σ Q
  | none => False
def cdW (v : AV) (x y : ACode) (k : List Fr) (f : FR) (σ : Heap) (Q : AExit → FR → Heap → Prop) : Prop := match v with
  | .bool true => wpK T bs n (.code x :: k) f σ Q
  | .bool false => wpK T bs n (.code y :: k) f σ Q
  | _ => False
def exW (r : Option (List Fr)) (id : Nat) (f : FR) (σ : Heap) (Q : AExit → FR → Heap → Prop) : Prop := match r with
  | some k => wpK T bs n k f σ Q
  | none => Q (.exit id) f σ
section
variable (k : List Fr) (f : FR) (σ : Heap) (Q : AExit → FR → Heap → Prop) (os : List AOper) (d : Option Nat) (op : AOp) (chk : List AX)
@[simp] theorem wpK_nil : wpK T bs n [] f σ Q = Q .normal f σ := by rw [wpK]
@[simp] theorem wpK_blk (id : Nat) : wpK T bs n (.blk id :: k) f σ Q = wpK T bs n k f σ Q := by rw [wpK]
@[simp] theorem wpK_ops : wpK T bs n (.ops [] :: k) f σ Q = wpK T bs n k f σ Q := by rw [wpK]
@[simp] theorem wpK_op : wpK T bs n (.ops (⟨d, op, none, chk⟩ :: os) :: k) f σ Q = stW T bs n (stepAll (callT T) bs (lst n f) σ op) d chk os k f σ Q := by rw [wpK]; rfl
@[simp] theorem wpK_gd (g : Nat) (w : Bool) : wpK T bs n (.ops (⟨d, op, some (g, w), chk⟩ :: os) :: k) f σ Q = gdW T bs n (guardV w (evF n f (.t g))) d op chk os k f σ Q := by rw [wpK]; rfl
@[simp] theorem wpK_skip : wpK T bs n (.code .skip :: k) f σ Q = wpK T bs n k f σ Q := by rw [wpK]
@[simp] theorem wpK_region : wpK T bs n (.code (.region os) :: k) f σ Q = wpK T bs n (.ops os :: k) f σ Q := by rw [wpK]
@[simp] theorem wpK_seq (a b : ACode) : wpK T bs n (.code (.seq a b) :: k) f σ Q = wpK T bs n (.code a :: .code b :: k) f σ Q := by rw [wpK]
@[simp] theorem wpK_cond (c : AX) (x y : ACode) : wpK T bs n (.code (.cond c x y) :: k) f σ Q = cdW T bs n (evF n f c) x y k f σ Q := by rw [wpK]; rfl
@[simp] theorem wpK_block (id : Nat) (c : ACode) : wpK T bs n (.code (.block id c) :: k) f σ Q = wpK T bs n (.code c :: .blk id :: k) f σ Q := by rw [wpK]
@[simp] theorem wpK_exit (id : Nat) : wpK T bs n (.code (.exit id) :: k) f σ Q = exW T bs n (popTo id k) id f σ Q := by
  rw [wpK]; split <;> rename_i h <;> rw [h] <;> rfl
@[simp] theorem wpK_ret : wpK T bs n (.code .ret :: k) f σ Q = Q .ret f σ := by rw [wpK]
@[simp] theorem wpK_lab (l : Nat) : wpK T bs n (.code (.lab l) :: k) f σ Q = wpK T bs n k f σ Q := by rw [wpK]
@[simp] theorem wpK_scope (c : ACode) (l : Nat) (rest : ACode) : wpK T bs n (.code (.scope c l rest) :: k) f σ Q = W T bs n (.scope c l rest) f σ (contQ T bs n k Q) := by rw [wpK]
@[simp] theorem wpK_rfn (x : AX) (rc : RCode) : wpK T bs n (.code (.rfn x rc) :: k) f σ Q = W T bs n (.rfn x rc) f σ (contQ T bs n k Q) := by rw [wpK]
@[simp] theorem wpK_loop (c : ACode) : wpK T bs n (.code (.loop c) :: k) f σ Q = W T bs n (.loop c) f σ (contQ T bs n k Q) := by rw [wpK]
@[simp] theorem stW_nil (v : AV) (σ1 : Heap) : stW T bs n (some (v, σ1)) d [] os k f σ Q = wpK T bs n (.ops os :: k) (updO f d v) σ1 Q := by simp [stW, chkO_nil]
@[simp] theorem stW_cons (v : AV) (σ1 : Heap) (x : AX) : stW T bs n (some (v, σ1)) d (x :: chk) os k f σ Q = (chkO (lst n f) σ σ1 (x :: chk) = some () ∧ wpK T bs n (.ops os :: k) (updO f d v) σ1 Q) := rfl
@[simp] theorem stW_none : stW T bs n none d chk os k f σ Q = False := rfl
@[simp] theorem gdW_true : gdW T bs n (some true) d op chk os k f σ Q = stW T bs n (stepAll (callT T) bs (lst n f) σ op) d chk os k f σ Q := rfl
@[simp] theorem gdW_false : gdW T bs n (some false) d op chk os k f σ Q = wpK T bs n (.ops os :: k) (updO f d (.tup [])) σ Q := rfl
@[simp] theorem cdW_true (x y : ACode) : cdW T bs n (.bool true) x y k f σ Q = wpK T bs n (.code x :: k) f σ Q := rfl
@[simp] theorem cdW_false (x y : ACode) : cdW T bs n (.bool false) x y k f σ Q = wpK T bs n (.code y :: k) f σ Q := rfl
@[simp] theorem exW_some (id : Nat) : exW T bs n (some k) id f σ Q = wpK T bs n k f σ Q := rfl
@[simp] theorem exW_none (id : Nat) : exW T bs n none id f σ Q = Q (.exit id) f σ := rfl
end
theorem W_mono {c : ACode} {f σ} {Q Q' : AExit → FR → Heap → Prop} (h : W T bs n c f σ Q) (hq : ∀ e f σ, Q e f σ → Q' e f σ) : W T bs n c f σ Q' := by
  obtain ⟨e, f', σ', hr, hk⟩ := h; exact ⟨e, f', σ', hr, hq _ _ _ hk⟩
theorem W_op {d : Option Nat} {op : AOp} {gd : Option (Nat × Bool)} {chk : List AX} {os : List AOper} {f : FR} {σ : Heap} {Q : AExit → FR → Heap → Prop} {v : AV} {σ1 : Heap} (hg : guardA (lst n f) gd = some true)
    (hs : stepAll (callT T) bs (lst n f) σ op = some (v, σ1)) (hc : chkO (lst n f) σ σ1 chk = some ()) (h : W T bs n (.region os) (updO f d v) σ1 Q) : W T bs n (.region (⟨d, op, gd, chk⟩ :: os)) f σ Q := by
  obtain ⟨e, f', σ', hr, hk⟩ := h
  refine ⟨e, f', σ', ?_, hk⟩
  rw [execT_region, opsT_cons]
  rw [execT_region] at hr
  simp only [hg, Option.bind_some, hs, hc, setDst_lst]
  exact hr
theorem W_no {d : Option Nat} {op : AOp} {gd : Option (Nat × Bool)} {chk : List AX} {os : List AOper} {f : FR} {σ : Heap} {Q : AExit → FR → Heap → Prop} (hg : guardA (lst n f) gd = some false)
    (h : W T bs n (.region os) (updO f d (.tup [])) σ Q) : W T bs n (.region (⟨d, op, gd, chk⟩ :: os)) f σ Q := by
  obtain ⟨e, f', σ', hr, hk⟩ := h
  refine ⟨e, f', σ', ?_, hk⟩
  rw [execT_region, opsT_cons]
  rw [execT_region] at hr
  simp only [hg, Option.bind_some, setDst_lst]
  exact hr
theorem popTo_contQ {id : Nat} {Q : AExit → FR → Heap → Prop} {f : FR} {σ : Heap} : ∀ (k : List Fr), (∀ k', popTo id k = some k' → contQ T bs n k' Q .normal f σ → contQ T bs n k Q (.exit id) f σ) ∧ (popTo id k = none → Q (.exit id) f σ → contQ T bs n k Q (.exit id) f σ)
  | [] => ⟨fun k' h => by simp [popTo] at h, fun _ h => h⟩
  | .code c :: k => popTo_contQ k
  | .ops os :: k => popTo_contQ k
  | .blk i :: k => by
    simp only [popTo, contQ]
    by_cases h : i = id
    · subst h
      simp only [if_true]
      exact ⟨fun k' hk hq => by injection hk with hk; subst hk; exact hq, fun hk => by cases hk⟩
    · simp only [if_neg h, if_neg (Ne.symm h)]
      exact popTo_contQ k
theorem guard_ev {f : FR} {g : Nat} {w b : Bool} (h : guardV w (evF n f (.t g)) = some b) : guardA (lst n f) (some (g, w)) = some b := by
  have := lst_getD n f g
  simp only [guardA, this]
  simp only [evF] at h
  generalize (if g < n then f g else .undef) = x at h
  cases x <;> simp_all [guardV]
theorem wpK_sound : ∀ (k : List Fr) (f : FR) (σ : Heap) (Q : AExit → FR → Heap → Prop), wpK T bs n k f σ Q → contQ T bs n k Q .normal f σ := by
  intro k f σ Q
  induction k, f, σ using wpK.induct T bs n with
  | case1 f σ => rw [wpK]; exact id
  | case2 f σ id k ih => rw [wpK]; exact ih
  | case3 f σ k ih => rw [wpK]; intro h; exact ⟨.normal, f, σ, by rw [execT_region, opsT_nil]; rfl, ih h⟩
  | case4 f σ d op chk os k v σ1 hs ih =>
    rw [wpK, hs]; rintro ⟨hc, h⟩
    exact W_op T bs n rfl hs hc (ih h)
  | case5 f σ d op chk os k hs => rw [wpK, hs]; exact False.elim
  | case6 f σ d op g w chk os k hg v σ1 hs ih =>
    rw [wpK, hg]; simp only [hs]; rintro ⟨hc, h⟩
    exact W_op T bs n (guard_ev n hg) hs hc (ih h)
  | case7 f σ d op g w chk os k hg hs => rw [wpK, hg]; simp only [hs]; exact False.elim
  | case8 f σ d op g w chk os k hg ih =>
    rw [wpK, hg]; intro h
    exact W_no T bs n (guard_ev n hg) (ih h)
  | case9 f σ d op g w chk os k hg => rw [wpK, hg]; exact False.elim
  | case10 f σ k ih => rw [wpK]; intro h; exact ⟨.normal, f, σ, execT_skip .., ih h⟩
  | case11 f σ k os ih => rw [wpK]; exact ih
  | case12 f σ k a b ih =>
    rw [wpK]; intro h
    obtain ⟨e, f1, σ1, hr, hq⟩ := ih h
    cases e with
    | normal =>
      obtain ⟨e2, f2, σ2, hr2, hq2⟩ := hq
      exact ⟨e2, f2, σ2, by rw [execT_seq, hr]; exact hr2, hq2⟩
    | exit id => exact ⟨_, f1, σ1, by rw [execT_seq, hr]; rfl, hq⟩
    | ret => exact ⟨_, f1, σ1, by rw [execT_seq, hr]; rfl, hq⟩
  | case13 f σ k c x y hb ih =>
    rw [wpK, hb]; intro h
    obtain ⟨e, f1, σ1, hr, hq⟩ := ih h
    exact ⟨e, f1, σ1, by rw [execT_cond, ev_lst, hb]; exact hr, hq⟩
  | case14 f σ k c x y hb ih =>
    rw [wpK, hb]; intro h
    obtain ⟨e, f1, σ1, hr, hq⟩ := ih h
    exact ⟨e, f1, σ1, by rw [execT_cond, ev_lst, hb]; exact hr, hq⟩
  | case15 f σ k c x y h1 h2 =>
    rw [wpK]
    split
    · rename_i e; exact absurd e h1
    · rename_i e; exact absurd e h2
    · exact False.elim
  | case16 f σ id c k ih =>
    rw [wpK]; intro h
    obtain ⟨e, f1, σ1, hr, hq⟩ := ih h
    cases e with
    | normal => exact ⟨_, f1, σ1, by rw [execT_block, hr]; rfl, hq⟩
    | ret => exact ⟨_, f1, σ1, by rw [execT_block, hr]; rfl, hq⟩
    | exit i =>
      simp only [contQ] at hq
      by_cases hi : i = id
      · rw [if_pos hi] at hq
        exact ⟨_, f1, σ1, by rw [execT_block, hr]; simp only [Option.map_some, outBlock, if_pos hi], hq⟩
      · rw [if_neg hi] at hq
        exact ⟨_, f1, σ1, by rw [execT_block, hr]; simp only [Option.map_some, outBlock, if_neg hi], hq⟩
  | case17 f σ id k k' hk ih =>
    rw [wpK_exit, hk]; intro h
    exact ⟨_, f, σ, execT_exit .., (popTo_contQ T bs n k).1 k' hk (ih h)⟩
  | case18 f σ id k hk =>
    rw [wpK_exit, hk]; intro h
    exact ⟨_, f, σ, execT_exit .., (popTo_contQ T bs n k).2 hk h⟩
  | case19 f σ k =>
    rw [wpK]; intro h
    have : ∀ k, contQ T bs n k Q .ret f σ := fun k => by
      induction k with
      | nil => exact h
      | cons x k ih => cases x <;> exact ih
    exact ⟨_, f, σ, execT_ret .., this k⟩
  | case20 f σ k c => rw [wpK]; exact id
  | case21 f σ l k ih => rw [wpK]; intro h; exact ⟨.normal, f, σ, execT_lab .., ih h⟩
  | case22 f σ c l rest k => rw [wpK]; exact id
  | case23 f σ x rc k => rw [wpK]; exact id
theorem wpC_sound {c : ACode} {f : FR} {σ : Heap} {Q : AExit → FR → Heap → Prop} (h : wpK T bs n [.code c] f σ Q) : W T bs n c f σ Q := by
  have := wpK_sound T bs n [.code c] f σ Q h
  exact W_mono T bs n this fun e f σ hq => by cases e <;> exact hq
theorem contQ_exit {id : Nat} {k : List Fr} {Q : AExit → FR → Heap → Prop} {f : FR} {σ : Heap} (h : exW T bs n (popTo id k) id f σ Q) : contQ T bs n k Q (.exit id) f σ := by
  cases hk : popTo id k with
  | some k' => rw [hk] at h; exact (popTo_contQ T bs n k).1 k' hk (wpK_sound T bs n k' f σ Q h)
  | none => rw [hk] at h; exact (popTo_contQ T bs n k).2 hk h
theorem contQ_ret {k : List Fr} {Q : AExit → FR → Heap → Prop} {f : FR} {σ : Heap} (h : Q .ret f σ) : contQ T bs n k Q .ret f σ := by
  induction k with
  | nil => exact h
  | cons x k ih => cases x <;> exact ih
end
def resF (n : Nat) (f : FR) (σ : Heap) : List ARes → Option (List AV)
  | [] => some []
  | .tmp t :: rs => (resF n f σ rs).map fun vs => evF n f (.t t) :: vs
  | .cell a sz ag :: rs => (loadA σ sz ag (evF n f (.t a))).bind fun v => (resF n f σ rs).map fun vs => v :: vs
theorem resA_lst (n : Nat) (f : FR) (σ : Heap) : ∀ rs, resA (lst n f) σ rs = resF n f σ rs
  | [] => rfl
  | .tmp t :: rs => by simp only [resA, resF, resA_lst n f σ rs, lst_getD, evF]
  | .cell a sz ag :: rs => by simp only [resA, resF, resA_lst n f σ rs, lst_getD, evF]
def endP (n : Nat) (rs : List ARes) (v : AV) : AExit → FR → Heap → Prop
  | .exit _, _, _ => False
  | _, f, σ => ∃ vs σ1, resF n f σ rs = some vs ∧ closeR σ (res1 vs) = some (v, σ1) ∧ v.datR = true
def argF (args : List AV) : FR := fun t => args.getD t .undef
theorem startA_lst {af : AFunc} {args : List AV} (h : args.length ≤ af.ntmps) : startA af args = lst af.ntmps (argF args) := by
  apply List.ext_getElem?
  intro t
  simp only [startA, lst, List.getElem?_map]
  rcases Nat.lt_or_ge t af.ntmps with h1 | h1
  · rw [List.getElem?_range h1]
    rcases Nat.lt_or_ge t args.length with h2 | h2
    · rw [List.getElem?_append_left h2]; simp [argF, h2]
    · rw [List.getElem?_append_right h2, List.getElem?_replicate, if_pos (by omega)]; simp [argF, Nat.not_lt.2 h2]
  · rw [List.getElem?_eq_none (by simp; omega), List.getElem?_eq_none (by simpa using h1)]; rfl
theorem pure_enter {T : Tab} {af : AFunc} {args : List AV} {v : AV} (h : args.length ≤ af.ntmps) (hw : wpK T 0 af.ntmps [.code af.body] (argF args) [] (endP af.ntmps af.res v)) : pureT T af args = some v := by
  obtain ⟨e, f', σ', hr, hk⟩ := wpC_sound T 0 af.ntmps hw
  unfold pureT
  rw [startA_lst h, hr]
  cases e with
  | exit id => exact hk.elim
  | normal =>
    obtain ⟨vs, σ1, h1, h2, h3⟩ := hk
    simp only [Option.bind_some, finP, resA_lst, h1, h2]
    rw [if_pos h3]
  | ret =>
    obtain ⟨vs, σ1, h1, h2, h3⟩ := hk
    simp only [Option.bind_some, finP, resA_lst, h1, h2]
    rw [if_pos h3]
def AV.clean0 : AV → Bool
  | .int _ _ | .bool _ | .str _ | .nilptr | .nilfunc | .isl _ false | .nilmap => true
  | _ => false
def AV.cleanC : AV → Bool
  | .iptr cs _ => cs.all AV.clo1
  | v => v.clean0
def AV.clean : AV → Bool
  | .agg cs => cs.all AV.clean0
  | .func _ cs => cs.all AV.cleanC
  | .meth _ cs => cs.all AV.cleanC
  | .iptr cs _ => cs.all AV.clo1
  | v => v.clean0
theorem clean0_close {σ : Heap} {v : AV} (h : v.clean0 = true) : close1 σ v = some (v, σ) ∧ v.clo1 = true := by
  cases v <;> first | exact ⟨rfl, rfl⟩ | (cases h; done) | skip
  rename_i es c
  cases c
  · exact ⟨rfl, rfl⟩
  · cases h
theorem clean_closeL {σ : Heap} : ∀ {l : List AV}, l.all AV.clean0 = true → closeL σ l = some (l, σ) ∧ l.all AV.clo1 = true
  | [], _ => ⟨rfl, rfl⟩
  | v :: l, h => by
    simp only [List.all_cons, Bool.and_eq_true] at h
    obtain ⟨h1, h2⟩ := clean0_close (σ := σ) h.1
    obtain ⟨h3, h4⟩ := clean_closeL (σ := σ) h.2
    exact ⟨by simp [closeL, h1, h3], by simp [h2, h4]⟩
theorem cleanC_close {σ : Heap} {v : AV} (h : v.cleanC = true) : closeP σ v = some (v, σ) ∧ v.cloC = true := by
  cases v <;> first | (cases h; done) | exact clean0_close h | exact ⟨rfl, h⟩
theorem clean_closePL {σ : Heap} : ∀ {l : List AV}, l.all AV.cleanC = true → closePL σ l = some (l, σ) ∧ l.all AV.cloC = true
  | [], _ => ⟨rfl, rfl⟩
  | v :: l, h => by
    simp only [List.all_cons, Bool.and_eq_true] at h
    obtain ⟨h1, h2⟩ := cleanC_close (σ := σ) h.1
    obtain ⟨h3, h4⟩ := clean_closePL (σ := σ) h.2
    exact ⟨by simp [closePL, h1, h3], by simp [h2, h4]⟩
theorem AV.dat1_of {x : AV} (h : x.clo1 = true) : x.dat1 = true := by cases x <;> first | exact h | (cases h; done)
theorem clean_close {σ : Heap} {v : AV} (h : v.clean = true) : closeA σ v = some (v, σ) ∧ v.dat = true := by
  cases v with
  | agg cs =>
    obtain ⟨h1, h2⟩ := clean_closeL (σ := σ) h
    refine ⟨by simp [closeA, h1], ?_⟩
    simp only [AV.dat, List.all_eq_true] at h2 ⊢
    exact fun x hx => AV.dat1_of (h2 x hx)
  | func f cs => obtain ⟨h1, h2⟩ := clean_closePL (σ := σ) h; exact ⟨by simp [closeA, h1], h2⟩
  | meth f cs => obtain ⟨h1, h2⟩ := clean_closePL (σ := σ) h; exact ⟨by simp [closeA, h1], h2⟩
  | iptr cs o => exact ⟨rfl, h⟩
  | _ =>
    simp only [AV.clean] at h
    exact ⟨(clean0_close (σ := σ) h).1, (clean0_close (σ := σ) h).2⟩
theorem clean_closeT {σ : Heap} : ∀ {l : List AV}, l.all AV.clean = true → closeT σ l = some (l, σ) ∧ l.all AV.dat = true
  | [], _ => ⟨rfl, rfl⟩
  | v :: l, h => by
    simp only [List.all_cons, Bool.and_eq_true] at h
    obtain ⟨h1, h2⟩ := clean_close (σ := σ) h.1
    obtain ⟨h3, h4⟩ := clean_closeT (σ := σ) h.2
    exact ⟨by simp [closeT, h1, h3], by simp [h2, h4]⟩
theorem call_pure {T : Tab} {f : Nat} {af : AFunc} {args args' : List AV} {v : AV} {bs : Nat} {σ σ' : Heap} (hp : T.pr f = none) (hf : T.fn f = some af) (hm : af.mode = .pure) (hc : closeT σ args = some (args', σ')) (hd : args'.all AV.dat = true) (h : pureT T af args' = some v) :
    callT T f args bs σ = some (v, if v.scal = true then σ else σ') := by
  rw [callT_pure T bs σ hp hf hm, hc]
  simp only [Option.bind_some, if_pos hd, h, Option.map_some]
theorem call_clean {T : Tab} {f : Nat} {af : AFunc} {args : List AV} {v : AV} {bs : Nat} {σ : Heap} (hp : T.pr f = none) (hf : T.fn f = some af) (hm : af.mode = .pure) (hc : args.all AV.clean = true) (h : pureT T af args = some v) :
    callT T f args bs σ = some (v, σ) := by rw [call_pure hp hf hm (clean_closeT hc).1 (clean_closeT (σ := σ) hc).2 h, ite_self]
@[simp] theorem evF_t (n : Nat) (f : FR) (t : Nat) : evF n f (.t t) = if t < n then f t else .undef := rfl
@[simp] theorem evF_c (n : Nat) (f : FR) (v : AV) : evF n f (.c v) = v := rfl
@[simp] theorem evF_f (n : Nat) (f : FR) (k : Nat) : evF n f (.f k) = .func k [] := rfl
@[simp] theorem upF_apply (f : FR) (d : Nat) (v : AV) (t : Nat) : upF f d v t = if t = d then v else f t := rfl
@[simp] theorem updO_some (f : FR) (d : Nat) (v : AV) : updO f (some d) v = upF f d v := rfl
@[simp] theorem updO_none (f : FR) (v : AV) : updO f none v = f := rfl
@[simp] theorem guardV_bool (b c : Bool) : guardV b (.bool c) = some (c == b) := rfl
@[simp] theorem guardV_tup (b : Bool) (l : List AV) : guardV b (.tup l) = some false := rfl
@[simp] theorem popTo_blk (id i : Nat) (k : List Fr) : popTo id (.blk i :: k) = if i = id then some k else popTo id k := rfl
@[simp] theorem popTo_code (id : Nat) (c : ACode) (k : List Fr) : popTo id (.code c :: k) = popTo id k := rfl
@[simp] theorem popTo_ops (id : Nat) (os : List AOper) (k : List Fr) : popTo id (.ops os :: k) = popTo id k := rfl
@[simp] theorem popTo_nil (id : Nat) : popTo id [] = none := rfl
@[simp] theorem argF_0 (a : AV) (l : List AV) : argF (a :: l) 0 = a := rfl
@[simp] theorem argF_s (a : AV) (l : List AV) (t : Nat) : argF (a :: l) (t + 1) = argF l t := by simp [argF]
@[simp] theorem argF_n (t : Nat) : argF [] t = .undef := by simp [argF]
section
variable (c : CallF) (bs : Nat) (ρ : Regs) (σ : Heap)
attribute [simp] fillA chunk setRun resF closeT closeL
@[simp] theorem window_z (l : List AV) (n : Nat) : window l 0 n = if n ≤ l.length then some (l.take n) else none := by simp [window]
@[simp] theorem window_s (a : AV) (l : List AV) (o n : Nat) : window (a :: l) (o + 1) n = window l o n := by
  simp only [window, List.length_cons, List.drop_succ_cons]
  by_cases h : o + n ≤ l.length
  · rw [if_pos h, if_pos (by omega)]
  · rw [if_neg h, if_neg (by omega)]
@[simp] theorem cells_undef : (AV.undef).cells = [AV.undef] := rfl
@[simp] theorem solid_undef : (AV.undef).solid = false := rfl
@[simp] theorem clo1_undef : (AV.undef).clo1 = false := rfl
@[simp] theorem clo_undef : (AV.undef).clo = false := rfl
@[simp] theorem dat_undef : (AV.undef).dat = false := rfl
@[simp] theorem dat1_undef : (AV.undef).dat1 = false := rfl
@[simp] theorem datR_undef : (AV.undef).datR = false := rfl
@[simp] theorem isSl_undef : isSl (AV.undef) = false := rfl
@[simp] theorem nrm_undef  : (AV.undef).nrm = (AV.undef) := rfl
@[simp] theorem nrm_int (k : IntKind) (n : Int) : (AV.int k n).nrm = (AV.int k n) := rfl
@[simp] theorem nrm_bool (b : Bool) : (AV.bool b).nrm = (AV.bool b) := rfl
@[simp] theorem nrm_str (s : ByteArray) : (AV.str s).nrm = (AV.str s) := rfl
@[simp] theorem nrm_nilptr  : (AV.nilptr).nrm = (AV.nilptr) := rfl
@[simp] theorem nrm_nilfunc  : (AV.nilfunc).nrm = (AV.nilfunc) := rfl
@[simp] theorem nrm_nilmap  : (AV.nilmap).nrm = (AV.nilmap) := rfl
@[simp] theorem nrm_ptr (i o : Nat) : (AV.ptr i o).nrm = (AV.ptr i o) := rfl
@[simp] theorem nrm_map (i : Nat) : (AV.map i).nrm = (AV.map i) := rfl
@[simp] theorem nrm_yld (i : Nat) : (AV.yld i).nrm = (AV.yld i) := rfl
@[simp] theorem nrm_iptr (cs : List AV) (o : Nat) : (AV.iptr cs o).nrm = (AV.iptr cs o) := rfl
@[simp] theorem nrm_own (i : Nat) (es : List AV) : (AV.own i es).nrm = (AV.own i es) := rfl
@[simp] theorem nrm_sl (i o l z : Nat) (g : Bool) : (AV.sl i o l z g).nrm = (AV.sl i o l z g) := rfl
@[simp] theorem nrm_func (f : Nat) (cs : List AV) : (AV.func f cs).nrm = (AV.func f cs) := rfl
@[simp] theorem nrm_meth (f : Nat) (cs : List AV) : (AV.meth f cs).nrm = (AV.meth f cs) := rfl
@[simp] theorem nrm_agg (cs : List AV) : (AV.agg cs).nrm = (AV.agg cs) := rfl
@[simp] theorem nrm_isl (es : List AV) (b : Bool) : (AV.isl es b).nrm = .isl es false := rfl
@[simp] theorem close1_undef : close1 σ (AV.undef) = some ((AV.undef), σ) := rfl
@[simp] theorem closeA_undef : closeA σ (AV.undef) = close1 σ (AV.undef) := rfl
@[simp] theorem closeR_undef : closeR σ (AV.undef) = closeA σ (AV.undef) := rfl
@[simp] theorem cells_int (k : IntKind) (n : Int) : (AV.int k n).cells = [AV.int k n] := rfl
@[simp] theorem solid_int (k : IntKind) (n : Int) : (AV.int k n).solid = true := rfl
@[simp] theorem clo1_int (k : IntKind) (n : Int) : (AV.int k n).clo1 = true := rfl
@[simp] theorem clo_int (k : IntKind) (n : Int) : (AV.int k n).clo = true := rfl
@[simp] theorem dat_int (k : IntKind) (n : Int) : (AV.int k n).dat = true := rfl
@[simp] theorem dat1_int (k : IntKind) (n : Int) : (AV.int k n).dat1 = true := rfl
@[simp] theorem datR_int (k : IntKind) (n : Int) : (AV.int k n).datR = true := rfl
@[simp] theorem isSl_int (k : IntKind) (n : Int) : isSl (AV.int k n) = false := rfl
@[simp] theorem close1_int (k : IntKind) (n : Int) : close1 σ (AV.int k n) = some ((AV.int k n), σ) := rfl
@[simp] theorem closeA_int (k : IntKind) (n : Int) : closeA σ (AV.int k n) = close1 σ (AV.int k n) := rfl
@[simp] theorem closeR_int (k : IntKind) (n : Int) : closeR σ (AV.int k n) = closeA σ (AV.int k n) := rfl
@[simp] theorem cells_bool (b : Bool) : (AV.bool b).cells = [AV.bool b] := rfl
@[simp] theorem solid_bool (b : Bool) : (AV.bool b).solid = true := rfl
@[simp] theorem clo1_bool (b : Bool) : (AV.bool b).clo1 = true := rfl
@[simp] theorem clo_bool (b : Bool) : (AV.bool b).clo = true := rfl
@[simp] theorem dat_bool (b : Bool) : (AV.bool b).dat = true := rfl
@[simp] theorem dat1_bool (b : Bool) : (AV.bool b).dat1 = true := rfl
@[simp] theorem datR_bool (b : Bool) : (AV.bool b).datR = true := rfl
@[simp] theorem isSl_bool (b : Bool) : isSl (AV.bool b) = false := rfl
@[simp] theorem close1_bool (b : Bool) : close1 σ (AV.bool b) = some ((AV.bool b), σ) := rfl
@[simp] theorem closeA_bool (b : Bool) : closeA σ (AV.bool b) = close1 σ (AV.bool b) := rfl
@[simp] theorem closeR_bool (b : Bool) : closeR σ (AV.bool b) = closeA σ (AV.bool b) := rfl
@[simp] theorem cells_str (s : ByteArray) : (AV.str s).cells = [AV.str s] := rfl
@[simp] theorem solid_str (s : ByteArray) : (AV.str s).solid = true := rfl
@[simp] theorem clo1_str (s : ByteArray) : (AV.str s).clo1 = true := rfl
@[simp] theorem clo_str (s : ByteArray) : (AV.str s).clo = true := rfl
@[simp] theorem dat_str (s : ByteArray) : (AV.str s).dat = true := rfl
@[simp] theorem dat1_str (s : ByteArray) : (AV.str s).dat1 = true := rfl
@[simp] theorem datR_str (s : ByteArray) : (AV.str s).datR = true := rfl
@[simp] theorem isSl_str (s : ByteArray) : isSl (AV.str s) = false := rfl
@[simp] theorem close1_str (s : ByteArray) : close1 σ (AV.str s) = some ((AV.str s), σ) := rfl
@[simp] theorem closeA_str (s : ByteArray) : closeA σ (AV.str s) = close1 σ (AV.str s) := rfl
@[simp] theorem closeR_str (s : ByteArray) : closeR σ (AV.str s) = closeA σ (AV.str s) := rfl
@[simp] theorem cells_nilptr : (AV.nilptr).cells = [AV.nilptr] := rfl
@[simp] theorem solid_nilptr : (AV.nilptr).solid = true := rfl
@[simp] theorem clo1_nilptr : (AV.nilptr).clo1 = true := rfl
@[simp] theorem clo_nilptr : (AV.nilptr).clo = true := rfl
@[simp] theorem dat_nilptr : (AV.nilptr).dat = true := rfl
@[simp] theorem dat1_nilptr : (AV.nilptr).dat1 = true := rfl
@[simp] theorem datR_nilptr : (AV.nilptr).datR = true := rfl
@[simp] theorem isSl_nilptr : isSl (AV.nilptr) = false := rfl
@[simp] theorem close1_nilptr : close1 σ (AV.nilptr) = some ((AV.nilptr), σ) := rfl
@[simp] theorem closeA_nilptr : closeA σ (AV.nilptr) = close1 σ (AV.nilptr) := rfl
@[simp] theorem closeR_nilptr : closeR σ (AV.nilptr) = closeA σ (AV.nilptr) := rfl
@[simp] theorem cells_nilfunc : (AV.nilfunc).cells = [AV.nilfunc] := rfl
@[simp] theorem cells_nilmap : (AV.nilmap).cells = [AV.nilmap] := rfl
@[simp] theorem solid_nilfunc : (AV.nilfunc).solid = true := rfl
@[simp] theorem solid_nilmap : (AV.nilmap).solid = true := rfl
@[simp] theorem clo1_nilfunc : (AV.nilfunc).clo1 = true := rfl
@[simp] theorem clo1_nilmap : (AV.nilmap).clo1 = true := rfl
@[simp] theorem clo_nilfunc : (AV.nilfunc).clo = true := rfl
@[simp] theorem clo_nilmap : (AV.nilmap).clo = true := rfl
@[simp] theorem dat_nilfunc : (AV.nilfunc).dat = true := rfl
@[simp] theorem dat_nilmap : (AV.nilmap).dat = true := rfl
@[simp] theorem dat1_nilfunc : (AV.nilfunc).dat1 = true := rfl
@[simp] theorem dat1_nilmap : (AV.nilmap).dat1 = true := rfl
@[simp] theorem datR_nilfunc : (AV.nilfunc).datR = true := rfl
@[simp] theorem datR_nilmap : (AV.nilmap).datR = true := rfl
@[simp] theorem isSl_nilfunc : isSl (AV.nilfunc) = false := rfl
@[simp] theorem isSl_nilmap : isSl (AV.nilmap) = false := rfl
@[simp] theorem close1_nilfunc : close1 σ (AV.nilfunc) = some ((AV.nilfunc), σ) := rfl
@[simp] theorem close1_nilmap : close1 σ (AV.nilmap) = some ((AV.nilmap), σ) := rfl
@[simp] theorem closeA_nilfunc : closeA σ (AV.nilfunc) = close1 σ (AV.nilfunc) := rfl
@[simp] theorem closeA_nilmap : closeA σ (AV.nilmap) = close1 σ (AV.nilmap) := rfl
@[simp] theorem closeR_nilfunc : closeR σ (AV.nilfunc) = closeA σ (AV.nilfunc) := rfl
@[simp] theorem closeR_nilmap : closeR σ (AV.nilmap) = closeA σ (AV.nilmap) := rfl
@[simp] theorem cells_ptr (i o : Nat) : (AV.ptr i o).cells = [AV.ptr i o] := rfl
@[simp] theorem cells_map (i : Nat) : (AV.map i).cells = [AV.map i] := rfl
@[simp] theorem cells_yld (i : Nat) : (AV.yld i).cells = [AV.yld i] := rfl
@[simp] theorem solid_ptr (i o : Nat) : (AV.ptr i o).solid = true := rfl
@[simp] theorem solid_map (i : Nat) : (AV.map i).solid = true := rfl
@[simp] theorem solid_yld (i : Nat) : (AV.yld i).solid = true := rfl
@[simp] theorem clo1_ptr (i o : Nat) : (AV.ptr i o).clo1 = false := rfl
@[simp] theorem clo1_map (i : Nat) : (AV.map i).clo1 = false := rfl
@[simp] theorem clo1_yld (i : Nat) : (AV.yld i).clo1 = false := rfl
@[simp] theorem clo_ptr (i o : Nat) : (AV.ptr i o).clo = false := rfl
@[simp] theorem clo_map (i : Nat) : (AV.map i).clo = false := rfl
@[simp] theorem clo_yld (i : Nat) : (AV.yld i).clo = false := rfl
@[simp] theorem dat_ptr (i o : Nat) : (AV.ptr i o).dat = false := rfl
@[simp] theorem dat_map (i : Nat) : (AV.map i).dat = false := rfl
@[simp] theorem dat_yld (i : Nat) : (AV.yld i).dat = false := rfl
@[simp] theorem dat1_ptr (i o : Nat) : (AV.ptr i o).dat1 = false := rfl
@[simp] theorem dat1_map (i : Nat) : (AV.map i).dat1 = false := rfl
@[simp] theorem dat1_yld (i : Nat) : (AV.yld i).dat1 = false := rfl
@[simp] theorem datR_ptr (i o : Nat) : (AV.ptr i o).datR = false := rfl
@[simp] theorem datR_map (i : Nat) : (AV.map i).datR = false := rfl
@[simp] theorem datR_yld (i : Nat) : (AV.yld i).datR = false := rfl
@[simp] theorem isSl_ptr (i o : Nat) : isSl (AV.ptr i o) = false := rfl
@[simp] theorem isSl_map (i : Nat) : isSl (AV.map i) = false := rfl
@[simp] theorem isSl_yld (i : Nat) : isSl (AV.yld i) = false := rfl
@[simp] theorem close1_ptr (i o : Nat) : close1 σ (AV.ptr i o) = some ((AV.ptr i o), σ) := rfl
@[simp] theorem close1_map (i : Nat) : close1 σ (AV.map i) = some ((AV.map i), σ) := rfl
@[simp] theorem close1_yld (i : Nat) : close1 σ (AV.yld i) = some ((AV.yld i), σ) := rfl
@[simp] theorem closeA_ptr (i o : Nat) : closeA σ (AV.ptr i o) = close1 σ (AV.ptr i o) := rfl
@[simp] theorem closeA_map (i : Nat) : closeA σ (AV.map i) = close1 σ (AV.map i) := rfl
@[simp] theorem closeA_yld (i : Nat) : closeA σ (AV.yld i) = close1 σ (AV.yld i) := rfl
@[simp] theorem closeR_ptr (i o : Nat) : closeR σ (AV.ptr i o) = closeA σ (AV.ptr i o) := rfl
@[simp] theorem closeR_map (i : Nat) : closeR σ (AV.map i) = closeA σ (AV.map i) := rfl
@[simp] theorem closeR_yld (i : Nat) : closeR σ (AV.yld i) = closeA σ (AV.yld i) := rfl
@[simp] theorem cells_iptr (cs : List AV) (o : Nat) : (AV.iptr cs o).cells = [AV.iptr cs o] := rfl
@[simp] theorem solid_iptr (cs : List AV) (o : Nat) : (AV.iptr cs o).solid = true := rfl
@[simp] theorem clo1_iptr (cs : List AV) (o : Nat) : (AV.iptr cs o).clo1 = false := rfl
@[simp] theorem clo_iptr (cs : List AV) (o : Nat) : (AV.iptr cs o).clo = false := rfl
@[simp] theorem dat_iptr (cs : List AV) (o : Nat) : (AV.iptr cs o).dat = cs.all AV.clo1 := rfl
@[simp] theorem dat1_iptr (cs : List AV) (o : Nat) : (AV.iptr cs o).dat1 = cs.all AV.clo1 := rfl
@[simp] theorem datR_iptr (cs : List AV) (o : Nat) : (AV.iptr cs o).datR = cs.all AV.clo1 := rfl
@[simp] theorem isSl_iptr (cs : List AV) (o : Nat) : isSl (AV.iptr cs o) = false := rfl
@[simp] theorem close1_iptr (cs : List AV) (o : Nat) : close1 σ (AV.iptr cs o) = some ((AV.iptr cs o), σ) := rfl
@[simp] theorem closeA_iptr (cs : List AV) (o : Nat) : closeA σ (AV.iptr cs o) = close1 σ (AV.iptr cs o) := rfl
@[simp] theorem closeR_iptr (cs : List AV) (o : Nat) : closeR σ (AV.iptr cs o) = closeA σ (AV.iptr cs o) := rfl
@[simp] theorem cells_isl (es : List AV) (b : Bool) : (AV.isl es b).cells = [AV.isl es b] := rfl
@[simp] theorem solid_isl (es : List AV) (b : Bool) : (AV.isl es b).solid = true := rfl
@[simp] theorem clo1_isl (es : List AV) (b : Bool) : (AV.isl es b).clo1 = true := rfl
@[simp] theorem clo_isl (es : List AV) (b : Bool) : (AV.isl es b).clo = true := rfl
@[simp] theorem dat_isl (es : List AV) (b : Bool) : (AV.isl es b).dat = true := rfl
@[simp] theorem dat1_isl (es : List AV) (b : Bool) : (AV.isl es b).dat1 = true := rfl
@[simp] theorem datR_isl (es : List AV) (b : Bool) : (AV.isl es b).datR = true := rfl
@[simp] theorem isSl_isl (es : List AV) (b : Bool) : isSl (AV.isl es b) = true := rfl
@[simp] theorem closeA_isl (es : List AV) (b : Bool) : closeA σ (AV.isl es b) = close1 σ (AV.isl es b) := rfl
@[simp] theorem closeR_isl (es : List AV) (b : Bool) : closeR σ (AV.isl es b) = closeA σ (AV.isl es b) := rfl
@[simp] theorem cells_own (i : Nat) (es : List AV) : (AV.own i es).cells = [AV.own i es] := rfl
@[simp] theorem solid_own (i : Nat) (es : List AV) : (AV.own i es).solid = true := rfl
@[simp] theorem clo1_own (i : Nat) (es : List AV) : (AV.own i es).clo1 = false := rfl
@[simp] theorem clo_own (i : Nat) (es : List AV) : (AV.own i es).clo = false := rfl
@[simp] theorem dat_own (i : Nat) (es : List AV) : (AV.own i es).dat = false := rfl
@[simp] theorem dat1_own (i : Nat) (es : List AV) : (AV.own i es).dat1 = false := rfl
@[simp] theorem datR_own (i : Nat) (es : List AV) : (AV.own i es).datR = false := rfl
@[simp] theorem isSl_own (i : Nat) (es : List AV) : isSl (AV.own i es) = true := rfl
@[simp] theorem closeA_own (i : Nat) (es : List AV) : closeA σ (AV.own i es) = close1 σ (AV.own i es) := rfl
@[simp] theorem closeR_own (i : Nat) (es : List AV) : closeR σ (AV.own i es) = closeA σ (AV.own i es) := rfl
@[simp] theorem cells_sl (i o l z : Nat) (g : Bool) : (AV.sl i o l z g).cells = [AV.sl i o l z g] := rfl
@[simp] theorem solid_sl (i o l z : Nat) (g : Bool) : (AV.sl i o l z g).solid = true := rfl
@[simp] theorem clo1_sl (i o l z : Nat) (g : Bool) : (AV.sl i o l z g).clo1 = false := rfl
@[simp] theorem clo_sl (i o l z : Nat) (g : Bool) : (AV.sl i o l z g).clo = false := rfl
@[simp] theorem dat_sl (i o l z : Nat) (g : Bool) : (AV.sl i o l z g).dat = false := rfl
@[simp] theorem dat1_sl (i o l z : Nat) (g : Bool) : (AV.sl i o l z g).dat1 = false := rfl
@[simp] theorem datR_sl (i o l z : Nat) (g : Bool) : (AV.sl i o l z g).datR = false := rfl
@[simp] theorem isSl_sl (i o l z : Nat) (g : Bool) : isSl (AV.sl i o l z g) = true := rfl
@[simp] theorem closeA_sl (i o l z : Nat) (g : Bool) : closeA σ (AV.sl i o l z g) = close1 σ (AV.sl i o l z g) := rfl
@[simp] theorem closeR_sl (i o l z : Nat) (g : Bool) : closeR σ (AV.sl i o l z g) = closeA σ (AV.sl i o l z g) := rfl
@[simp] theorem cells_func (f : Nat) (cs : List AV) : (AV.func f cs).cells = [AV.func f cs] := rfl
@[simp] theorem solid_func (f : Nat) (cs : List AV) : (AV.func f cs).solid = true := rfl
@[simp] theorem clo1_func (f : Nat) (cs : List AV) : (AV.func f cs).clo1 = false := rfl
@[simp] theorem clo_func (f : Nat) (cs : List AV) : (AV.func f cs).clo = false := rfl
@[simp] theorem dat_func (f : Nat) (cs : List AV) : (AV.func f cs).dat = cs.all AV.cloC := rfl
@[simp] theorem dat1_func (f : Nat) (cs : List AV) : (AV.func f cs).dat1 = cs.all AV.cloC := rfl
@[simp] theorem datR_func (f : Nat) (cs : List AV) : (AV.func f cs).datR = cs.all AV.cloC := rfl
@[simp] theorem isSl_func (f : Nat) (cs : List AV) : isSl (AV.func f cs) = false := rfl
@[simp] theorem close1_func (f : Nat) (cs : List AV) : close1 σ (AV.func f cs) = some ((AV.func f cs), σ) := rfl
@[simp] theorem closeA_func (f : Nat) (cs : List AV) : closeA σ (AV.func f cs) = (closePL σ cs).map fun x => (.func f x.1, x.2) := rfl
@[simp] theorem closeR_func (f : Nat) (cs : List AV) : closeR σ (AV.func f cs) = closeA σ (AV.func f cs) := rfl
@[simp] theorem cells_meth (f : Nat) (cs : List AV) : (AV.meth f cs).cells = [AV.meth f cs] := rfl
@[simp] theorem solid_meth (f : Nat) (cs : List AV) : (AV.meth f cs).solid = true := rfl
@[simp] theorem clo1_meth (f : Nat) (cs : List AV) : (AV.meth f cs).clo1 = false := rfl
@[simp] theorem clo_meth (f : Nat) (cs : List AV) : (AV.meth f cs).clo = false := rfl
@[simp] theorem dat_meth (f : Nat) (cs : List AV) : (AV.meth f cs).dat = cs.all AV.cloC := rfl
@[simp] theorem dat1_meth (f : Nat) (cs : List AV) : (AV.meth f cs).dat1 = cs.all AV.cloC := rfl
@[simp] theorem datR_meth (f : Nat) (cs : List AV) : (AV.meth f cs).datR = cs.all AV.cloC := rfl
@[simp] theorem isSl_meth (f : Nat) (cs : List AV) : isSl (AV.meth f cs) = false := rfl
@[simp] theorem close1_meth (f : Nat) (cs : List AV) : close1 σ (AV.meth f cs) = some ((AV.meth f cs), σ) := rfl
@[simp] theorem closeA_meth (f : Nat) (cs : List AV) : closeA σ (AV.meth f cs) = (closePL σ cs).map fun x => (.meth f x.1, x.2) := rfl
@[simp] theorem closeR_meth (f : Nat) (cs : List AV) : closeR σ (AV.meth f cs) = closeA σ (AV.meth f cs) := rfl
@[simp] theorem cells_agg (cs : List AV) : (AV.agg cs).cells = cs := rfl
@[simp] theorem solid_agg (cs : List AV) : (AV.agg cs).solid = true := rfl
@[simp] theorem clo1_agg (cs : List AV) : (AV.agg cs).clo1 = false := rfl
@[simp] theorem clo_agg (cs : List AV) : (AV.agg cs).clo = cs.all AV.clo1 := rfl
@[simp] theorem dat_agg (cs : List AV) : (AV.agg cs).dat = cs.all AV.dat1 := rfl
@[simp] theorem dat1_agg (cs : List AV) : (AV.agg cs).dat1 = false := rfl
@[simp] theorem datR_agg (cs : List AV) : (AV.agg cs).datR = cs.all AV.dat1 := rfl
@[simp] theorem isSl_agg (cs : List AV) : isSl (AV.agg cs) = false := rfl
@[simp] theorem closeR_agg (cs : List AV) : closeR σ (AV.agg cs) = closeA σ (AV.agg cs) := rfl
@[simp] theorem cells_tup (vs : List AV) : (AV.tup vs).cells = [AV.tup vs] := rfl
@[simp] theorem solid_tup (vs : List AV) : (AV.tup vs).solid = false := rfl
@[simp] theorem clo1_tup (vs : List AV) : (AV.tup vs).clo1 = false := rfl
@[simp] theorem clo_tup (vs : List AV) : (AV.tup vs).clo = false := rfl
@[simp] theorem dat_tup (vs : List AV) : (AV.tup vs).dat = false := rfl
@[simp] theorem dat1_tup (vs : List AV) : (AV.tup vs).dat1 = false := rfl
@[simp] theorem datR_tup (vs : List AV) : (AV.tup vs).datR = vs.all AV.dat := rfl
@[simp] theorem isSl_tup (vs : List AV) : isSl (AV.tup vs) = false := rfl
@[simp] theorem close1_tup (vs : List AV) : close1 σ (AV.tup vs) = some ((AV.tup vs), σ) := rfl
@[simp] theorem closeA_tup (vs : List AV) : closeA σ (AV.tup vs) = close1 σ (AV.tup vs) := rfl
@[simp] theorem close1_isl (es : List AV) (b : Bool) : close1 σ (.isl es b) = some (.isl es false, σ) := rfl
@[simp] theorem close1_own (i : Nat) (es : List AV) : close1 σ (.own i es) = some (.isl es false, σ) := rfl
@[simp] theorem close1_agg (cs : List AV) : close1 σ (.agg cs) = some (.agg cs, σ) := rfl
@[simp] theorem cloC_undef : (AV.undef).cloC = false := rfl
@[simp] theorem closeP_undef : closeP σ (AV.undef) = close1 σ (AV.undef) := rfl
@[simp] theorem cloC_int (k : IntKind) (n : Int) : (AV.int k n).cloC = true := rfl
@[simp] theorem closeP_int (k : IntKind) (n : Int) : closeP σ (AV.int k n) = close1 σ (AV.int k n) := rfl
@[simp] theorem cloC_bool (b : Bool) : (AV.bool b).cloC = true := rfl
@[simp] theorem closeP_bool (b : Bool) : closeP σ (AV.bool b) = close1 σ (AV.bool b) := rfl
@[simp] theorem cloC_str (s : ByteArray) : (AV.str s).cloC = true := rfl
@[simp] theorem closeP_str (s : ByteArray) : closeP σ (AV.str s) = close1 σ (AV.str s) := rfl
@[simp] theorem cloC_nilptr : (AV.nilptr).cloC = true := rfl
@[simp] theorem closeP_nilptr : closeP σ (AV.nilptr) = close1 σ (AV.nilptr) := rfl
@[simp] theorem cloC_nilfunc : (AV.nilfunc).cloC = true := rfl
@[simp] theorem cloC_nilmap : (AV.nilmap).cloC = true := rfl
@[simp] theorem closeP_nilfunc : closeP σ (AV.nilfunc) = close1 σ (AV.nilfunc) := rfl
@[simp] theorem closeP_nilmap : closeP σ (AV.nilmap) = close1 σ (AV.nilmap) := rfl
@[simp] theorem cloC_ptr (i o : Nat) : (AV.ptr i o).cloC = false := rfl
@[simp] theorem cloC_map (i : Nat) : (AV.map i).cloC = false := rfl
@[simp] theorem closeP_map (i : Nat) : closeP σ (AV.map i) = close1 σ (AV.map i) := rfl
@[simp] theorem cloC_yld (i : Nat) : (AV.yld i).cloC = false := rfl
@[simp] theorem closeP_yld (i : Nat) : closeP σ (AV.yld i) = close1 σ (AV.yld i) := rfl
@[simp] theorem cloC_iptr (cs : List AV) (o : Nat) : (AV.iptr cs o).cloC = cs.all AV.clo1 := rfl
@[simp] theorem closeP_iptr (cs : List AV) (o : Nat) : closeP σ (AV.iptr cs o) = close1 σ (AV.iptr cs o) := rfl
@[simp] theorem cloC_isl (es : List AV) (b : Bool) : (AV.isl es b).cloC = true := rfl
@[simp] theorem closeP_isl (es : List AV) (b : Bool) : closeP σ (AV.isl es b) = close1 σ (AV.isl es b) := rfl
@[simp] theorem cloC_own (i : Nat) (es : List AV) : (AV.own i es).cloC = false := rfl
@[simp] theorem closeP_own (i : Nat) (es : List AV) : closeP σ (AV.own i es) = close1 σ (AV.own i es) := rfl
@[simp] theorem cloC_sl (i o l z : Nat) (g : Bool) : (AV.sl i o l z g).cloC = false := rfl
@[simp] theorem closeP_sl (i o l z : Nat) (g : Bool) : closeP σ (AV.sl i o l z g) = close1 σ (AV.sl i o l z g) := rfl
@[simp] theorem cloC_func (f : Nat) (cs : List AV) : (AV.func f cs).cloC = false := rfl
@[simp] theorem closeP_func (f : Nat) (cs : List AV) : closeP σ (AV.func f cs) = close1 σ (AV.func f cs) := rfl
@[simp] theorem cloC_meth (f : Nat) (cs : List AV) : (AV.meth f cs).cloC = false := rfl
@[simp] theorem closeP_meth (f : Nat) (cs : List AV) : closeP σ (AV.meth f cs) = close1 σ (AV.meth f cs) := rfl
@[simp] theorem cloC_agg (cs : List AV) : (AV.agg cs).cloC = false := rfl
@[simp] theorem closeP_agg (cs : List AV) : closeP σ (AV.agg cs) = close1 σ (AV.agg cs) := rfl
@[simp] theorem cloC_tup (vs : List AV) : (AV.tup vs).cloC = false := rfl
@[simp] theorem closeP_tup (vs : List AV) : closeP σ (AV.tup vs) = close1 σ (AV.tup vs) := rfl
@[simp] theorem closeP_ptr (id off : Nat) : closeP σ (.ptr id off) = (match σ[id]? with | some (.cells cs fz ext) => (closeL (frz σ id cs.length) cs).bind fun x => if x.1.all AV.clo1 = true then some (.iptr x.1 off, x.2) else none | _ => none) := rfl
@[simp] theorem closePL_nil : closePL σ [] = some ([], σ) := rfl
@[simp] theorem closePL_cons (v : AV) (vs : List AV) : closePL σ (v :: vs) = (closeP σ v).bind fun x => (closePL x.2 vs).map fun y => (x.1 :: y.1, y.2) := rfl
@[simp] theorem closeA_agg (cs : List AV) : closeA σ (.agg cs) = (closeL σ cs).map fun x => (.agg x.1, x.2) := rfl
@[simp] theorem closeR_tup (vs : List AV) : closeR σ (.tup vs) = (closeT σ vs).map fun x => (.tup x.1, x.2) := rfl
@[simp] theorem mk_true (w : List AV) : mk true w = some (.agg w) := rfl
@[simp] theorem mk_one (v : AV) : mk false [v] = some v := rfl
@[simp] theorem lenA_isl (es : List AV) (b : Bool) : lenA (.isl es b) = some es.length := rfl
@[simp] theorem lenA_own (i : Nat) (es : List AV) : lenA (.own i es) = some es.length := rfl
@[simp] theorem lenA_sl (i o l z : Nat) (g : Bool) : lenA (.sl i o l z g) = some l := rfl
@[simp] theorem lenA_str (s : ByteArray) : lenA (.str s) = some s.size := rfl
@[simp] theorem notNil_isl_cons (e : AV) (es : List AV) (b : Bool) : notNil (.isl (e :: es) b) = true := rfl
@[simp] theorem notNil_own (i : Nat) (es : List AV) : notNil (.own i es) = true := rfl
@[simp] theorem notNil_sl (i o l z : Nat) (g : Bool) : notNil (.sl i o l z g) = true := rfl
@[simp] theorem res1_one (v : AV) : res1 [v] = v := rfl
@[simp] theorem res1_two (v u : AV) (l : List AV) : res1 (v :: u :: l) = .tup (v :: u :: l) := rfl
@[simp] theorem res1_nil : res1 [] = .tup [] := rfl
@[simp] theorem loadA_ptr (sz : Nat) (ag : Bool) (id off : Nat) : loadA σ sz ag (.ptr id off) = (match σ[id]? with | some (.cells cs _ _) => (window cs off sz).bind (mk ag) | _ => none) := rfl
@[simp] theorem loadA_iptr (sz : Nat) (ag : Bool) (cs : List AV) (off : Nat) : loadA σ sz ag (.iptr cs off) = (window cs off sz).bind (mk ag) := rfl
@[simp] theorem storeA_ptr (sz : Nat) (v : AV) (id off : Nat) : storeA bs σ sz v (.ptr id off) = (match σ[id]? with | some (.cells cs fz ext) => if fz ≤ off ∧ off + sz ≤ cs.length ∧ v.solid = true ∧ v.cells.length = sz ∧ (bs ≤ id ∨ v.cells.all AV.clo1 = true) then some (σ.set id (.cells (setRun cs off v.cells) fz ext)) else none | _ => none) := rfl
@[simp] theorem endP_ret (n : Nat) (f : FR) (rs : List ARes) (v : AV) : endP n rs v .ret f σ = ∃ vs σ1, resF n f σ rs = some vs ∧ closeR σ (res1 vs) = some (v, σ1) ∧ v.datR = true := rfl
@[simp] theorem endP_normal (n : Nat) (f : FR) (rs : List ARes) (v : AV) : endP n rs v .normal f σ = ∃ vs σ1, resF n f σ rs = some vs ∧ closeR σ (res1 vs) = some (v, σ1) ∧ v.datR = true := rfl
@[simp] theorem st_mv (x : AX) : stepAll c bs ρ σ (.mv x) = some (ev ρ x, σ) := rfl
@[simp] theorem st_bin (op : BinOp) (x y : AX) : stepAll c bs ρ σ (.bin op x y) = (binA op (ev ρ x) (ev ρ y)).map fun v => (v, σ) := rfl
@[simp] theorem st_un (op : UnOp) (x : AX) : stepAll c bs ρ σ (.un op x) = (unA op (ev ρ x)).map fun v => (v, σ) := rfl
@[simp] theorem callN_eq (f : Nat) (args : List AV) (h : f ≠ 18446744073709551616) : callN c f args bs σ = c f args bs σ := if_neg h
@[simp] theorem st_call (f : Nat) (args : List AX) : stepAll c bs ρ σ (.call f args) = callN c f (args.map (ev ρ)) bs σ := rfl
def callV (c : CallF) (bs : Nat) (args : List AV) (σ : Heap) : AV → Option (AV × Heap)
  | .func f caps => callN c f (args ++ caps) bs σ
  | .meth f first => callN c f (first ++ args) bs σ
  | .yld id => c 18446744073709551616 (.yld id :: args) bs σ
  | _ => none
@[simp] theorem st_callv (x : AX) (args : List AX) : stepAll c bs ρ σ (.callv x args) = callV c bs (args.map (ev ρ)) σ (ev ρ x) := by
  simp only [stepAll, callV]; cases ev ρ x <;> rfl
@[simp] theorem callV_meth (args : List AV) (f : Nat) (first : List AV) : callV c bs args σ (.meth f first) = callN c f (first ++ args) bs σ := rfl
@[simp] theorem callV_func (args : List AV) (f : Nat) (caps : List AV) : callV c bs args σ (.func f caps) = callN c f (args ++ caps) bs σ := rfl
@[simp] theorem callV_yld (args : List AV) (id : Nat) : callV c bs args σ (.yld id) = c 18446744073709551616 (.yld id :: args) bs σ := rfl
def pickV (a b : AV) (σ : Heap) : AV → Option (AV × Heap)
  | .bool true => some (a, σ)
  | .bool false => some (b, σ)
  | _ => none
@[simp] theorem st_pick (x a b : AX) : stepAll c bs ρ σ (.pick x a b) = pickV (ev ρ a) (ev ρ b) σ (ev ρ x) := rfl
@[simp] theorem pickV_true (a b : AV) : pickV a b σ (.bool true) = some (a, σ) := rfl
@[simp] theorem pickV_false (a b : AV) : pickV a b σ (.bool false) = some (b, σ) := rfl
@[simp] theorem st_allocB (t e : Nat) : stepAll c bs ρ σ (.allocB t e) = some (.ptr σ.length 0, σ ++ [.bld t e []]) := rfl
@[simp] theorem st_alloc (zs : List AV) : stepAll c bs ρ σ (.alloc zs) = some (.ptr σ.length 0, σ ++ [.cells zs 0 false]) := rfl
@[simp] theorem st_box (x : AX) : stepAll c bs ρ σ (.box x) = if (ev ρ x).solid = true then some (.ptr σ.length 0, σ ++ [.cells (ev ρ x).cells 0 false]) else none := rfl
@[simp] theorem st_build (zs : List AV) (ps : List (Nat × Nat × AX)) : stepAll c bs ρ σ (.build zs ps) = (fillA ρ zs ps).map fun cs => (.agg cs, σ) := rfl
@[simp] theorem st_buildSl (n sz : Nat) (ag : Bool) (zs : List AV) (ps : List (Nat × Nat × AX)) : stepAll c bs ρ σ (.buildSl n sz ag zs ps) = (fillA ρ zs ps).map fun cs => (.sl σ.length 0 n sz ag, σ ++ [.cells cs 0 false]) := rfl
@[simp] theorem st_load (sz : Nat) (ag : Bool) (x : AX) : stepAll c bs ρ σ (.load sz ag x) = (loadA σ sz ag (ev ρ x)).map fun v => (v, σ) := rfl
@[simp] theorem st_store (sz : Nat) (a x : AX) : stepAll c bs ρ σ (.store sz a x) = (storeA bs σ sz (ev ρ x) (ev ρ a)).map fun σ' => (.undef, σ') := rfl
def nilckV (σ : Heap) : AV → Option (AV × Heap)
  | .ptr id off => some (.ptr id off, σ)
  | .iptr cs off => some (.iptr cs off, σ)
  | .func f caps => some (.func f caps, σ)
  | .meth f caps => some (.meth f caps, σ)
  | _ => none
@[simp] theorem st_nilck (x : AX) : stepAll c bs ρ σ (.nilck x) = nilckV σ (ev ρ x) := rfl
@[simp] theorem nilckV_ptr (id off : Nat) : nilckV σ (.ptr id off) = some (.ptr id off, σ) := rfl
@[simp] theorem nilckV_iptr (cs : List AV) (off : Nat) : nilckV σ (.iptr cs off) = some (.iptr cs off, σ) := rfl
@[simp] theorem nilckV_meth (f : Nat) (caps : List AV) : nilckV σ (.meth f caps) = some (.meth f caps, σ) := rfl
@[simp] theorem nilckV_func (f : Nat) (caps : List AV) : nilckV σ (.func f caps) = some (.func f caps, σ) := rfl
def eqbV (neg : Bool) : AV → AV → Option AV
  | .bool a, .bool b => some (.bool (neg != (a == b)))
  | _, _ => none
@[simp] theorem st_eqb (neg : Bool) (x y : AX) : stepAll c bs ρ σ (.eqb neg x y) = (eqbV neg (ev ρ x) (ev ρ y)).map fun v => (v, σ) := by
  simp only [stepAll, stepOp, eqbV]; cases ev ρ x <;> first | rfl | (cases ev ρ y <;> rfl)
@[simp] theorem eqbV_bool (neg a b : Bool) : eqbV neg (.bool a) (.bool b) = some (.bool (neg != (a == b))) := rfl
@[simp] theorem st_mkmap : stepAll c bs ρ σ .mkmap = some (.map σ.length, σ ++ [.mp []]) := rfl
@[simp] theorem st_mlook (ag : Bool) (ks : List Nat) (zv : AV) (ok : Bool) (x k : AX) : stepAll c bs ρ σ (.mlook ag ks zv ok x k) = (mlookA σ ag ks zv ok (ev ρ x) (ev ρ k)).map fun v => (v, σ) := rfl
@[simp] theorem st_mset (ag : Bool) (ks : List Nat) (m k v : AX) : stepAll c bs ρ σ (.mset ag ks m k v) = (msetA σ ag ks (ev ρ m) (ev ρ k) (ev ρ v)).map fun σ' => (.undef, σ') := rfl
@[simp] theorem st_eqag (neg : Bool) (ks : List Nat) (x y : AX) : stepAll c bs ρ σ (.eqag neg ks x y) = (eqagV neg ks (ev ρ x) (ev ρ y)).map fun v => (v, σ) := rfl
@[simp] theorem eqagV_agg (neg : Bool) (ks : List Nat) (cs ds : List AV) : eqagV neg ks (.agg cs) (.agg ds) = (eqcs ks cs ds).map fun r => .bool (neg != r) := rfl
@[simp] theorem eqcs_nil : eqcs [] [] [] = some true := rfl
@[simp] theorem eqcs_int (ks : List Nat) (k : IntKind) (a b : Int) (cs ds : List AV) : eqcs (0 :: ks) (.int k a :: cs) (.int k b :: ds) = (eqcs ks cs ds).map fun r => (a == b) && r := by simp [eqcs]
@[simp] theorem eqcs_str (ks : List Nat) (a b : ByteArray) (cs ds : List AV) : eqcs (2 :: ks) (.str a :: cs) (.str b :: ds) = (eqcs ks cs ds).map fun r => (decide (a = b)) && r := by
  simp only [eqcs]
  congr 1; funext r; congr 1
  rw [Bool.eq_iff_iff, beq_iff_eq, decide_eq_true_eq]
  constructor
  · intro h
    rw [ByteArray.toList_eq, ByteArray.toList_eq] at h
    cases a; cases b; simp at h; simpa using h
  · rintro rfl; rfl
@[simp] theorem st_eqnil (neg : Bool) (x : AX) : stepAll c bs ρ σ (.eqnil neg x) = if notNil (ev ρ x) = true then some (.bool neg, σ) else none := rfl
def convV (k : IntKind) : AV → Option AV
  | .int _ n => some (.int k (k.wrap n))
  | _ => none
@[simp] theorem st_conv (k : IntKind) (x : AX) : stepAll c bs ρ σ (.conv k x) = (convV k (ev ρ x)).map fun v => (v, σ) := by
  simp only [stepAll, stepOp, convV]; cases ev ρ x <;> rfl
@[simp] theorem convV_int (k k' : IntKind) (n : Int) : convV k (.int k' n) = some (.int k (k.wrap n)) := rfl
def cvsV : AV → Option AV
  | .str s => some (.str s)
  | _ => none
@[simp] theorem st_cvs (x : AX) : stepAll c bs ρ σ (.cvs x) = (cvsV (ev ρ x)).map fun v => (v, σ) := by
  simp only [stepAll, stepOp, cvsV]; cases ev ρ x <;> rfl
@[simp] theorem cvsV_str (s : ByteArray) : cvsV (.str s) = some (.str s) := rfl
def s2bV (σ : Heap) : AV → Option (AV × Heap)
  | .str s => some (.sl σ.length 0 s.size 1 false, σ ++ [.cells (u8s s) 0 true])
  | _ => none
@[simp] theorem st_s2b (x : AX) : stepAll c bs ρ σ (.s2b x) = s2bV σ (ev ρ x) := rfl
@[simp] theorem s2bV_str (s : ByteArray) : s2bV σ (.str s) = some (.sl σ.length 0 s.size 1 false, σ ++ [.cells (u8s s) 0 true]) := rfl
def b2sV (σ : Heap) (v : AV) : Option AV := if isSl v = false then none else (elemsA σ 1 false v).bind fun es => (bytesA es).map .str
@[simp] theorem st_b2s (x : AX) : stepAll c bs ρ σ (.b2s x) = (b2sV σ (ev ρ x)).map fun v => (v, σ) := by
  simp only [stepAll, stepOp, b2sV]
  split
  · rfl
  · cases elemsA σ 1 false (ev ρ x) with
    | none => rfl
    | some es => simp only [Option.bind_some, Option.map_map]; rfl
@[simp] theorem st_mkmeth (f : Nat) (caps : List AX) : stepAll c bs ρ σ (.mkmeth f caps) = some (.meth f (caps.map (ev ρ)), σ) := rfl
@[simp] theorem st_mkfn (f : Nat) (caps : List AX) : stepAll c bs ρ σ (.mkfn f caps) = some (.func f (caps.map (ev ρ)), σ) := rfl
def mkslV (sz : Nat) (ag : Bool) (bytes : Nat) (zs : List AV) (σ : Heap) : AV → AV → Option (AV × Heap)
  | .int .i64 n, .int .i64 m => if n = m ∧ 0 ≤ n ∧ n * bytes ≤ 70368744177664 ∧ n ≤ 70368744177664 then
        some (.sl σ.length 0 n.toNat sz ag, σ ++ [.cells ((List.replicate n.toNat zs).flatten) 0 false]) else none
  | _, _ => none
@[simp] theorem st_mksl (sz : Nat) (ag : Bool) (bytes : Nat) (zs : List AV) (l x : AX) : stepAll c bs ρ σ (.mksl sz ag bytes zs l x) = mkslV sz ag bytes zs σ (ev ρ l) (ev ρ x) := rfl
@[simp] theorem mkslV_int (sz : Nat) (ag : Bool) (bytes : Nat) (zs : List AV) (n m : Int) : mkslV sz ag bytes zs σ (.int .i64 n) (.int .i64 m) = if n = m ∧ 0 ≤ n ∧ n * bytes ≤ 70368744177664 ∧ n ≤ 70368744177664 then
        some (.sl σ.length 0 n.toNat sz ag, σ ++ [.cells ((List.replicate n.toNat zs).flatten) 0 false]) else none := rfl
def bndV (len d : Nat) : Option AV → Option Nat
  | none => some d
  | some (.int _ n) => if 0 ≤ n ∧ n ≤ len then some n.toNat else none
  | some _ => none
theorem asNat_bnd (len d : Nat) (x : Option AX) : asNat len x d ρ = bndV len d (x.map (ev ρ)) := by
  cases x with
  | none => rfl
  | some x => simp only [asNat, bndV, Option.map_some]; cases ev ρ x <;> rfl
@[simp] theorem bndV_none (len d : Nat) : bndV len d none = some d := rfl
@[simp] theorem bndV_int (len d : Nat) (k : IntKind) (n : Int) : bndV len d (some (.int k n)) = if 0 ≤ n ∧ n ≤ len then some n.toNat else none := rfl
def strSlV (lo hi : Option AV) : AV → Option AV
  | .str s => (bndV s.size s.size hi).bind fun h => (bndV h 0 lo).map fun l => .str (s.extract l h)
  | _ => none
@[simp] theorem st_strSl (x : AX) (lo hi : Option AX) : stepAll c bs ρ σ (.strSl x lo hi) = (strSlV (lo.map (ev ρ)) (hi.map (ev ρ)) (ev ρ x)).map fun v => (v, σ) := by
  simp only [stepAll, stepOp, asNat_bnd, strSlV]
  cases ev ρ x <;> try rfl
  rename_i s
  simp only
  cases bndV s.size s.size (hi.map (ev ρ)) with
  | none => rfl
  | some h => simp only [Option.bind_some, Option.map_map]; rfl
@[simp] theorem strSlV_str (lo hi : Option AV) (s : ByteArray) : strSlV lo hi (.str s) = (bndV s.size s.size hi).bind fun h => (bndV h 0 lo).map fun l => .str (s.extract l h) := rfl
def slSlV (sz : Nat) (lo hi : Option AV) (v : AV) : Option AV := if isSl v = false then none else (lenA v).bind fun n => (bndV n n hi).bind fun h => (bndV h 0 lo).bind fun l => slSlA sz l h v
@[simp] theorem st_slSl (sz : Nat) (x : AX) (lo hi : Option AX) : stepAll c bs ρ σ (.slSl sz x lo hi) = (slSlV sz (lo.map (ev ρ)) (hi.map (ev ρ)) (ev ρ x)).map fun v => (v, σ) := by
  simp only [stepAll, stepOp, asNat_bnd, slSlV]
  split
  · rfl
  · cases lenA (ev ρ x) with
    | none => rfl
    | some n =>
      simp only [Option.bind_some]
      cases bndV n n (hi.map (ev ρ)) with
      | none => rfl
      | some h =>
        simp only [Option.bind_some]
        cases bndV h 0 (lo.map (ev ρ)) <;> rfl
def faddrV (off : Nat) (σ : Heap) : AV → Option (AV × Heap)
  | .ptr id o => some (.ptr id (o + off), σ)
  | .iptr cs o => some (.iptr cs (o + off), σ)
  | _ => none
@[simp] theorem st_faddr (off : Nat) (x : AX) : stepAll c bs ρ σ (.faddr off x) = faddrV off σ (ev ρ x) := rfl
@[simp] theorem faddrV_ptr (off id o : Nat) : faddrV off σ (.ptr id o) = some (.ptr id (o + off), σ) := rfl
@[simp] theorem faddrV_iptr (off o : Nat) (cs : List AV) : faddrV off σ (.iptr cs o) = some (.iptr cs (o + off), σ) := rfl
def fieldV (off sz : Nat) (ag : Bool) : AV → Option AV
  | .agg cs => (window cs off sz).bind (mk ag)
  | _ => none
@[simp] theorem st_field (off sz : Nat) (ag : Bool) (x : AX) : stepAll c bs ρ σ (.field off sz ag x) = (fieldV off sz ag (ev ρ x)).map fun v => (v, σ) := by
  simp only [stepAll, stepOp, fieldV]; cases ev ρ x <;> rfl
@[simp] theorem fieldV_agg (off sz : Nat) (ag : Bool) (cs : List AV) : fieldV off sz ag (.agg cs) = (window cs off sz).bind (mk ag) := rfl
def iaddrV (sz : Nat) (x : AV) : AV → Option AV
  | .int _ n => if 0 ≤ n then (match x with
      | .isl es _ => es[n.toNat]?.bind fun e => if e.cells.length = sz then some (.iptr e.cells 0) else none
      | .own _ es => es[n.toNat]?.bind fun e => if e.cells.length = sz then some (.iptr e.cells 0) else none
      | .sl id off len sz' _ => if n < len ∧ sz = sz' then some (.ptr id (off + n.toNat * sz)) else none
      | _ => none) else none
  | _ => none
@[simp] theorem st_iaddrS (sz : Nat) (x i : AX) : stepAll c bs ρ σ (.iaddrS sz x i) = (iaddrV sz (ev ρ x) (ev ρ i)).map fun v => (v, σ) := by
  simp only [stepAll, stepOp, iaddrV]
  cases ev ρ i <;> try rfl
  rename_i k n
  simp only
  split
  · cases ev ρ x <;> try rfl
    · rename_i es _
      simp only
      cases es[n.toNat]? with
      | none => rfl
      | some e => simp only [Option.bind_some]; split <;> rfl
    · rename_i id es
      simp only
      cases es[n.toNat]? with
      | none => rfl
      | some e => simp only [Option.bind_some]; split <;> rfl
    · simp only; split <;> rfl
  · rfl
@[simp] theorem iaddrV_isl (sz : Nat) (es : List AV) (b : Bool) (k : IntKind) (n : Int) : iaddrV sz (.isl es b) (.int k n) = if 0 ≤ n then (es[n.toNat]?.bind fun e => if e.cells.length = sz then some (.iptr e.cells 0) else none) else none := rfl
@[simp] theorem iaddrV_own (sz : Nat) (es : List AV) (id : Nat) (k : IntKind) (n : Int) : iaddrV sz (.own id es) (.int k n) = if 0 ≤ n then (es[n.toNat]?.bind fun e => if e.cells.length = sz then some (.iptr e.cells 0) else none) else none := rfl
@[simp] theorem iaddrV_sl (sz : Nat) (id off len sz' : Nat) (ag : Bool) (k : IntKind) (n : Int) : iaddrV sz (.sl id off len sz' ag) (.int k n) = if 0 ≤ n then (if n < len ∧ sz = sz' then some (.ptr id (off + n.toNat * sz)) else none) else none := rfl
def iaddrAV (n sz : Nat) (σ : Heap) : AV → AV → Option (AV × Heap)
  | .ptr id off, .int _ m => if 0 ≤ m ∧ m < n then some (.ptr id (off + m.toNat * sz), σ) else none
  | _, _ => none
@[simp] theorem st_iaddrA (n sz : Nat) (x i : AX) : stepAll c bs ρ σ (.iaddrA n sz x i) = iaddrAV n sz σ (ev ρ x) (ev ρ i) := rfl
@[simp] theorem iaddrAV_ptr (n sz id off : Nat) (k : IntKind) (m : Int) : iaddrAV n sz σ (.ptr id off) (.int k m) = if 0 ≤ m ∧ m < n then some (.ptr id (off + m.toNat * sz), σ) else none := rfl
def idxStrV (v i : AV) : Option AV := match v, i with
  | .str s, .int _ n => if 0 ≤ n then (s.data.toList[n.toNat]?).map fun b => .int .u8 (b.toNat : Int) else none
  | _, _ => none
@[simp] theorem st_idxStr (x i : AX) : stepAll c bs ρ σ (.idxStr x i) = (idxStrV (ev ρ x) (ev ρ i)).map fun v => (v, σ) := by
  simp only [stepAll, stepOp, idxStrV]
  cases ev ρ x <;> try rfl
  cases ev ρ i <;> try rfl
  simp only
  split
  · simp only [Option.map_map]; rfl
  · rfl
@[simp] theorem idxStrV_str (s : ByteArray) (k : IntKind) (n : Int) : idxStrV (.str s) (.int k n) = if 0 ≤ n then (s.data.toList[n.toNat]?).map fun b => .int .u8 (b.toNat : Int) else none := rfl
def idxArrV (n sz : Nat) (ag : Bool) (v i : AV) : Option AV := match v, i with
  | .agg cs, .int _ m => if 0 ≤ m ∧ m < n then (window cs (m.toNat * sz) sz).bind (mk ag) else none
  | _, _ => none
@[simp] theorem st_idxArr (n sz : Nat) (ag : Bool) (x i : AX) : stepAll c bs ρ σ (.idxArr n sz ag x i) = (idxArrV n sz ag (ev ρ x) (ev ρ i)).map fun v => (v, σ) := by
  simp only [stepAll, stepOp, idxArrV]
  cases ev ρ x <;> try rfl
  cases ev ρ i <;> try rfl
  simp only
  split <;> rfl
@[simp] theorem idxArrV_agg (n sz : Nat) (ag : Bool) (cs : List AV) (k : IntKind) (m : Int) : idxArrV n sz ag (.agg cs) (.int k m) = if 0 ≤ m ∧ m < n then (window cs (m.toNat * sz) sz).bind (mk ag) else none := rfl
def extrV (i : Nat) : AV → Option AV
  | .tup vs => vs[i]?
  | _ => none
@[simp] theorem st_extract (i : Nat) (x : AX) : stepAll c bs ρ σ (.extract i x) = (extrV i (ev ρ x)).map fun v => (v, σ) := by
  simp only [stepAll, stepOp, extrV]; cases ev ρ x <;> rfl
@[simp] theorem extrV_tup (i : Nat) (vs : List AV) : extrV i (.tup vs) = vs[i]? := rfl
def lenV (st : Bool) (v : AV) : Option AV := if isSl v = st then none else (lenA v).map fun (n : Nat) => .int .i64 (n : Int)
@[simp] theorem st_len (st : Bool) (x : AX) : stepAll c bs ρ σ (.len st x) = (lenV st (ev ρ x)).map fun v => (v, σ) := by
  simp only [stepAll, stepOp, lenV]
  split
  · rfl
  · simp only [Option.map_map]; rfl
@[simp] theorem lenV_str (s : ByteArray) : lenV true (.str s) = some (.int .i64 (s.size : Int)) := rfl
@[simp] theorem lenV_isl (es : List AV) (b : Bool) : lenV false (.isl es b) = some (.int .i64 (es.length : Int)) := rfl
@[simp] theorem lenV_own (id : Nat) (es : List AV) : lenV false (.own id es) = some (.int .i64 (es.length : Int)) := rfl
@[simp] theorem lenV_sl (id off len sz : Nat) (ag : Bool) : lenV false (.sl id off len sz ag) = some (.int .i64 (len : Int)) := rfl
@[simp] theorem st_append (sz : Nat) (ag : Bool) (b : Nat) (mt : Bool) (s x : AX) : stepAll c bs ρ σ (.append sz ag b mt s x) = appendC σ sz ag b mt (ev ρ s) (ev ρ x) := rfl
@[simp] theorem st_max (xs : List AX) : stepAll c bs ρ σ (.max xs) = (maxA (xs.map (ev ρ))).map fun v => (v, σ) := rfl
@[simp] theorem maxA_int (k : IntKind) (a : Int) (l : List AV) : maxA (.int k a :: l) = (maxF a l).map (.int k) := rfl
@[simp] theorem maxF_nil (a : Int) : maxF a [] = some a := rfl
@[simp] theorem maxF_int (k : IntKind) (a b : Int) (l : List AV) : maxF a (.int k b :: l) = maxF (if b > a then b else a) l := rfl
def min2V : AV → AV → Option AV
  | .int k a, .int _ b => some (.int k (if b < a then b else a))
  | _, _ => none
@[simp] theorem st_min2 (x y : AX) : stepAll c bs ρ σ (.min2 x y) = (min2V (ev ρ x) (ev ρ y)).map fun v => (v, σ) := by
  simp only [stepAll, stepOp, min2V]
  cases ev ρ x <;> try rfl
  cases ev ρ y <;> rfl
@[simp] theorem min2V_int (k k' : IntKind) (a b : Int) : min2V (.int k a) (.int k' b) = some (.int k (if b < a then b else a)) := rfl
def slClV (sz : Nat) (lo hi mx : AV) (v : AV) : Option AV := (lenA v).bind fun n => (bndV n n (some mx)).bind fun m => (bndV m n (some hi)).bind fun h => (bndV h 0 (some lo)).bind fun l =>
      if l = 0 ∧ h = m then (match v with
        | .isl es _ => some (.isl (es.take h) true)
        | _ => none) else none
@[simp] theorem st_slCl (sz : Nat) (x lo hi mx : AX) : stepAll c bs ρ σ (.slCl sz x lo hi mx) = (slClV sz (ev ρ lo) (ev ρ hi) (ev ρ mx) (ev ρ x)).map fun v => (v, σ) := by
  simp only [stepAll, stepOp, asNat_bnd, slClV, Option.map_some]
  cases lenA (ev ρ x) with
  | none => rfl
  | some n =>
    simp only [Option.bind_some]
    cases bndV n n (some (ev ρ mx)) with
    | none => rfl
    | some m =>
      simp only [Option.bind_some]
      cases bndV m n (some (ev ρ hi)) with
      | none => rfl
      | some h =>
        simp only [Option.bind_some]
        cases bndV h 0 (some (ev ρ lo)) with
        | none => rfl
        | some l =>
          simp only [Option.bind_some]
          split
          · cases ev ρ x <;> rfl
          · rfl
def arrSlV (n sz : Nat) (ag : Bool) (lo hi : Option AV) (σ : Heap) : AV → Option (AV × Heap)
  | .ptr id off => match σ[id]? with
    | some (.cells cs _ false) => (bndV n n hi).bind fun h => (bndV h 0 lo).bind fun l =>
        if off + n * sz = cs.length ∧ 0 < sz ∧ l < n then some (.sl id (off + l * sz) (h - l) sz ag, σ) else none
    | _ => none
  | _ => none
@[simp] theorem st_arrSl (n sz : Nat) (ag : Bool) (x : AX) (lo hi : Option AX) : stepAll c bs ρ σ (.arrSl n sz ag x lo hi) = arrSlV n sz ag (lo.map (ev ρ)) (hi.map (ev ρ)) σ (ev ρ x) := by
  simp only [stepAll, stepOp, asNat_bnd, arrSlV]
  cases ev ρ x <;> rfl
def rngV (σ : Heap) : AV → Option (AV × Heap)
  | .str s => some (.ptr σ.length 0, σ ++ [.iter s 0])
  | _ => none
@[simp] theorem st_rng (x : AX) : stepAll c bs ρ σ (.rng x) = rngV σ (ev ρ x) := rfl
@[simp] theorem rngV_str (s : ByteArray) : rngV σ (.str s) = some (.ptr σ.length 0, σ ++ [.iter s 0]) := rfl
def nxtV (σ : Heap) : AV → Option (AV × Heap)
  | .ptr id 0 => match σ[id]? with
      | some (.iter s pos) => if pos < s.size then
          some (.tup [.bool true, .int .i64 (pos : Int), .int .i32 (Utf8.decode s pos).1], σ.set id (.iter s (pos + (Utf8.decode s pos).2)))
        else some (.tup [.bool false], σ)
      | _ => none
  | _ => none
@[simp] theorem st_nxt (x : AX) : stepAll c bs ρ σ (.nxt x) = nxtV σ (ev ρ x) := rfl
end
def andI (k : IntKind) (a b : Int) : Int := (BitVec.ofInt k.bits a &&& BitVec.ofInt k.bits b).toNat
def orI (k : IntKind) (a b : Int) : Int := (BitVec.ofInt k.bits a ||| BitVec.ofInt k.bits b).toNat
def xorI (k : IntKind) (a b : Int) : Int := (BitVec.ofInt k.bits a ^^^ BitVec.ofInt k.bits b).toNat
section
variable (k : IntKind) (a b : Int)
@[simp] theorem bin_add : binA .add (.int k a) (.int k b) = some (.int k (k.wrap (a + b))) := by simp [binA]
@[simp] theorem bin_sub : binA .sub (.int k a) (.int k b) = some (.int k (k.wrap (a - b))) := by simp [binA]
@[simp] theorem bin_mul : binA .mul (.int k a) (.int k b) = some (.int k (k.wrap (a * b))) := by simp [binA]
@[simp] theorem bin_quo : binA .quo (.int k a) (.int k b) = if b = 0 then none else some (.int k (k.wrap (a.tdiv b))) := by simp [binA]
@[simp] theorem bin_rem : binA .rem (.int k a) (.int k b) = if b = 0 then none else some (.int k (a.tmod b)) := by simp [binA]
@[simp] theorem bin_and : binA .and (.int k a) (.int k b) = some (.int k (k.wrap (andI k a b))) := by simp [binA, andI]
@[simp] theorem bin_or : binA .or (.int k a) (.int k b) = some (.int k (k.wrap (orI k a b))) := by simp [binA, orI]
@[simp] theorem bin_xor : binA .xor (.int k a) (.int k b) = some (.int k (k.wrap (xorI k a b))) := by simp [binA, xorI]
@[simp] theorem bin_shl (k' : IntKind) : binA .shl (.int k a) (.int k' b) = if 0 ≤ b then some (.int k (k.wrap (a * 2 ^ (min b.toNat k.bits)))) else none := rfl
@[simp] theorem bin_shr (k' : IntKind) : binA .shr (.int k a) (.int k' b) = if 0 ≤ b then some (.int k (a.fdiv (2 ^ (min b.toNat k.bits)))) else none := rfl
@[simp] theorem bin_eql : binA .eql (.int k a) (.int k b) = some (.bool (decide (a = b))) := by simp [binA]; rfl
@[simp] theorem bin_neq : binA .neq (.int k a) (.int k b) = some (.bool (!decide (a = b))) := by simp [binA]; rfl
@[simp] theorem bin_lss : binA .lss (.int k a) (.int k b) = some (.bool (decide (a < b))) := by simp [binA]
@[simp] theorem bin_leq : binA .leq (.int k a) (.int k b) = some (.bool (decide (a ≤ b))) := by simp [binA]
@[simp] theorem bin_gtr : binA .gtr (.int k a) (.int k b) = some (.bool (decide (a > b))) := by simp [binA]
@[simp] theorem bin_geq : binA .geq (.int k a) (.int k b) = some (.bool (decide (a ≥ b))) := by simp [binA]
variable (s t : ByteArray)
@[simp] theorem bin_sadd : binA .add (.str s) (.str t) = if ((s.size + t.size : Nat) : Int) ≤ IntKind.i64.max then some (.str (s ++ t)) else none := rfl
theorem toList_beq (s t : ByteArray) : (s.toList == t.toList) = decide (s = t) := by
  rw [ByteArray.toList_eq, ByteArray.toList_eq, Bool.eq_iff_iff]
  simp only [beq_iff_eq, decide_eq_true_eq]
  exact ⟨fun h => ByteArray.ext (Array.ext' h), fun h => by rw [h]⟩
@[simp] theorem bin_seql : binA .eql (.str s) (.str t) = some (.bool (decide (s = t))) := by rw [← toList_beq]; rfl
@[simp] theorem bin_sneq : binA .neq (.str s) (.str t) = some (.bool (!decide (s = t))) := by rw [← toList_beq]; rfl
@[simp] theorem bin_slss : binA .lss (.str s) (.str t) = some (.bool (Op.bytesLess s.toList t.toList)) := rfl
@[simp] theorem bin_sgtr : binA .gtr (.str s) (.str t) = some (.bool (!(Op.bytesLess s.toList t.toList || s.toList == t.toList))) := rfl
@[simp] theorem bin_sleq : binA .leq (.str s) (.str t) = some (.bool (Op.bytesLess s.toList t.toList || s.toList == t.toList)) := rfl
@[simp] theorem bin_sgeq : binA .geq (.str s) (.str t) = some (.bool (!(Op.bytesLess s.toList t.toList))) := rfl
@[simp] theorem un_not (x : Bool) : unA .not (.bool x) = some (.bool (!x)) := rfl
@[simp] theorem un_neg : unA .neg (.int k a) = some (.int k (k.wrap (0 - a))) := rfl
end
end Go.Mach
end
section
namespace Go.Mach
open Go.RowKit Go.ChangeShapes
open Go.Proofs.Ytpgakkhfjjhpdaa (Rows.uptoBulk Rows.uptoBulkAll Rows.uptoSmall)
inductive TyA (P : Program) : TypeId → AV → Prop where
  | bool {t : TypeId} (h : P.underlying t = some .bool) (b : Bool) : TyA P t (.bool b)
  | int {t : TypeId} {k : IntKind} (h : P.underlying t = some (.int k)) (n : Int) (hn : (Lit.int k n).wf = true) : TyA P t (.int k n)
  | str {t : TypeId} (h : P.underlying t = some .string) (s : ByteArray) : TyA P t (.str s)
  | slice {t e : TypeId} {es : List AV} (h : P.underlying t = some (.slice e)) (hes : ∀ x ∈ es, TyA P e x) : TyA P t (.isl es false)
  | struct {t : TypeId} {fs : Array Field} {vs : List AV} (h : P.underlying t = some (.struct fs)) (hl : vs.length = fs.toList.length)
      (hv : ∀ (i : Nat) f x, fs.toList[i]? = some f → vs[i]? = some x → TyA P f.type x) : TyA P t (.agg (flat vs))
  | array {t e : TypeId} {n : Nat} {vs : List AV} (h : P.underlying t = some (.array n e)) (hl : vs.length = n) (hv : ∀ x ∈ vs, TyA P e x) : TyA P t (.agg (flat vs))
mutual
def bulkA : AV → Nat
  | .str s => s.size + 1
  | .isl es _ => bulkAs es + 1
  | .agg cs => bulkAs cs + 1
  | _ => 1
def bulkAs : List AV → Nat
  | [] => 0
  | x :: xs => bulkA x + bulkAs xs
end
theorem bulkAs_append : ∀ xs ys : List AV, bulkAs (xs ++ ys) = bulkAs xs + bulkAs ys
  | [], ys => by simp [bulkAs]
  | x :: xs, ys => by simp only [List.cons_append, bulkAs, bulkAs_append xs ys]; omega
theorem bulkAs_cells (x : AV) : bulkAs x.cells ≤ bulkA x := by
  cases x <;> simp [AV.cells, bulkAs, bulkA]
theorem bulkAs_flat : ∀ vs : List AV, bulkAs (flat vs) ≤ bulkAs vs
  | [] => by simp [flat, bulkAs]
  | x :: vs => by
    have h1 := bulkAs_cells x
    have h2 := bulkAs_flat vs
    simp only [flat, List.flatMap_cons, bulkAs_append, bulkAs] at h2 ⊢; omega
def contig (P : Program) : Nat → List Field → Option Nat
  | o, [] => some o
  | o, f :: fs => if f.offset = o then contig P (o + P.cellsOf f.type) fs else none
def supT (P : Program) (S : List TypeId) (t : TypeId) : Bool := match P.underlying t with
  | some .bool | some (.int _) | some .string => P.cellsOf t == 1
  | some (.slice e) => S.contains e && decide (0 < P.cellsOf e) && P.cellsOf t == 1
  | some (.struct fs) => fs.toList.all (fun f => S.contains f.type) && contig P 0 fs.toList == some (P.cellsOf t)
  | some (.array n e) => S.contains e && P.cellsOf t == n * P.cellsOf e
  | _ => false
def arrF (P : Program) (e : TypeId) (i : Nat) : Field := ⟨"", e, i * P.cellsOf e, false, "", "", 0⟩
theorem contig_arr (P : Program) (e : TypeId) : ∀ n k, contig P (k * P.cellsOf e) ((List.range' k n).map (arrF P e)) = some ((k + n) * P.cellsOf e)
  | 0, k => rfl
  | n + 1, k => by
    rw [List.range'_succ, List.map_cons]
    simp only [contig, arrF, if_true]
    have := contig_arr P e n (k + 1)
    rw [Nat.add_mul, Nat.one_mul] at this
    rw [this, show k + 1 + n = k + (n + 1) by omega]
theorem mapM_map_o {α β γ : Type} (f : β → Option γ) (g : α → β) : ∀ l : List α, (l.map g).mapM f = l.mapM (fun x => f (g x))
  | [] => rfl
  | x :: l => by rw [List.map_cons, List.mapM_cons, List.mapM_cons, mapM_map_o f g l]
def memGh (w : World) : Gh := ⟨fun _ => none, fun _ _ => none, fun b i => w.cell? ⟨b, i, none⟩⟩
theorem memGh_HR (w : World) (hp : Pins (fun _ => none) w) : HR (memGh w) (fun _ => none) [] w :=
  ⟨fun _ _ _ h => h, fun _ _ h => (by cases h), fun _ _ _ h => (by cases h), fun _ _ _ _ h => (by simp at h), fun _ _ _ h => (by simp at h), fun _ _ _ h => (by simp at h), fun _ _ _ h => (by simp at h), fun _ _ _ h => (by simp at h), hp⟩
theorem flat_get {s : Nat} : ∀ {es : List AV}, (∀ e ∈ es, e.cells.length = s) → 0 < s → ∀ {i : Nat} {x : AV}, (flat es)[i]? = some x → ∃ j k e, es[j]? = some e ∧ e.cells[k]? = some x ∧ i = j * s + k
  | [], _, _, i, x, h => by simp [flat] at h
  | e :: es, hc, hs, i, x, h => by
    have hl := hc e (by simp)
    simp only [flat, List.flatMap_cons] at h
    rcases Nat.lt_or_ge i e.cells.length with hi | hi
    · rw [List.getElem?_append_left hi] at h
      exact ⟨0, i, e, rfl, h, by omega⟩
    · rw [List.getElem?_append_right hi] at h
      obtain ⟨j, k, e', h1, h2, h3⟩ := flat_get (es := es) (fun y hy => hc y (by simp [hy])) hs h
      exact ⟨j + 1, k, e', by simpa using h1, h2, by rw [Nat.add_mul]; omega⟩
section
variable {H : Type} {enc : TypeId × Value → H} {P : Program} {w : World} {S : List TypeId} {sp : Nat → Bool}
def RdA (P : Program) (w : World) (t : TypeId) (cs : List Value) (d : DataW H) (x : AV) : Prop :=
  TyA P t x ∧ x.cells.length = cs.length ∧ cs.length = P.cellsOf t ∧ (∀ (i : Nat) y c, x.cells[i]? = some y → cs[i]? = some c → y.clo1 = true ∧ VR (memGh w) y c) ∧ bulkA x ≤ Rows.uptoBulk d ∧ x.clo = true
theorem RdA.one {t : TypeId} {c : Value} {d : DataW H} {x : AV} (ht : TyA P t x) (hc : x.cells = [x]) (h1 : P.cellsOf t = 1) (hcl : x.clo1 = true) (hV : VR (memGh w) x c) (hb : bulkA x ≤ Rows.uptoBulk d) (hx : x.clo = true) : RdA P w t [c] d x := by
  refine ⟨ht, by rw [hc]; rfl, by simp [h1], fun i y c' hy hc' => ?_, hb, hx⟩
  rw [hc] at hy
  cases i with
  | zero => simp at hy hc'; subst hy hc'; exact ⟨hcl, hV⟩
  | succ i => simp at hy
theorem fields_read {n : Nat} (ih : ∀ t ∈ S, ∀ cs d ps, DataW.trod enc P w 0 sp true n t cs = some (d, ps) → ∃ x, RdA P w t cs d x) {cs : List Value} :
    ∀ (fs : List Field) (o o' : Nat) (xs : List (DataW H × List MemPlace)), (∀ f ∈ fs, f.type ∈ S) → contig P o fs = some o' →
      fs.mapM (fun f => DataW.trod enc P w 0 sp true n f.type ((cs.drop f.offset).take (P.cellsOf f.type))) = some xs →
      ∃ vs : List AV, vs.length = fs.length ∧ (∀ (i : Nat) f x, fs[i]? = some f → vs[i]? = some x → TyA P f.type x) ∧ o + (flat vs).length = o' ∧ (∀ (i : Nat) y c, (flat vs)[i]? = some y → cs[o + i]? = some c → y.clo1 = true ∧ VR (memGh w) y c) ∧
        bulkAs vs ≤ Rows.uptoBulkAll (xs.map (·.1)) ∧ ∀ y ∈ flat vs, y.clo1 = true
  | [], o, o', xs, _, ho, hm => by
    simp only [contig] at ho; injection ho with ho
    simp at hm; subst hm
    exact ⟨[], rfl, fun i f x hf => by simp at hf, by simp [flat, ho], fun i y c hy => by simp [flat] at hy, by simp [bulkAs], fun y hy => by simp [flat] at hy⟩
  | f :: fs, o, o', xs, hS, ho, hm => by
    simp only [contig] at ho
    split at ho
    · rename_i hof
      rw [List.mapM_cons] at hm
      simp only [Option.bind_eq_bind, Option.bind_eq_some_iff, Option.pure_def] at hm
      obtain ⟨⟨d, p⟩, hd, ys, hys, e⟩ := hm
      injection e with e; subst e
      obtain ⟨x, h1, h2, h3, h4, h5, h6⟩ := ih f.type (hS f (by simp)) _ _ _ hd
      obtain ⟨vs, k1, k2, k3, k4, k5, k6⟩ := fields_read ih fs _ _ _ (fun f' hf' => hS f' (by simp [hf'])) ho hys
      have hlen : x.cells.length = P.cellsOf f.type := h2.trans h3
      have hcl : ∀ y ∈ x.cells, y.clo1 = true := fun y hy => by
        cases x <;> first | (simp at h6; done) | (simp at hy; subst hy; exact h6) | exact List.all_eq_true.1 h6 y hy
      refine ⟨x :: vs, by simp [k1], fun i f' y hf' hy => ?_, ?_, fun i y c hy hc => ?_, ?_, fun y hy => ?_⟩
      · cases i with
        | zero => simp at hf' hy; subst hf' hy; exact h1
        | succ i => simp at hf' hy; exact k2 i f' y hf' hy
      · simp only [flat, List.flatMap_cons, List.length_append] at k3 ⊢; omega
      · simp only [flat, List.flatMap_cons] at hy
        rcases Nat.lt_or_ge i x.cells.length with hi | hi
        · rw [List.getElem?_append_left hi] at hy
          refine h4 i y c hy ?_
          rw [List.getElem?_take, if_pos (by omega), List.getElem?_drop, hof]; exact hc
        · rw [List.getElem?_append_right hi] at hy
          refine k4 _ y c hy ?_
          rw [show o + P.cellsOf f.type + (i - x.cells.length) = o + i by omega]; exact hc
      · simp only [bulkAs, List.map_cons, Rows.uptoBulkAll]; omega
      · simp only [flat, List.flatMap_cons, List.mem_append] at hy
        rcases hy with hy | hy
        · exact hcl y hy
        · exact k6 y hy
    · cases ho
theorem elems_read {n : Nat} {e : TypeId} (he : e ∈ S) (ih : ∀ t ∈ S, ∀ cs d ps, DataW.trod enc P w 0 sp true n t cs = some (d, ps) → ∃ x, RdA P w t cs d x) {a : Addr} :
    ∀ (l : List Nat) (xs : List (DataW H × List MemPlace)), l.mapM (fun i => (w.cells? 0 (a.add (i * P.cellsOf e)) (P.cellsOf e)).bind (DataW.trod enc P w 0 sp true n e)) = some xs →
      ∃ es : List AV, es.length = l.length ∧ (∀ (j : Nat) i x, l[j]? = some i → es[j]? = some x → TyA P e x ∧ x.cells.length = P.cellsOf e ∧ x.clo = true ∧ ∀ (k : Nat) y, x.cells[k]? = some y → ∃ c, w.cell? ((a.add (i * P.cellsOf e)).add k) = some c ∧ VR (memGh w) y c) ∧
        bulkAs es ≤ Rows.uptoBulkAll (xs.map (·.1))
  | [], xs, hm => by
    simp at hm; subst hm
    exact ⟨[], rfl, fun j i x hj => by simp at hj, by simp [bulkAs]⟩
  | i :: l, xs, hm => by
    rw [List.mapM_cons] at hm
    simp only [Option.bind_eq_bind, Option.bind_eq_some_iff, Option.pure_def] at hm
    obtain ⟨⟨d, p⟩, ⟨cs, hcs, hd⟩, ys, hys, e'⟩ := hm
    injection e' with e'; subst e'
    obtain ⟨x, h1, h2, h3, h4, h5, h6⟩ := ih e he _ _ _ hd
    obtain ⟨es, k1, k2, k3⟩ := elems_read he ih l ys (by simpa [Option.bind_eq_bind] using hys)
    refine ⟨x :: es, by simp [k1], fun j i' y hj hy => ?_, by simp only [bulkAs, List.map_cons, Rows.uptoBulkAll]; omega⟩
    cases j with
    | succ j => simp at hj hy; exact k2 j i' y hj hy
    | zero =>
      simp at hj hy; subst hj hy
      refine ⟨h1, h2.trans h3, h6, fun k y hy => ?_⟩
      unfold World.cells? at hcs
      split at hcs
      · obtain ⟨hl, hg⟩ := mapM_get hcs
        have hk : k < cs.length := by have := (List.getElem?_eq_some_iff.1 hy).1; omega
        refine ⟨cs[k], ?_, (h4 k y _ hy (List.getElem?_eq_getElem hk)).2⟩
        exact hg k k _ (by rw [List.getElem?_range (by simp at hl; omega)]) (List.getElem?_eq_getElem hk)
      · cases hcs
theorem trod_read (hS : S.all (supT P S) = true) : ∀ (n : Nat), ∀ t ∈ S, ∀ cs (d : DataW H) ps, DataW.trod enc P w 0 sp true n t cs = some (d, ps) → ∃ x, RdA P w t cs d x
  | 0, t, ht, cs, d, ps, h => by simp [DataW.trod] at h
  | n + 1, t, ht, cs, d, ps, h => by
    have ih := trod_read hS n
    have hsup := List.all_eq_true.1 hS t ht
    unfold supT at hsup
    unfold DataW.trod at h
    cases hu : P.underlying t with
    | none => rw [hu] at hsup; cases hsup
    | some u =>
      rw [hu] at hsup h
      cases u <;> simp only at hsup <;> try (cases hsup; done)
      case bool =>
        rcases cs with _ | ⟨c, _ | ⟨c2, cs⟩⟩ <;> (try cases c) <;> simp at h
        obtain ⟨rfl, rfl⟩ := h
        exact ⟨_, .one (.bool hu _) rfl (by simpa using hsup) rfl (.bool _) (by simp [bulkA, Rows.uptoBulk]) rfl⟩
      case int k =>
        rcases cs with _ | ⟨c, _ | ⟨c2, cs⟩⟩ <;> (try cases c) <;> simp at h
        obtain ⟨⟨rfl, hw⟩, rfl, rfl⟩ := h
        exact ⟨_, .one (.int hu _ hw) rfl (by simpa using hsup) rfl (.int _ _) (by simp [bulkA, Rows.uptoBulk]) rfl⟩
      case string =>
        rcases cs with _ | ⟨c, _ | ⟨c2, cs⟩⟩ <;> (try cases c) <;> simp at h
        obtain ⟨_, rfl, rfl⟩ := h
        exact ⟨_, .one (.str hu _) rfl (by simpa using hsup) rfl (.str _) (by simp [bulkA, Rows.uptoBulk]) rfl⟩
      case slice e =>
        simp only [Bool.and_eq_true, decide_eq_true_eq, beq_iff_eq, List.contains_eq_mem] at hsup
        obtain ⟨⟨he, hpos⟩, h1t⟩ := hsup
        have he : e ∈ S := by simpa using he
        rcases cs with _ | ⟨c, _ | ⟨c2, cs⟩⟩ <;> (try cases c) <;> (try (simp at h; done))
        rename_i a len cap
        cases a with
        | none =>
          cases len <;> cases cap <;> simp at h
          obtain ⟨rfl, rfl⟩ := h
          exact ⟨.isl [] false, .one (.slice hu (by simp)) rfl h1t rfl (isl_VR (es := []) (b := 0) (p := 0) (s := 1) (by simp) (by omega) (.inl rfl) (fun hh => by cases hh) (Nat.zero_le _) (by simp [flat])) (by simp [bulkA, bulkAs, Rows.uptoBulk]) rfl⟩
        | some a =>
          simp only at h
          split at h
          · rename_i hb
            obtain ⟨elems, hel, h⟩ := Option.bind_eq_some_iff.1 h
            obtain ⟨rest, hrest, h⟩ := Option.map_eq_some_iff.1 h
            injection h with e1 e2; subst e1
            obtain ⟨es, k1, k2, k3⟩ := elems_read he ih (List.range len) elems (by simpa using hel)
            have hlen : es.length = len := by simpa using k1
            have hall : ∀ x ∈ es, ∃ j, es[j]? = some x ∧ (TyA P e x ∧ x.cells.length = P.cellsOf e ∧ x.clo = true ∧ ∀ (k : Nat) y, x.cells[k]? = some y → ∃ c, w.cell? ((a.add (j * P.cellsOf e)).add k) = some c ∧ VR (memGh w) y c) := fun x hx => by
              obtain ⟨j, hj, rfl⟩ := List.getElem_of_mem hx
              exact ⟨j, List.getElem?_eq_getElem hj, k2 j j _ (by rw [List.getElem?_range (by omega)]) (List.getElem?_eq_getElem hj)⟩
            have hsp : es = [] ∨ a = ⟨a.block, a.off, none⟩ := by
              cases hes : es with
              | nil => exact .inl rfl
              | cons x0 es' =>
                refine .inr ?_
                obtain ⟨_, h3, _, h4⟩ := k2 0 0 x0 (by rw [List.getElem?_range (by rw [← hlen, hes]; simp)]) (by rw [hes]; rfl)
                have hx0 : x0.cells[0]? = some (x0.cells[0]'(by omega)) := List.getElem?_eq_getElem (by omega)
                obtain ⟨c, hc, _⟩ := h4 0 _ hx0
                cases a with
                | mk b o s =>
                  cases s with
                  | none => rfl
                  | some v =>
                    exfalso
                    revert hc
                    simp only [World.cell?, Addr.add]
                    split <;> simp_all
            refine ⟨.isl es false, .one (.slice hu (fun x hx => (hall x hx).choose_spec.2.1)) rfl h1t rfl ?_ ?_ ?_⟩
            · rw [← hlen]
              refine isl_VR (b := a.block) (p := a.off) (s := P.cellsOf e) (fun x hx => ?_) hpos (hsp.imp id fun h => by rw [← h]) (fun hh => by cases hh) (by rw [hlen]; exact hb.2.1) fun i x hx => ?_
              · obtain ⟨j, _, _, h5, h6, _⟩ := hall x hx; exact ⟨h6, h5⟩
              · obtain ⟨j, k, x', hj, hk, rfl⟩ := flat_get (fun x hx => by obtain ⟨j, _, _, h5, _⟩ := hall x hx; exact h5) hpos hx
                obtain ⟨_, _, _, h7⟩ := k2 j j x' (by rw [List.getElem?_range (by have := (List.getElem?_eq_some_iff.1 hj).1; omega)]) hj
                obtain ⟨c, hc, hV⟩ := h7 k x hk
                refine ⟨c, ?_, hV⟩
                rcases hsp with hsp | hsp
                · rw [hsp] at hj; simp at hj
                · rw [hsp, addr_add, addr_add] at hc
                  simp only [memGh]; rw [← Nat.add_assoc]; exact hc
            · simp only [bulkA, Rows.uptoBulk]; omega
            · have : ∀ x ∈ es, x.clo = true := fun x hx => by obtain ⟨j, _, _, _, h6, _⟩ := hall x hx; exact h6
              rfl
          · cases h
      case struct fs =>
        simp only [Bool.and_eq_true, beq_iff_eq] at hsup
        obtain ⟨h1, h2⟩ := hsup
        have h : (if cs.length = P.cellsOf t then (fs.toList.mapM fun f => DataW.trod enc P w 0 sp true n f.type ((cs.drop f.offset).take (P.cellsOf f.type))).map fun xs => (DataW.agg (xs.map (·.1)), xs.flatMap (·.2)) else none) = some (d, ps) := by
          simpa only using h
        split at h
        · rename_i hlen
          obtain ⟨xs, hxs, e⟩ := Option.map_eq_some_iff.1 h
          injection e with e1 e2; subst e1
          obtain ⟨vs, k1, k2, k3, k4, k5, k6⟩ := fields_read ih fs.toList 0 _ xs (fun f hf => by have := List.all_eq_true.1 h1 f hf; simpa using this) h2 hxs
          refine ⟨.agg (flat vs), .struct hu k1 k2, by simp only [AV.cells]; omega, hlen, fun i y c hy hc => k4 i y c hy (by rw [Nat.zero_add]; exact hc), ?_, List.all_eq_true.2 k6⟩
          have := bulkAs_flat vs
          simp only [bulkA, Rows.uptoBulk]; omega
        · cases h
      case array n2 e =>
        simp only [Bool.and_eq_true, beq_iff_eq, List.contains_eq_mem] at hsup
        obtain ⟨he, h2⟩ := hsup
        have he : e ∈ S := by simpa using he
        have h : (if cs.length = P.cellsOf t then ((List.range n2).mapM fun i => DataW.trod enc P w 0 sp true n e ((cs.drop (i * P.cellsOf e)).take (P.cellsOf e))).map fun xs => (DataW.agg (xs.map (·.1)), xs.flatMap (·.2)) else none) = some (d, ps) := by
          simpa only using h
        split at h
        · rename_i hlen
          obtain ⟨xs, hxs, e'⟩ := Option.map_eq_some_iff.1 h
          injection e' with e1 e2; subst e1
          have hc := contig_arr P e n2 0
          rw [Nat.zero_mul, Nat.zero_add] at hc
          rw [List.range_eq_range'] at hxs
          obtain ⟨vs, k1, k2, k3, k4, k5, k6⟩ := fields_read ih ((List.range' 0 n2).map (arrF P e)) 0 _ xs (fun f hf => by obtain ⟨i, _, rfl⟩ := List.mem_map.1 hf; exact he) hc (by rw [mapM_map_o]; exact hxs)
          rw [List.length_map, List.length_range'] at k1
          refine ⟨.agg (flat vs), .array hu k1 (fun x hx => ?_), by simp only [AV.cells]; omega, hlen, fun i y c hy hc => k4 i y c hy (by rw [Nat.zero_add]; exact hc), ?_, List.all_eq_true.2 k6⟩
          · obtain ⟨i, hi, rfl⟩ := List.getElem_of_mem hx
            have := k2 i (arrF P e i) vs[i] (by rw [List.getElem?_map, List.getElem?_range' (by omega)]; simp) (List.getElem?_eq_getElem hi)
            exact this
          · have := bulkAs_flat vs
            simp only [bulkA, Rows.uptoBulk]; omega
        · cases h
end
end Go.Mach
end
section
namespace Go.Mach
open Go.RowKit Go.ChangeShapes
open Go.Proofs.Ytpgakkhfjjhpdaa (Rows.uptoBulk Rows.uptoBulkAll Rows.uptoSmall)
section
variable {H : Type} {enc : TypeId × Value → H} {P : Program} {w : World} {S : List TypeId} {sp : Nat → Bool}
theorem arg_read (hS : S.all (supT P S) = true) {t : TypeId} (ht : t ∈ S) {v : Value} {d : DataW H} {ps : List MemPlace} {b : Nat} {W : World} (h : DataW.Trod enc P w 0 sp true t v d ps) (hval : Value.okWide P W .any b t v) :
    ∃ x, TyA P t x ∧ VR (memGh w) x v ∧ bulkA x ≤ Rows.uptoBulk d := by
  obtain ⟨n, hn⟩ := h
  obtain ⟨x, h1, h2, h3, h4, h5, h6⟩ := trod_read hS n t ht _ _ _ hn
  refine ⟨x, h1, ?_, h5⟩
  have key : x.cells = [x] → v.cells = #[v] → VR (memGh w) x v := fun e1 e2 => by
    rw [e1, e2] at h4
    exact (h4 0 x v rfl rfl).2
  have hv : (∀ fs, P.underlying t ≠ some (.struct fs)) → (∀ n e, P.underlying t ≠ some (.array n e)) → v.cells = #[v] := fun hns hna => by
    unfold Value.okWide at hval
    split at hval
    · rename_i fs e; exact absurd e (hns _)
    · rename_i e; exact absurd e (hna _ _)
    · cases v with
      | agg cs =>
        exfalso
        unfold Cell.okWide Cell.ok at hval
        split at hval <;> rename_i h7 h8 <;> first | (cases h8; done) | skip
        split at hval <;> rename_i h9 h10 <;> first | (cases h10; done) | exact hval
      | _ => rfl
  cases h1 with
  | bool hu b => exact key rfl (hv (fun fs e => by rw [hu] at e; cases e) (fun n e' e => by rw [hu] at e; cases e))
  | int hu n hw => exact key rfl (hv (fun fs e => by rw [hu] at e; cases e) (fun n e' e => by rw [hu] at e; cases e))
  | str hu s => exact key rfl (hv (fun fs e => by rw [hu] at e; cases e) (fun n e' e => by rw [hu] at e; cases e))
  | slice hu hes => exact key rfl (hv (fun fs e => by rw [hu] at e; cases e) (fun n e' e => by rw [hu] at e; cases e))
  | @struct _ fs vs hu hl hvs =>
    unfold Value.okWide at hval
    rw [hu] at hval
    obtain ⟨cs, rfl, _, _⟩ := hval
    simp only [AV.cells, Value.cells] at h2 h4
    refine .agg (by simpa using h2) (fun y hy => ?_) fun i y c hy hc => (h4 i y c hy (by simpa using hc)).2
    obtain ⟨i, hi, rfl⟩ := List.getElem_of_mem hy
    exact clo1_cellv (h4 i _ _ (List.getElem?_eq_getElem hi) (List.getElem?_eq_getElem (by omega))).1
  | @array _ e n vs hu hl hvs =>
    unfold Value.okWide at hval
    rw [hu] at hval
    obtain ⟨cs, rfl, _, _⟩ := hval
    simp only [AV.cells, Value.cells] at h2 h4
    refine .agg (by simpa using h2) (fun y hy => ?_) fun i y c hy hc => (h4 i y c hy (by simpa using hc)).2
    obtain ⟨i, hi, rfl⟩ := List.getElem_of_mem hy
    exact clo1_cellv (h4 i _ _ (List.getElem?_eq_getElem hi) (List.getElem?_eq_getElem (by omega))).1
theorem args_read (hS : S.all (supT P S) = true) {b : Nat} {W : World} : ∀ (ts : List TypeId) (vs : List Value) (ds : List (DataW H)) (ps : List MemPlace), DataW.TrodAll enc P w 0 sp true ts vs ds ps → (∀ t ∈ ts, t ∈ S) →
    (∀ (j : Nat) t v, ts[j]? = some t → vs[j]? = some v → Value.okWide P W .any b t v) →
    ∃ xs : List AV, xs.length = ts.length ∧ VRs (memGh w) xs vs ∧ (∀ (i : Nat) t x, ts[i]? = some t → xs[i]? = some x → TyA P t x) ∧ bulkAs xs ≤ Rows.uptoBulkAll ds ∧ ds.length = ts.length
  | [], vs, ds, ps, h, _, _ => by
    obtain ⟨rfl, rfl, rfl⟩ := trodAll_nil h
    exact ⟨[], rfl, ⟨rfl, fun i x c hx => by simp at hx⟩, fun i t x hx => by simp at hx, by simp [bulkAs], rfl⟩
  | t :: ts, vs, ds, ps, h, hts, hval => by
    obtain ⟨v, vs', d, ds', p, q, rfl, rfl, rfl, hd, hrest⟩ := trodAll_cons h
    obtain ⟨x, h1, h2, h3⟩ := arg_read hS (hts t (by simp)) hd (hval 0 t v rfl rfl)
    obtain ⟨xs, k0, k1, k2, k3, k4⟩ := args_read hS ts vs' ds' q hrest (fun t' ht' => hts t' (by simp [ht'])) (fun j t' v' hj hv => hval (j + 1) t' v' (by simpa using hj) (by simpa using hv))
    refine ⟨x :: xs, by simp [k0], .cons h2 k1, fun i t' y ht' hy => ?_, by simp only [bulkAs, Rows.uptoBulkAll]; omega, by simp [k4]⟩
    cases i with
    | zero => simp at ht' hy; subst ht' hy; exact h1
    | succ i => simp at ht' hy; exact k2 i t' y ht' hy
theorem trodAll_stays (hl : laidOutB P = true) {W W' : World} {sp' : Nat → Bool} : ∀ (ts : List TypeId) (vs : List Value) (ds : List (DataW H)) (ps : List MemPlace), (∀ t ∈ ts, P.readableRec t = true ∧ t < P.types.size) → DataW.TrodAll enc P W 0 (fun _ => true) true ts vs ds ps →
    (∀ p ∈ ps, W.sameAt W' p) → (∀ p ∈ ps, sp' p.block = true) → DataW.TrodAll enc P W' 0 sp' true ts vs ds ps
  | [], vs, ds, ps, _, h, _, _ => by
    obtain ⟨rfl, rfl, rfl⟩ := trodAll_nil h
    exact trodAll_mk0
  | t :: ts, vs, ds, ps, ht, h, hs, hsp => by
    obtain ⟨v, vs', d, ds', p, q, rfl, rfl, rfl, hd, hrest⟩ := trodAll_cons h
    exact ⟨p, q, WideElems.Trod_stays hl (ht t (by simp)).1 (ht t (by simp)).2 hd (fun x hx => hs x (by simp [hx])) (fun x hx => hsp x (by simp [hx])),
      trodAll_stays hl ts vs' ds' q (fun t' ht' => ht t' (by simp [ht'])) hrest (fun x hx => hs x (by simp [hx])) (fun x hx => hsp x (by simp [hx])), rfl⟩
theorem TyA.asBool {t : TypeId} {x : AV} (h : TyA P t x) (hu : P.underlying t = some .bool) : ∃ b, x = .bool b := by
  cases h with
  | bool _ b => exact ⟨b, rfl⟩
  | str h' => rw [hu] at h'; cases h'
  | int h' => rw [hu] at h'; cases h'
  | slice h' => rw [hu] at h'; cases h'
  | struct h' => rw [hu] at h'; cases h'
  | array h' => rw [hu] at h'; cases h'
theorem TyA.asInt {t : TypeId} {x : AV} {k : IntKind} (h : TyA P t x) (hu : P.underlying t = some (.int k)) : ∃ n, x = .int k n ∧ k.min ≤ n ∧ n ≤ k.max := by
  cases h with
  | int h' n hn => rw [hu] at h'; injection h' with h'; injection h' with h'; subst h'; exact ⟨n, rfl, by simpa [Lit.wf] using hn⟩
  | bool h' => rw [hu] at h'; cases h'
  | str h' => rw [hu] at h'; cases h'
  | slice h' => rw [hu] at h'; cases h'
  | struct h' => rw [hu] at h'; cases h'
  | array h' => rw [hu] at h'; cases h'
theorem TyA.asSlice {t e : TypeId} {x : AV} (h : TyA P t x) (hu : P.underlying t = some (.slice e)) : ∃ es, x = .isl es false ∧ ∀ y ∈ es, TyA P e y := by
  cases h with
  | slice h' hes => rw [hu] at h'; injection h' with h'; injection h' with h'; subst h'; exact ⟨_, rfl, hes⟩
  | bool h' => rw [hu] at h'; cases h'
  | int h' => rw [hu] at h'; cases h'
  | str h' => rw [hu] at h'; cases h'
  | struct h' => rw [hu] at h'; cases h'
  | array h' => rw [hu] at h'; cases h'
theorem TyA.asStruct {t : TypeId} {x : AV} {fs : Array Field} (h : TyA P t x) (hu : P.underlying t = some (.struct fs)) : ∃ vs : List AV, x = .agg (flat vs) ∧ vs.length = fs.toList.length ∧ ∀ (i : Nat) f y, fs.toList[i]? = some f → vs[i]? = some y → TyA P f.type y := by
  cases h with
  | struct h' hl hv => rw [hu] at h'; injection h' with h'; injection h' with h'; subst h'; exact ⟨_, rfl, hl, hv⟩
  | bool h' => rw [hu] at h'; cases h'
  | int h' => rw [hu] at h'; cases h'
  | str h' => rw [hu] at h'; cases h'
  | slice h' => rw [hu] at h'; cases h'
  | array h' => rw [hu] at h'; cases h'
theorem TyA.asArray {t e : TypeId} {n : Nat} {x : AV} (h : TyA P t x) (hu : P.underlying t = some (.array n e)) : ∃ vs : List AV, x = .agg (flat vs) ∧ vs.length = n ∧ ∀ y ∈ vs, TyA P e y := by
  cases h with
  | array h' hl hv => rw [hu] at h'; injection h' with h'; injection h' with h1 h2; subst h1 h2; exact ⟨_, rfl, hl, hv⟩
  | bool h' => rw [hu] at h'; cases h'
  | int h' => rw [hu] at h'; cases h'
  | str h' => rw [hu] at h'; cases h'
  | slice h' => rw [hu] at h'; cases h'
  | struct h' => rw [hu] at h'; cases h'
theorem law_contract {T : Tab} (hT : TabOK P T) (hS : S.all (supT P S) = true) (hl : laidOutB P = true) {f : Nat} {fn : Func} {spec : ChangeSpec} {tb : TypeId}
    (hps : fn.params.toList.all (fun t => S.contains t && P.readableRec t && decide (t < P.types.size)) = true) (hres : fn.resultTypes = #[tb]) (htb : P.underlying tb = some .bool) (hvars : spec.vars = [])
    (hfn : ∀ ds : List (DataW H), ds.length = fn.params.toList.length → spec.fn H (ds ++ []) = { results := [.lit (.bool true)], args := ds })
    (hlaw : ∀ xs : List AV, xs.length = fn.params.toList.length → (∀ (i : Nat) t x, fn.params.toList[i]? = some t → xs[i]? = some x → TyA P t x) → bulkAs xs ≤ 1048576 → ∃ σ', callT T f xs 0 [] = some (.bool true, σ'))
    {W : World} (hpin : Pins (fun _ => none) W) {base : Nat} {args : Array Value} {ds gs : List (DataW H)} {before : List MemPlace}
    (hval : ∀ (j : Nat) t v, fn.params[j]? = some t → args[j]? = some v → Value.okWide P W .any base t v)
    (hW : DataW.Whole enc P fn.params.toList spec.vars false W args.toList ds gs before) (hk : Rows.uptoSmall H (ds ++ gs) = true) :
    Calls P f args W fun e W' => ∃ v, e = .returned v ∧ spec.post enc P fn false true false false W args v W' := by
  have hW' := hW
  obtain ⟨p, q, hA, hV, rfl, hfz, hnd⟩ := hW
  rw [hvars] at hV
  obtain ⟨rfl, rfl⟩ := trodVars_none hV
  have hpt : ∀ t ∈ fn.params.toList, t ∈ S ∧ P.readableRec t = true ∧ t < P.types.size := fun t ht => by
    have := List.all_eq_true.1 hps t ht
    simpa [and_assoc] using this
  obtain ⟨xs, k0, k1, k2, k3, k4⟩ := args_read hS fn.params.toList args.toList ds p hA (fun t ht => (hpt t ht).1) (fun j t v hj hv => hval j t v (by simpa using hj) (by simpa using hv))
  have hb : Rows.uptoBulkAll ds ≤ 1048576 := by have := of_decide_eq_true hk; simpa using this
  obtain ⟨σ', hx⟩ := hlaw xs k0 k2 (by omega)
  have hne : f ≠ yno := by
    rintro rfl
    rw [callT_yld T 0 [] hT.yn.1 hT.yn.2] at hx
    unfold roundA at hx
    split at hx
    · simp at hx
    · cases hx
  have hcalls := callT_sound hT hne hx (Nat.zero_le _) (memGh_HR W hpin) (cargs := args) ⟨by simpa using k1.len, fun i x c hx hc => k1.val i x c hx (by simpa using hc)⟩
  refine hcalls.mono fun e W' hp => ?_
  obtain ⟨cv, g', ow', rfl, hVR, hH, hSt⟩ := hp
  have hcv := hVR.boolv
  subst hcv
  have hbelow := hSt.below (fun _ => rfl)
  have hlt : ∀ x ∈ p, x.block < W.heap.size := fun x hx => by simpa using hW'.lt x (by simp [hx])
  refine ⟨_, rfl, ds, [], p ++ [], [], p, [], hW', ?_, ?_, ?_, hbelow.frame _, fun h => by cases h⟩
  · rw [hfn ds k4, hres]
    exact trodAll_mk1 (shut_bool htb true)
  · rw [hfn ds k4]
    exact trodAll_stays hl _ _ _ _ (fun t ht => (hpt t ht).2) hA (fun x hx => hbelow.same (hlt x hx)) (fun x hx => by simpa using hlt x hx)
  · rw [hfn ds k4, hvars]; rfl
end
end Go.Mach
end
section
namespace Go.Mach
open Go.RowKit
section
variable (T : Tab) (bs n : Nat)
def stepW (k : List Fr) (Q : AExit → FR → Heap → Prop) (I : FR → Heap → Prop) : AExit → FR → Heap → Prop
  | .normal, f, σ => I f σ
  | .exit id, f, σ => exW T bs n (popTo id k) id f σ Q
  | .ret, f, σ => Q .ret f σ
@[simp] theorem stepW_normal (k : List Fr) (Q : AExit → FR → Heap → Prop) (I : FR → Heap → Prop) (f : FR) (σ : Heap) : stepW T bs n k Q I .normal f σ = I f σ := rfl
@[simp] theorem stepW_exit (k : List Fr) (Q : AExit → FR → Heap → Prop) (I : FR → Heap → Prop) (id : Nat) (f : FR) (σ : Heap) : stepW T bs n k Q I (.exit id) f σ = exW T bs n (popTo id k) id f σ Q := rfl
@[simp] theorem stepW_ret (k : List Fr) (Q : AExit → FR → Heap → Prop) (I : FR → Heap → Prop) (f : FR) (σ : Heap) : stepW T bs n k Q I .ret f σ = Q .ret f σ := rfl
theorem stepW_cont {k : List Fr} {Q : AExit → FR → Heap → Prop} {I : FR → Heap → Prop} {e : AExit} {f : FR} {σ : Heap} (he : e ≠ .normal) (h : stepW T bs n k Q I e f σ) : contQ T bs n k Q e f σ := by
  cases e with
  | normal => exact absurd rfl he
  | exit id => exact contQ_exit T bs n h
  | ret => exact contQ_ret T bs n h
theorem W_for {c : ACode} {k : List Fr} {Q : AExit → FR → Heap → Prop} (N : Nat) (I : Nat → FR → Heap → Prop)
    (round : ∀ i f σ, i ≤ N → I i f σ → wpK T bs n [.code c] f σ (stepW T bs n k Q fun f' σ' => i < N ∧ I (i + 1) f' σ')) :
    ∀ f σ, I 0 f σ → W T bs n (.loop c) f σ (contQ T bs n k Q) := by
  intro f σ h0
  have key : ∀ m i f σ, N - i = m → i ≤ N → I i f σ → W T bs n (.loop c) f σ (contQ T bs n k Q) := by
    intro m
    induction m with
    | zero =>
      intro i f σ hk hi hI
      obtain ⟨e, f1, σ1, hr, hq⟩ := wpC_sound T bs n (round i f σ hi hI)
      refine ⟨e, f1, σ1, ?_, ?_⟩
      · rw [execT_loop, hr]
        cases e with
        | normal => have := hq.1; omega
        | exit id => rfl
        | ret => rfl
      · cases e with
        | normal => have := hq.1; omega
        | exit id => exact stepW_cont T bs n (by simp) hq
        | ret => exact stepW_cont T bs n (by simp) hq
    | succ m ih =>
      intro i f σ hk hi hI
      obtain ⟨e, f1, σ1, hr, hq⟩ := wpC_sound T bs n (round i f σ hi hI)
      cases e with
      | normal =>
        obtain ⟨e2, f2, σ2, hr2, hq2⟩ := ih (i + 1) f1 σ1 (by omega) (by omega) hq.2
        exact ⟨e2, f2, σ2, by rw [execT_loop, hr]; exact hr2, hq2⟩
      | exit id => exact ⟨_, f1, σ1, by rw [execT_loop, hr]; rfl, stepW_cont T bs n (by simp) hq⟩
      | ret => exact ⟨_, f1, σ1, by rw [execT_loop, hr]; rfl, stepW_cont T bs n (by simp) hq⟩
  exact key N 0 f σ (by omega) (Nat.zero_le _) h0
variable {k : List Fr} {f : FR} {σ : Heap} {Q : AExit → FR → Heap → Prop} {d : Option Nat} {op : AOp} {chk : List AX} {os : List AOper}
@[simp high] theorem stS (p : Prop) [Decidable p] (σ1 : Heap) : stW T bs n (some (.bool (decide p), σ1)) d [] os k f σ Q = ((p → wpK T bs n (.ops os :: k) (updO f d (.bool true)) σ1 Q) ∧ (¬ p → wpK T bs n (.ops os :: k) (updO f d (.bool false)) σ1 Q)) := by
  by_cases h : p <;> simp [h]
@[simp high] theorem stN (p : Prop) [Decidable p] (σ1 : Heap) : stW T bs n (some (.bool (!decide p), σ1)) d [] os k f σ Q = ((¬ p → wpK T bs n (.ops os :: k) (updO f d (.bool true)) σ1 Q) ∧ (p → wpK T bs n (.ops os :: k) (updO f d (.bool false)) σ1 Q)) := by
  by_cases h : p <;> simp [h]
def sym (b : Bool) : Bool := b
@[simp] theorem sym_true : sym true = true := rfl
@[simp] theorem sym_false : sym false = false := rfl
@[simp high] theorem stY (b : Bool) (σ1 : Heap) : stW T bs n (some (.bool (sym b), σ1)) d [] os k f σ Q = ((b = true → wpK T bs n (.ops os :: k) (updO f d (.bool true)) σ1 Q) ∧ (b = false → wpK T bs n (.ops os :: k) (updO f d (.bool false)) σ1 Q)) := by
  cases b <;> simp
end
@[simp] theorem nxtV_ptr (σ : Heap) (id : Nat) : nxtV σ (.ptr id 0) = (match σ[id]? with
      | some (.iter s pos) => if pos < s.size then some (.tup [.bool true, .int .i64 (pos : Int), .int .i32 (Utf8.decode s pos).1], σ.set id (.iter s (pos + (Utf8.decode s pos).2))) else some (.tup [.bool false], σ)
      | _ => none) := rfl
theorem wr64 {n : Int} (h : -9223372036854775808 ≤ n) (h2 : n ≤ 9223372036854775807) : IntKind.i64.wrap n = n := by rw [IntKind.wrap_i64]; omega
theorem wru8 {n : Int} (h : 0 ≤ n) (h2 : n < 256) : IntKind.u8.wrap n = n := by rw [IntKind.wrap_u8]; omega
@[simp] theorem bits64 : IntKind.i64.bits = 64 := rfl
@[simp] theorem bitsu32 : IntKind.u32.bits = 32 := rfl
@[simp] theorem bitsu64 : IntKind.u64.bits = 64 := rfl
@[simp] theorem bitsu8 : IntKind.u8.bits = 8 := rfl
theorem callT_of_eval {T : Tab} {k f : Nat} {args : List AV} {v : AV} (h : evalFn T k f args 0 [] = some (v, [])) : callT T f args 0 [] = some (v, []) := lim_eq (evalFn_M ..) h
theorem pureT_of_call {T : Tab} {f : Nat} {af : AFunc} {args : List AV} {v : AV} (hp : T.pr f = none) (hf : T.fn f = some af) (hm : af.mode = .pure) (hc : args.all AV.clean = true) (h : callT T f args 0 [] = some (v, [])) : pureT T af args = some v := by
  rw [callT_pure T 0 [] hp hf hm, (clean_closeT hc).1] at h
  simp only [Option.bind_some, if_pos (clean_closeT (σ := []) hc).2] at h
  obtain ⟨u, hu, e⟩ := Option.map_eq_some_iff.1 h
  injection e with e1 e2; subst e1; exact hu
section
@[simp] theorem clean0_int (k : IntKind) (n : Int) : (AV.int k n).clean0 = true := rfl
@[simp] theorem clean0_bool (b : Bool) : (AV.bool b).clean0 = true := rfl
@[simp] theorem clean0_str (s : ByteArray) : (AV.str s).clean0 = true := rfl
@[simp] theorem clean0_isl (es : List AV) : (AV.isl es false).clean0 = true := rfl
@[simp] theorem clean0_nilfunc : AV.nilfunc.clean0 = true := rfl
@[simp] theorem clean0_nilmap : AV.nilmap.clean0 = true := rfl
@[simp] theorem clean0_nilptr : AV.nilptr.clean0 = true := rfl
@[simp] theorem clean_int (k : IntKind) (n : Int) : (AV.int k n).clean = true := rfl
@[simp] theorem clean_bool (b : Bool) : (AV.bool b).clean = true := rfl
@[simp] theorem clean_str (s : ByteArray) : (AV.str s).clean = true := rfl
@[simp] theorem clean_isl (es : List AV) : (AV.isl es false).clean = true := rfl
@[simp] theorem clean_agg (cs : List AV) : (AV.agg cs).clean = cs.all AV.clean0 := rfl
@[simp] theorem clean_func (f : Nat) (cs : List AV) : (AV.func f cs).clean = cs.all AV.cleanC := rfl
@[simp] theorem clean_meth (f : Nat) (cs : List AV) : (AV.meth f cs).clean = cs.all AV.cleanC := rfl
@[simp] theorem cleanC_iptr (cs : List AV) (o : Nat) : (AV.iptr cs o).cleanC = cs.all AV.clo1 := rfl
@[simp] theorem clean_iptr (cs : List AV) (o : Nat) : (AV.iptr cs o).clean = cs.all AV.clo1 := rfl
@[simp] theorem cleanC_int (k : IntKind) (n : Int) : (AV.int k n).cleanC = true := rfl
@[simp] theorem cleanC_isl (es : List AV) : (AV.isl es false).cleanC = true := rfl
theorem call_scal {T : Tab} {f : Nat} {af : AFunc} {args args' : List AV} {v : AV} {bs : Nat} {σ σ' : Heap} (hp : T.pr f = none) (hf : T.fn f = some af) (hm : af.mode = .pure) (h : pureT T af args' = some v) (hs : v.scal = true) (hd : args'.all AV.dat = true) (hc : closeT σ args = some (args', σ')) :
    callT T f args bs σ = some (v, σ) := by rw [call_pure hp hf hm hc hd h, if_pos hs]
end
@[simp] theorem chkO_same (ρ : Regs) (σ : Heap) (l : List AX) : chkO ρ σ σ l = some () := by
  unfold chkO
  rw [if_pos]
  exact List.all_eq_true.2 fun x _ => (sameO_iff _ _).2 rfl
def app1 (σ : Heap) (sz : Nat) (ag : Bool) (v : AV) : AV → Option (AV × Heap)
  | .isl [] true => some (.own σ.length [v], σ ++ [.tok 1 sz])
  | .own k es => if es.all (okEl sz ag) = true ∧ es.length ≤ 10000000000 then (match σ[k]? with
    | some (.tok n sz') => if n = es.length ∧ sz' = sz then some (.own k (es ++ [v]), σ.set k (.tok (es.length + 1) sz)) else none
    | _ => none) else none
  | _ => none
theorem app1_eq {σ : Heap} {sz : Nat} {ag : Bool} {bytes : Nat} {s x v : AV} {r : AV × Heap} (hx : elemsN σ sz ag x = some [v]) (hv : okEl sz ag v = true) (h0 : 0 < sz) (hb : bytes ≤ 1000) (h : app1 σ sz ag v s = some r) : appendA σ sz ag bytes false s x = some r := by
  unfold app1 at h
  split at h
  · injection h with h; subst h
    have : ¬ (sz = 0 ∨ (0 + 1) * bytes > 70368744177664 ∨ 0 + 1 > 70368744177664) := by omega
    have he : elemsA σ sz ag (.isl [] true) = some [] := rfl
    simp only [appendA, hx, he, Option.bind_some, isSl, List.length_nil, List.length_singleton, if_neg this]
    simp [hv]
  · rename_i k es
    split at h
    · rename_i hes
      split at h
      · rename_i n sz' hk
        split at h
        · rename_i hn
          injection h with h; subst h
          have hmul : (es.length + 1) * bytes ≤ 10000000001 * 1000 := Nat.mul_le_mul (by omega) hb
          have : ¬ (sz = 0 ∨ (es.length + 1) * bytes > 70368744177664 ∨ es.length + 1 > 70368744177664) := by omega
          have he : elemsA σ sz ag (.own k es) = some es := rfl
          simp only [appendA, hx, he, Option.bind_some, isSl, List.length_singleton, if_neg this]
          simp [hv, hes.1, hk, hn]
        · cases h
      · cases h
    · cases h
  · cases h
theorem window_full {cs : List AV} {n : Nat} (h : cs.length = n) : window cs 0 n = some cs := by
  unfold window; rw [if_pos (by omega), List.drop_zero, List.take_of_length_le (by omega)]
theorem elems_ag1 {σ : Heap} {id sz fz : Nat} {ext : Bool} {cs : List AV} (h : σ[id]? = some (.cells cs fz ext)) (hl : cs.length = sz) : elemsA σ sz true (.sl id 0 1 sz true) = some [.agg cs] := by
  simp only [elemsA, h, Nat.one_mul, window_full hl, Option.bind_some, chunk]
  rw [List.take_of_length_le (by omega)]; rfl
theorem elemsN_ag1 {σ : Heap} {id sz fz : Nat} {ext : Bool} {cs : List AV} (h : σ[id]? = some (.cells cs fz ext)) (hl : cs.length = sz) : elemsN σ sz true (.sl id 0 1 sz true) = some [.agg (cs.map AV.nrm)] := by
  simp only [elemsN, h, Nat.one_mul, window_full hl, Option.bind_some, chunk]
  rw [List.take_of_length_le (by rw [List.length_map]; omega)]; rfl
theorem elemsN_s1 {σ : Heap} {id fz : Nat} {ext : Bool} {v : AV} (h : σ[id]? = some (.cells [v] fz ext)) : elemsN σ 1 false (.sl id 0 1 1 false) = some [v.nrm] := by
  simp only [elemsN, h, Nat.one_mul, window_full (cs := [v]) (n := 1) rfl, Option.bind_some, chunk]
  rfl
theorem nrm_all {cs : List AV} (h : cs.all AV.clo1 = true) : (cs.map AV.nrm).all AV.clo1 = true := by
  rw [List.all_eq_true] at h ⊢
  intro x hx
  obtain ⟨y, hy, rfl⟩ := List.mem_map.1 hx
  rw [nrm_clo1]; exact h y hy
theorem app_ag {σ : Heap} {id sz fz bytes : Nat} {ext : Bool} {cs : List AV} {s : AV} {r : AV × Heap} (h : σ[id]? = some (.cells cs fz ext)) (hl : cs.length = sz) (hc : cs.all AV.clo1 = true) (h0 : 0 < sz) (hb : bytes ≤ 1000) (ha : app1 σ sz true (.agg (cs.map AV.nrm)) s = some r) :
    appendA σ sz true bytes false s (.sl id 0 1 sz true) = some r := app1_eq (elemsN_ag1 h hl) (by simp only [okEl, AV.clo, nrm_all hc, AV.cells, List.length_map, hl, decide_true, Bool.and_self]) h0 hb ha
theorem app_s {σ : Heap} {id fz bytes : Nat} {ext : Bool} {v s : AV} {r : AV × Heap} (h : σ[id]? = some (.cells [v] fz ext)) (hc : v.clo1 = true) (hb : bytes ≤ 1000) (ha : app1 σ 1 false v.nrm s = some r) :
    appendA σ 1 false bytes false s (.sl id 0 1 1 false) = some r := app1_eq (elemsN_s1 h) (by cases v <;> first | rfl | (cases hc; done)) (by omega) hb ha
@[simp] theorem app1_nil (σ : Heap) (sz : Nat) (ag : Bool) (v : AV) : app1 σ sz ag v (.isl [] true) = some (.own σ.length [v], σ ++ [.tok 1 sz]) := rfl
theorem app1_own {σ : Heap} {sz : Nat} {ag : Bool} {v : AV} {k : Nat} {es : List AV} (he : es.all (okEl sz ag) = true) (hl : es.length ≤ 10000000000) (hk : σ[k]? = some (.tok es.length sz)) : app1 σ sz ag v (.own k es) = some (.own k (es ++ [v]), σ.set k (.tok (es.length + 1) sz)) := by
  simp only [app1, he, hl, hk, and_self, if_true]
def appendA0 (σ : Heap) (sz : Nat) (ag : Bool) (bytes : Nat) (s x : AV) : Option (AV × Heap) := appendC σ sz ag bytes false s x
def appK (σ : Heap) (sz : Nat) (ag : Bool) (bytes : Nat) (x v : AV) (k : Nat) (es : List AV) : Option AObj → Option (AV × Heap)
  | some (.tok n sz') => if n = es.length ∧ sz' = sz ∧ es.all (okEl sz ag) = true ∧ es.length ≤ 10000000000 then some (.own k (es ++ [v]), σ.set k (.tok (es.length + 1) sz)) else appendA0 σ sz ag bytes (.own k es) x
  | _ => appendA0 σ sz ag bytes (.own k es) x
def appS (σ : Heap) (sz : Nat) (ag : Bool) (bytes : Nat) (x v : AV) : AV → Option (AV × Heap)
  | .isl [] true => some (.own σ.length [v], σ ++ [.tok 1 sz])
  | .own k es => appK σ sz ag bytes x v k es σ[k]?
  | s => appendA0 σ sz ag bytes s x
def appX (σ : Heap) (sz bytes : Nat) (s x : AV) : Option AObj → Option (AV × Heap)
  | some (.cells cs _ _) => if cs.length = sz ∧ cs.all AV.clo1 = true ∧ 0 < sz ∧ bytes ≤ 1000 then appS σ sz true bytes x (.agg (cs.map AV.nrm)) s else appendA0 σ sz true bytes s x
  | _ => appendA0 σ sz true bytes s x
def appY (σ : Heap) (bytes : Nat) (s x : AV) : Option AObj → Option (AV × Heap)
  | some (.cells [v] _ _) => if v.clo1 = true ∧ bytes ≤ 1000 then appS σ 1 false bytes x v.nrm s else appendA0 σ 1 false bytes s x
  | _ => appendA0 σ 1 false bytes s x
theorem appS_eq {σ : Heap} {sz : Nat} {ag : Bool} {bytes : Nat} {s x v : AV} (h : ∀ r, app1 σ sz ag v s = some r → appendC σ sz ag bytes false s x = some r) : appS σ sz ag bytes x v s = appendC σ sz ag bytes false s x := by
  unfold appS
  split
  · exact (h _ rfl).symm
  · rename_i k es
    cases hk : σ[k]? with
    | none => rfl
    | some o =>
      cases o with
      | tok n sz' =>
        simp only [appK]
        split
        · rename_i hc
          obtain ⟨rfl, rfl, h1, h2⟩ := hc
          exact (h _ (app1_own h1 h2 hk)).symm
        · rfl
      | _ => rfl
  · rfl
theorem appendC_clo {σ : Heap} {id off len sz' fz sz bytes : Nat} {ext ag ag' : Bool} {cs : List AV} {s : AV} (h : σ[id]? = some (.cells cs fz ext)) (hc : cs.all AV.clo1 = true) : appendC σ sz ag bytes false s (.sl id off len sz' ag') = appendA (closeS σ s) sz ag bytes false s (.sl id off len sz' ag') := by
  simp only [appendC, closeX, h, hc, if_true, Bool.false_eq_true, if_false]
@[simp] theorem closeS_isl (σ : Heap) (es : List AV) (b : Bool) : closeS σ (.isl es b) = σ := rfl
@[simp] theorem closeS_own (σ : Heap) (k : Nat) (es : List AV) : closeS σ (.own k es) = σ := rfl
theorem app1_closeS {σ : Heap} {sz : Nat} {ag : Bool} {v s : AV} {r : AV × Heap} (h : app1 σ sz ag v s = some r) : closeS σ s = σ := by
  unfold app1 at h
  split at h
  · rfl
  · rfl
  · cases h
theorem app_slC {σ : Heap} {id j sz fz fj bytes : Nat} {ej : Bool} {cs ds : List AV} (hid : σ[id]? = some (.cells cs fz false)) (hj : σ[j]? = some (.cells ds fj ej)) (hne : id ≠ j) (hc : cs.length = sz) (hd : ds.length = sz) (hcc : cs.all AV.clo1 = true) (hdc : ds.all AV.clo1 = true) (h0 : 0 < sz) (hb : bytes ≤ 1000) :
    appendC σ sz true bytes false (.sl id 0 1 sz true) (.sl j 0 1 sz true) = some (.own σ.length [.agg (cs.map AV.nrm), .agg (ds.map AV.nrm)], closeS σ (.sl id 0 1 sz true) ++ [.tok 2 sz]) := by
  rw [appendC_clo hj hdc]
  have hlen : (closeS σ (.sl id 0 1 sz true)).length = σ.length := by
    simp only [closeS, hid]; split <;> simp
  have hidl : id < σ.length := (List.getElem?_eq_some_iff.1 hid).1
  have tidyN : ∀ l : List AV, l.all AV.tidy = true → l.map AV.nrm = l := fun l hl => by
    rw [List.all_eq_true] at hl
    rw [List.map_congr_left (g := fun y => y) (fun x hx => ?_), List.map_id']
    have := hl x hx
    cases x with
    | isl es b => cases b with
      | true => cases this
      | false => rfl
    | _ => rfl
  have k1 : ∃ fz', (closeS σ (.sl id 0 1 sz true))[id]? = some (.cells (cs.map AV.nrm) fz' false) := by
    simp only [closeS, hid]
    split
    · exact ⟨fz, by simp [hidl]⟩
    · rename_i hn
      have : cs.all AV.tidy = true := by
        cases h : cs.all AV.tidy with
        | true => rfl
        | false => exact absurd ⟨h, hcc⟩ hn
      rw [tidyN cs this]; exact ⟨fz, hid⟩
  have k2 : (closeS σ (.sl id 0 1 sz true))[j]? = some (.cells ds fj ej) := by
    simp only [closeS, hid]
    split
    · rw [List.getElem?_set, if_neg hne]; exact hj
    · exact hj
  obtain ⟨fz', k1⟩ := k1
  generalize closeS σ (.sl id 0 1 sz true) = τ at *
  have hcl : (cs.map AV.nrm).length = sz := by simp [hc]
  have e1 := elems_ag1 k1 hcl
  have e2 := elemsN_ag1 k2 hd
  have hne2 : ¬ (sz = 0 ∨ (1 + 1) * bytes > 70368744177664 ∨ 1 + 1 > 70368744177664) := by omega
  have o1 : okEl sz true (.agg (cs.map AV.nrm)) = true := by simp only [okEl, AV.clo, nrm_all hcc, AV.cells, List.length_map, hc, decide_true, Bool.and_self]
  have o2 : okEl sz true (.agg (ds.map AV.nrm)) = true := by simp only [okEl, AV.clo, nrm_all hdc, AV.cells, List.length_map, hd, decide_true, Bool.and_self]
  simp only [appendA, e1, e2, Option.bind_some, isSl, List.length_singleton, if_neg hne2, k1]
  simp [hc, o1, o2, hlen]
@[simp] theorem appendC_true (σ : Heap) (sz : Nat) (ag : Bool) (bytes : Nat) (s x : AV) : appendC σ sz ag bytes true s x = appendA σ sz ag bytes true s x := rfl
@[simp] theorem appendC_isl (σ : Heap) (sz : Nat) (ag : Bool) (bytes : Nat) (s : AV) (es : List AV) (b : Bool) : appendC σ sz ag bytes false s (.isl es b) = appendA (closeS σ s) sz ag bytes false s (.isl es b) := rfl
@[simp] theorem appendC_own (σ : Heap) (sz : Nat) (ag : Bool) (bytes : Nat) (s : AV) (k : Nat) (es : List AV) : appendC σ sz ag bytes false s (.own k es) = appendA (closeS σ s) sz ag bytes false s (.own k es) := rfl
@[simp] theorem appendC_str (σ : Heap) (sz : Nat) (ag : Bool) (bytes : Nat) (s : AV) (t : ByteArray) : appendC σ sz ag bytes false s (.str t) = appendA (closeS σ s) sz ag bytes false s (.str t) := rfl
@[simp] theorem appendA_ag (σ : Heap) (sz bytes : Nat) (s : AV) (id : Nat) : appendC σ sz true bytes false s (.sl id 0 1 sz true) = appX σ sz bytes s (.sl id 0 1 sz true) σ[id]? := by
  cases hi : σ[id]? with
  | none => rfl
  | some o =>
    cases o with
    | cells cs fz ext =>
      simp only [appX]
      split
      · rename_i hc
        obtain ⟨h1, h2, h3, h4⟩ := hc
        exact (appS_eq fun r hr => (appendC_clo hi h2).trans (by rw [app1_closeS hr]; exact app_ag hi h1 h2 h3 h4 hr)).symm
      · rfl
    | _ => rfl
@[simp] theorem appendA_s (σ : Heap) (bytes : Nat) (s : AV) (id : Nat) : appendC σ 1 false bytes false s (.sl id 0 1 1 false) = appY σ bytes s (.sl id 0 1 1 false) σ[id]? := by
  cases hi : σ[id]? with
  | none => rfl
  | some o =>
    cases o with
    | cells cs fz ext =>
      match cs with
      | [v] =>
        simp only [appY]
        split
        · rename_i hc
          exact (appS_eq fun r hr => (appendC_clo hi (by simp [hc.1])).trans (by rw [app1_closeS hr]; exact app_s hi hc.1 hc.2 hr)).symm
        · rfl
      | [] => rfl
      | _ :: _ :: _ => rfl
    | _ => rfl
@[simp] theorem appX_cells (σ : Heap) (sz bytes : Nat) (s x : AV) (cs : List AV) (fz : Nat) (ext : Bool) : appX σ sz bytes s x (some (.cells cs fz ext)) = if cs.length = sz ∧ cs.all AV.clo1 = true ∧ 0 < sz ∧ bytes ≤ 1000 then appS σ sz true bytes x (.agg (cs.map AV.nrm)) s else appendA0 σ sz true bytes s x := rfl
@[simp] theorem appY_cells (σ : Heap) (bytes : Nat) (s x v : AV) (fz : Nat) (ext : Bool) : appY σ bytes s x (some (.cells [v] fz ext)) = if v.clo1 = true ∧ bytes ≤ 1000 then appS σ 1 false bytes x v.nrm s else appendA0 σ 1 false bytes s x := rfl
@[simp] theorem appS_nil (σ : Heap) (sz : Nat) (ag : Bool) (bytes : Nat) (x v : AV) : appS σ sz ag bytes x v (.isl [] true) = some (.own σ.length [v], σ ++ [.tok 1 sz]) := rfl
@[simp] theorem appS_own (σ : Heap) (sz : Nat) (ag : Bool) (bytes : Nat) (x v : AV) (k : Nat) (es : List AV) : appS σ sz ag bytes x v (.own k es) = appK σ sz ag bytes x v k es σ[k]? := rfl
@[simp] theorem appK_tok (σ : Heap) (sz : Nat) (ag : Bool) (bytes : Nat) (x v : AV) (k : Nat) (es : List AV) (n sz' : Nat) : appK σ sz ag bytes x v k es (some (.tok n sz')) = if n = es.length ∧ sz' = sz ∧ es.all (okEl sz ag) = true ∧ es.length ≤ 10000000000 then some (.own k (es ++ [v]), σ.set k (.tok (es.length + 1) sz)) else appendA0 σ sz ag bytes (.own k es) x := rfl
def endR (n : Nat) (rs : List ARes) (cl : Bool) (m : Mode) (n0 : Nat) (r : AV × Heap) : AExit → FR → Heap → Prop
  | .exit _, _, _ => False
  | _, f, σ => ((resF n f σ rs).bind fun vs => (closeRes cl σ (res1 vs)).bind (dropA m n0)) = some r
@[simp] theorem endR_ret (n : Nat) (rs : List ARes) (cl : Bool) (m : Mode) (n0 : Nat) (r : AV × Heap) (f : FR) (σ : Heap) : endR n rs cl m n0 r .ret f σ = (((resF n f σ rs).bind fun vs => (closeRes cl σ (res1 vs)).bind (dropA m n0)) = some r) := rfl
@[simp] theorem endR_normal (n : Nat) (rs : List ARes) (cl : Bool) (m : Mode) (n0 : Nat) (r : AV × Heap) (f : FR) (σ : Heap) : endR n rs cl m n0 r .normal f σ = (((resF n f σ rs).bind fun vs => (closeRes cl σ (res1 vs)).bind (dropA m n0)) = some r) := rfl
@[simp] theorem closeRes_true (σ : Heap) (v : AV) : closeRes true σ v = closeR σ v := rfl
@[simp] theorem closeRes_false (σ : Heap) (v : AV) : closeRes false σ v = some (v, σ) := rfl
@[simp] theorem dropA_raw (n : Nat) (r : AV × Heap) : dropA .raw n r = some r := rfl
theorem dropA_gc (n : Nat) (r : AV × Heap) : dropA .gc n r = if refLt n r.1 = true then some (r.1, r.2.take n) else none := rfl
theorem heap_enter {T : Tab} {f : Nat} {af : AFunc} {args args' : List AV} {bs : Nat} {σ σ1 : Heap} {r : AV × Heap} (hp : T.pr f = none) (hf : T.fn f = some af) (hm : af.mode ≠ .pure) (hl : args'.length ≤ af.ntmps) (hc : closeArgs af.clArgs σ args = some (args', σ1))
    (hw : wpK T (baseA af bs σ1.length) af.ntmps [.code af.body] (argF args') σ1 (endR af.ntmps af.res af.clRes af.mode σ1.length r)) : callT T f args bs σ = some r := by
  rw [callT_fn T bs σ hp hf hm, hc]
  obtain ⟨e, f', σ', hr, hk⟩ := wpC_sound T _ af.ntmps hw
  simp only [Option.bind_some]
  rw [startA_lst hl, hr]
  cases e with
  | exit id => exact hk.elim
  | normal =>
    simp only [Option.bind_some, finA, resA_lst]
    exact hk
  | ret =>
    simp only [Option.bind_some, finA, resA_lst]
    exact hk
def endE (n : Nat) (rs : List ARes) (cl : Bool) (m : Mode) (n0 : Nat) (P : AV × Heap → Prop) : AExit → FR → Heap → Prop
  | .exit _, _, _ => False
  | _, f, σ => ∃ r, ((resF n f σ rs).bind fun vs => (closeRes cl σ (res1 vs)).bind (dropA m n0)) = some r ∧ P r
@[simp] theorem endE_ret (n : Nat) (rs : List ARes) (cl : Bool) (m : Mode) (n0 : Nat) (P : AV × Heap → Prop) (f : FR) (σ : Heap) : endE n rs cl m n0 P .ret f σ = (∃ r, ((resF n f σ rs).bind fun vs => (closeRes cl σ (res1 vs)).bind (dropA m n0)) = some r ∧ P r) := rfl
@[simp] theorem endE_normal (n : Nat) (rs : List ARes) (cl : Bool) (m : Mode) (n0 : Nat) (P : AV × Heap → Prop) (f : FR) (σ : Heap) : endE n rs cl m n0 P .normal f σ = (∃ r, ((resF n f σ rs).bind fun vs => (closeRes cl σ (res1 vs)).bind (dropA m n0)) = some r ∧ P r) := rfl
theorem heap_enterE {T : Tab} {f : Nat} {af : AFunc} {args args' : List AV} {bs : Nat} {σ σ1 : Heap} {P : AV × Heap → Prop} (hp : T.pr f = none) (hf : T.fn f = some af) (hm : af.mode ≠ .pure) (hl : args'.length ≤ af.ntmps) (hc : closeArgs af.clArgs σ args = some (args', σ1))
    (hw : wpK T (baseA af bs σ1.length) af.ntmps [.code af.body] (argF args') σ1 (endE af.ntmps af.res af.clRes af.mode σ1.length P)) : ∃ r, callT T f args bs σ = some r ∧ P r := by
  rw [callT_fn T bs σ hp hf hm, hc]
  obtain ⟨e, f', σ', hr, hk⟩ := wpC_sound T _ af.ntmps hw
  simp only [Option.bind_some]
  rw [startA_lst hl, hr]
  cases e with
  | exit id => exact hk.elim
  | normal =>
    simp only [Option.bind_some, finA, resA_lst]
    exact hk
  | ret =>
    simp only [Option.bind_some, finA, resA_lst]
    exact hk
def headYld : List AV → Bool
  | .yld _ :: _ => true
  | _ => false
@[simp] theorem headYld_nil : headYld [] = false := rfl
@[simp] theorem headYld_agg (cs xs : List AV) : headYld (.agg cs :: xs) = false := by cases xs <;> rfl
@[simp] theorem headYld_int (k : IntKind) (n : Int) (xs : List AV) : headYld (.int k n :: xs) = false := by cases xs <;> rfl
@[simp] theorem headYld_str (s : ByteArray) (xs : List AV) : headYld (.str s :: xs) = false := by cases xs <;> rfl
@[simp] theorem headYld_bool (b : Bool) (xs : List AV) : headYld (.bool b :: xs) = false := by cases xs <;> rfl
@[simp] theorem headYld_isl (es : List AV) (c : Bool) (xs : List AV) : headYld (.isl es c :: xs) = false := by cases xs <;> rfl
@[simp] theorem headYld_ptr (i o : Nat) (xs : List AV) : headYld (.ptr i o :: xs) = false := by cases xs <;> rfl
@[simp] theorem headYld_iptr (cs : List AV) (o : Nat) (xs : List AV) : headYld (.iptr cs o :: xs) = false := by cases xs <;> rfl
@[simp] theorem headYld_own (i : Nat) (es xs : List AV) : headYld (.own i es :: xs) = false := by cases xs <;> rfl
@[simp] theorem headYld_sl (i o l s : Nat) (a : Bool) (xs : List AV) : headYld (.sl i o l s a :: xs) = false := by cases xs <;> rfl
@[simp] theorem headYld_func (f : Nat) (cs xs : List AV) : headYld (.func f cs :: xs) = false := by cases xs <;> rfl
@[simp] theorem headYld_map (i : Nat) (xs : List AV) : headYld (.map i :: xs) = false := by cases xs <;> rfl
end Go.Mach
end
section
namespace Go.Mach
open Go.RowKit
end Go.Mach
end
