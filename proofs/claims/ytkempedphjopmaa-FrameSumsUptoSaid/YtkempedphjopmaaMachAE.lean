import Derived.Test.YtkempedphjopmaaMachAD
set_option linter.unusedVariables false
set_option linter.unusedSimpArgs false
set_option linter.unnecessarySimpa false
namespace Go.Mach
open Go.RowKit

/-! ### Reckoning what code does: registers as functions -/
abbrev FR := Nat → AV
def lst (n : Nat) (f : FR) : Regs := (List.range n).map f
def upF (f : FR) (d : Nat) (v : AV) : FR := fun t => if t = d then v else f t
theorem lst_length (n : Nat) (f : FR) : (lst n f).length = n := by simp [lst]
theorem lst_getD (n : Nat) (f : FR) (t : Nat) : (lst n f).getD t .undef = if t < n then f t else .undef := by
  simp only [lst, List.getD_eq_getElem?_getD, List.getElem?_map]
  rcases Nat.lt_or_ge t n with h | h
  · rw [List.getElem?_range h, if_pos h]; rfl
  · rw [List.getElem?_eq_none (by simpa using h), if_neg (by omega)]; rfl
theorem lst_set (n : Nat) (f : FR) (d : Nat) (v : AV) : (lst n f).set d v = lst n (upF f d v) := by
  apply List.ext_getElem?
  intro t
  simp only [lst, List.getElem?_set, List.getElem?_map, List.length_map, List.length_range]
  by_cases h : d = t
  · subst h
    rcases Nat.lt_or_ge d n with h | h
    · simp [h, upF]
    · simp [Nat.not_lt.2 h]
  · simp only [if_neg h]
    rcases Nat.lt_or_ge t n with h' | h'
    · rw [List.getElem?_range h']; simp [upF, Ne.symm h]
    · rw [List.getElem?_eq_none (by simpa using h')]; rfl
def evF (n : Nat) (f : FR) : AX → AV
  | .t t => if t < n then f t else .undef
  | .c v => v
  | .f k => .func k []
@[simp] theorem ev_lst (n : Nat) (f : FR) (x : AX) : ev (lst n f) x = evF n f x := by
  cases x with
  | t t => exact lst_getD n f t
  | _ => rfl
def updO (f : FR) : Option Nat → AV → FR
  | some d, v => upF f d v
  | none, _ => f
theorem setDst_lst (n : Nat) (f : FR) (d : Option Nat) (v : AV) : setDst (lst n f) d v = lst n (updO f d v) := by
  cases d with
  | none => rfl
  | some d => exact lst_set n f d v
def guardV (b : Bool) : AV → Option Bool
  | .bool c => some (c == b)
  | .tup _ => some false
  | _ => none
section
variable (T : Tab) (bs n : Nat)
def W (c : ACode) (f : FR) (σ : Heap) (Q : AExit → FR → Heap → Prop) : Prop := ∃ e f' σ', execT T bs c (lst n f) σ = some (e, lst n f', σ') ∧ Q e f' σ'
inductive Fr where
  | code (c : ACode)
  | ops (os : List AOper)
  | blk (id : Nat)
def ACode.sz : ACode → Nat
  | .region os => os.length + 2
  | .seq a b => a.sz + b.sz + 1
  | .cond _ a b => a.sz + b.sz + 1
  | .block _ c => c.sz + 2
  | .loop c => c.sz + 1
  | _ => 1
def Fr.sz : Fr → Nat
  | .code c => c.sz
  | .ops os => os.length + 1
  | .blk _ => 1
def szs (k : List Fr) : Nat := (k.map Fr.sz).sum
def popTo (id : Nat) : List Fr → Option (List Fr)
  | [] => none
  | .blk i :: k => if i = id then some k else popTo id k
  | _ :: k => popTo id k
theorem ACode.sz_pos (c : ACode) : 0 < c.sz := by cases c <;> simp [ACode.sz]
theorem Fr.sz_pos (x : Fr) : 0 < x.sz := by
  cases x with
  | code c => exact c.sz_pos
  | ops os => simp [Fr.sz]
  | blk id => simp [Fr.sz]
theorem popTo_sz {id : Nat} : ∀ {k k' : List Fr}, popTo id k = some k' → szs k' < szs k
  | [], k', h => by simp [popTo] at h
  | x :: k, k', h => by
    have hx := x.sz_pos
    have e : szs (x :: k) = x.sz + szs k := by simp [szs]
    cases x with
    | blk i =>
      simp only [popTo] at h
      split at h
      · injection h with h; subst h; omega
      · have := popTo_sz h; omega
    | code c => have := popTo_sz (k := k) (k' := k') h; omega
    | ops os => have := popTo_sz (k := k) (k' := k') h; omega
/-- What is left to do, told of an exit. -/
def contQ : List Fr → (AExit → FR → Heap → Prop) → AExit → FR → Heap → Prop
  | [], Q, e, f, σ => Q e f σ
  | .code b :: k, Q, e, f, σ => match e with
    | .normal => W T bs n b f σ (contQ k Q)
    | e => contQ k Q e f σ
  | .ops os :: k, Q, e, f, σ => match e with
    | .normal => W T bs n (.region os) f σ (contQ k Q)
    | e => contQ k Q e f σ
  | .blk id :: k, Q, e, f, σ => match e with
    | .exit i => if i = id then contQ k Q .normal f σ else contQ k Q (.exit i) f σ
    | e => contQ k Q e f σ
/-- What must hold, for the rest to end in Q. -/
def wpK (k : List Fr) (f : FR) (σ : Heap) (Q : AExit → FR → Heap → Prop) : Prop :=
  match k with
  | [] => Q .normal f σ
  | .blk _ :: k => wpK k f σ Q
  | .ops [] :: k => wpK k f σ Q
  | .ops (⟨d, op, none, chk⟩ :: os) :: k => match stepAll (callT T) bs (lst n f) σ op with
    | some (v, σ1) => chkO (lst n f) σ σ1 chk = some () ∧ wpK (.ops os :: k) (updO f d v) σ1 Q
    | none => False
  | .ops (⟨d, op, some (g, w), chk⟩ :: os) :: k => match guardV w (evF n f (.t g)) with
    | some true => (match stepAll (callT T) bs (lst n f) σ op with
      | some (v, σ1) => chkO (lst n f) σ σ1 chk = some () ∧ wpK (.ops os :: k) (updO f d v) σ1 Q
      | none => False)
    | some false => wpK (.ops os :: k) (updO f d (.tup [])) σ Q
    | none => False
  | .code .skip :: k => wpK k f σ Q
  | .code (.region os) :: k => wpK (.ops os :: k) f σ Q
  | .code (.seq a b) :: k => wpK (.code a :: .code b :: k) f σ Q
  | .code (.cond c x y) :: k => match evF n f c with
    | .bool true => wpK (.code x :: k) f σ Q
    | .bool false => wpK (.code y :: k) f σ Q
    | _ => False
  | .code (.block id c) :: k => wpK (.code c :: .blk id :: k) f σ Q
  | .code (.exit id) :: k => match _h : popTo id k with
    | some k' => wpK k' f σ Q
    | none => Q (.exit id) f σ
  | .code .ret :: _ => Q .ret f σ
  | .code (.loop c) :: k => W T bs n (.loop c) f σ (contQ T bs n k Q)
termination_by szs k
decreasing_by
  all_goals (simp only [szs, List.map_cons, List.sum_cons, Fr.sz, ACode.sz, List.length_cons, List.length_nil] at *)
  all_goals (try omega)
  · have := popTo_sz _h; simp only [szs] at this; omega

/-! #### The same, step by step -/
def stW (r : Option (AV × Heap)) (d : Option Nat) (chk : List AX) (os : List AOper) (k : List Fr) (f : FR) (σ : Heap) (Q : AExit → FR → Heap → Prop) : Prop := match r with
  | some (v, σ1) => chkO (lst n f) σ σ1 chk = some () ∧ wpK T bs n (.ops os :: k) (updO f d v) σ1 Q
  | none => False
def gdW (r : Option Bool) (d : Option Nat) (op : AOp) (chk : List AX) (os : List AOper) (k : List Fr) (f : FR) (σ : Heap) (Q : AExit → FR → Heap → Prop) : Prop := match r with
  | some true => stW T bs n (stepAll (callT T) bs (lst n f) σ op) d chk os k f σ Q
  | some false => wpK T bs n (.ops os :: k) (updO f d (.tup [])) σ Q
  | none => False
def cdW (v : AV) (x y : ACode) (k : List Fr) (f : FR) (σ : Heap) (Q : AExit → FR → Heap → Prop) : Prop := match v with
  | .bool true => wpK T bs n (.code x :: k) f σ Q
  | .bool false => wpK T bs n (.code y :: k) f σ Q
  | _ => False
def exW (r : Option (List Fr)) (id : Nat) (f : FR) (σ : Heap) (Q : AExit → FR → Heap → Prop) : Prop := match r with
  | some k => wpK T bs n k f σ Q
  | none => Q (.exit id) f σ
section
variable (k : List Fr) (f : FR) (σ : Heap) (Q : AExit → FR → Heap → Prop) (os : List AOper) (d : Option Nat) (op : AOp) (chk : List AX)
@[simp] theorem wpK_nil : wpK T bs n [] f σ Q = Q .normal f σ := by rw [wpK]
@[simp] theorem wpK_blk (id : Nat) : wpK T bs n (.blk id :: k) f σ Q = wpK T bs n k f σ Q := by rw [wpK]
@[simp] theorem wpK_ops : wpK T bs n (.ops [] :: k) f σ Q = wpK T bs n k f σ Q := by rw [wpK]
@[simp] theorem wpK_op : wpK T bs n (.ops (⟨d, op, none, chk⟩ :: os) :: k) f σ Q = stW T bs n (stepAll (callT T) bs (lst n f) σ op) d chk os k f σ Q := by rw [wpK]; rfl
@[simp] theorem wpK_gd (g : Nat) (w : Bool) : wpK T bs n (.ops (⟨d, op, some (g, w), chk⟩ :: os) :: k) f σ Q = gdW T bs n (guardV w (evF n f (.t g))) d op chk os k f σ Q := by rw [wpK]; rfl
@[simp] theorem wpK_skip : wpK T bs n (.code .skip :: k) f σ Q = wpK T bs n k f σ Q := by rw [wpK]
@[simp] theorem wpK_region : wpK T bs n (.code (.region os) :: k) f σ Q = wpK T bs n (.ops os :: k) f σ Q := by rw [wpK]
@[simp] theorem wpK_seq (a b : ACode) : wpK T bs n (.code (.seq a b) :: k) f σ Q = wpK T bs n (.code a :: .code b :: k) f σ Q := by rw [wpK]
@[simp] theorem wpK_cond (c : AX) (x y : ACode) : wpK T bs n (.code (.cond c x y) :: k) f σ Q = cdW T bs n (evF n f c) x y k f σ Q := by rw [wpK]; rfl
@[simp] theorem wpK_block (id : Nat) (c : ACode) : wpK T bs n (.code (.block id c) :: k) f σ Q = wpK T bs n (.code c :: .blk id :: k) f σ Q := by rw [wpK]
@[simp] theorem wpK_exit (id : Nat) : wpK T bs n (.code (.exit id) :: k) f σ Q = exW T bs n (popTo id k) id f σ Q := by
  rw [wpK]; split <;> rename_i h <;> rw [h] <;> rfl
@[simp] theorem wpK_ret : wpK T bs n (.code .ret :: k) f σ Q = Q .ret f σ := by rw [wpK]
@[simp] theorem wpK_loop (c : ACode) : wpK T bs n (.code (.loop c) :: k) f σ Q = W T bs n (.loop c) f σ (contQ T bs n k Q) := by rw [wpK]
@[simp] theorem stW_nil (v : AV) (σ1 : Heap) : stW T bs n (some (v, σ1)) d [] os k f σ Q = wpK T bs n (.ops os :: k) (updO f d v) σ1 Q := by simp [stW, chkO_nil]
@[simp] theorem stW_cons (v : AV) (σ1 : Heap) (x : AX) : stW T bs n (some (v, σ1)) d (x :: chk) os k f σ Q = (chkO (lst n f) σ σ1 (x :: chk) = some () ∧ wpK T bs n (.ops os :: k) (updO f d v) σ1 Q) := rfl
@[simp] theorem stW_none : stW T bs n none d chk os k f σ Q = False := rfl
@[simp] theorem gdW_true : gdW T bs n (some true) d op chk os k f σ Q = stW T bs n (stepAll (callT T) bs (lst n f) σ op) d chk os k f σ Q := rfl
@[simp] theorem gdW_false : gdW T bs n (some false) d op chk os k f σ Q = wpK T bs n (.ops os :: k) (updO f d (.tup [])) σ Q := rfl
@[simp] theorem cdW_true (x y : ACode) : cdW T bs n (.bool true) x y k f σ Q = wpK T bs n (.code x :: k) f σ Q := rfl
@[simp] theorem cdW_false (x y : ACode) : cdW T bs n (.bool false) x y k f σ Q = wpK T bs n (.code y :: k) f σ Q := rfl
@[simp] theorem exW_some (id : Nat) : exW T bs n (some k) id f σ Q = wpK T bs n k f σ Q := rfl
@[simp] theorem exW_none (id : Nat) : exW T bs n none id f σ Q = Q (.exit id) f σ := rfl
end
theorem W_mono {c : ACode} {f σ} {Q Q' : AExit → FR → Heap → Prop} (h : W T bs n c f σ Q) (hq : ∀ e f σ, Q e f σ → Q' e f σ) : W T bs n c f σ Q' := by
  obtain ⟨e, f', σ', hr, hk⟩ := h; exact ⟨e, f', σ', hr, hq _ _ _ hk⟩
theorem W_op {d : Option Nat} {op : AOp} {gd : Option (Nat × Bool)} {chk : List AX} {os : List AOper} {f : FR} {σ : Heap} {Q : AExit → FR → Heap → Prop} {v : AV} {σ1 : Heap} (hg : guardA (lst n f) gd = some true)
    (hs : stepAll (callT T) bs (lst n f) σ op = some (v, σ1)) (hc : chkO (lst n f) σ σ1 chk = some ()) (h : W T bs n (.region os) (updO f d v) σ1 Q) : W T bs n (.region (⟨d, op, gd, chk⟩ :: os)) f σ Q := by
  obtain ⟨e, f', σ', hr, hk⟩ := h
  refine ⟨e, f', σ', ?_, hk⟩
  rw [execT_region, opsT_cons]
  rw [execT_region] at hr
  simp only [hg, Option.bind_some, hs, hc, setDst_lst]
  exact hr
theorem W_no {d : Option Nat} {op : AOp} {gd : Option (Nat × Bool)} {chk : List AX} {os : List AOper} {f : FR} {σ : Heap} {Q : AExit → FR → Heap → Prop} (hg : guardA (lst n f) gd = some false)
    (h : W T bs n (.region os) (updO f d (.tup [])) σ Q) : W T bs n (.region (⟨d, op, gd, chk⟩ :: os)) f σ Q := by
  obtain ⟨e, f', σ', hr, hk⟩ := h
  refine ⟨e, f', σ', ?_, hk⟩
  rw [execT_region, opsT_cons]
  rw [execT_region] at hr
  simp only [hg, Option.bind_some, setDst_lst]
  exact hr
theorem popTo_contQ {id : Nat} {Q : AExit → FR → Heap → Prop} {f : FR} {σ : Heap} : ∀ (k : List Fr), (∀ k', popTo id k = some k' → contQ T bs n k' Q .normal f σ → contQ T bs n k Q (.exit id) f σ) ∧ (popTo id k = none → Q (.exit id) f σ → contQ T bs n k Q (.exit id) f σ)
  | [] => ⟨fun k' h => by simp [popTo] at h, fun _ h => h⟩
  | .code c :: k => popTo_contQ k
  | .ops os :: k => popTo_contQ k
  | .blk i :: k => by
    simp only [popTo, contQ]
    by_cases h : i = id
    · subst h
      simp only [if_true]
      exact ⟨fun k' hk hq => by injection hk with hk; subst hk; exact hq, fun hk => by cases hk⟩
    · simp only [if_neg h, if_neg (Ne.symm h)]
      exact popTo_contQ k
theorem guard_ev {f : FR} {g : Nat} {w b : Bool} (h : guardV w (evF n f (.t g)) = some b) : guardA (lst n f) (some (g, w)) = some b := by
  have := lst_getD n f g
  simp only [guardA, this]
  simp only [evF] at h
  generalize (if g < n then f g else .undef) = x at h
  cases x <;> simp_all [guardV]
theorem wpK_sound : ∀ (k : List Fr) (f : FR) (σ : Heap) (Q : AExit → FR → Heap → Prop), wpK T bs n k f σ Q → contQ T bs n k Q .normal f σ := by
  intro k f σ Q
  induction k, f, σ using wpK.induct T bs n with
  | case1 f σ => rw [wpK]; exact id
  | case2 f σ id k ih => rw [wpK]; exact ih
  | case3 f σ k ih => rw [wpK]; intro h; exact ⟨.normal, f, σ, by rw [execT_region, opsT_nil]; rfl, ih h⟩
  | case4 f σ d op chk os k v σ1 hs ih =>
    rw [wpK, hs]; rintro ⟨hc, h⟩
    exact W_op T bs n rfl hs hc (ih h)
  | case5 f σ d op chk os k hs => rw [wpK, hs]; exact False.elim
  | case6 f σ d op g w chk os k hg v σ1 hs ih =>
    rw [wpK, hg]; simp only [hs]; rintro ⟨hc, h⟩
    exact W_op T bs n (guard_ev n hg) hs hc (ih h)
  | case7 f σ d op g w chk os k hg hs => rw [wpK, hg]; simp only [hs]; exact False.elim
  | case8 f σ d op g w chk os k hg ih =>
    rw [wpK, hg]; intro h
    exact W_no T bs n (guard_ev n hg) (ih h)
  | case9 f σ d op g w chk os k hg => rw [wpK, hg]; exact False.elim
  | case10 f σ k ih => rw [wpK]; intro h; exact ⟨.normal, f, σ, execT_skip .., ih h⟩
  | case11 f σ k os ih => rw [wpK]; exact ih
  | case12 f σ k a b ih =>
    rw [wpK]; intro h
    obtain ⟨e, f1, σ1, hr, hq⟩ := ih h
    cases e with
    | normal =>
      obtain ⟨e2, f2, σ2, hr2, hq2⟩ := hq
      exact ⟨e2, f2, σ2, by rw [execT_seq, hr]; exact hr2, hq2⟩
    | exit id => exact ⟨_, f1, σ1, by rw [execT_seq, hr]; rfl, hq⟩
    | ret => exact ⟨_, f1, σ1, by rw [execT_seq, hr]; rfl, hq⟩
  | case13 f σ k c x y hb ih =>
    rw [wpK, hb]; intro h
    obtain ⟨e, f1, σ1, hr, hq⟩ := ih h
    exact ⟨e, f1, σ1, by rw [execT_cond, ev_lst, hb]; exact hr, hq⟩
  | case14 f σ k c x y hb ih =>
    rw [wpK, hb]; intro h
    obtain ⟨e, f1, σ1, hr, hq⟩ := ih h
    exact ⟨e, f1, σ1, by rw [execT_cond, ev_lst, hb]; exact hr, hq⟩
  | case15 f σ k c x y h1 h2 =>
    rw [wpK]
    split
    · rename_i e; exact absurd e h1
    · rename_i e; exact absurd e h2
    · exact False.elim
  | case16 f σ id c k ih =>
    rw [wpK]; intro h
    obtain ⟨e, f1, σ1, hr, hq⟩ := ih h
    cases e with
    | normal => exact ⟨_, f1, σ1, by rw [execT_block, hr]; rfl, hq⟩
    | ret => exact ⟨_, f1, σ1, by rw [execT_block, hr]; rfl, hq⟩
    | exit i =>
      simp only [contQ] at hq
      by_cases hi : i = id
      · rw [if_pos hi] at hq
        exact ⟨_, f1, σ1, by rw [execT_block, hr]; simp only [Option.map_some, outBlock, if_pos hi], hq⟩
      · rw [if_neg hi] at hq
        exact ⟨_, f1, σ1, by rw [execT_block, hr]; simp only [Option.map_some, outBlock, if_neg hi], hq⟩
  | case17 f σ id k k' hk ih =>
    rw [wpK_exit, hk]; intro h
    exact ⟨_, f, σ, execT_exit .., (popTo_contQ T bs n k).1 k' hk (ih h)⟩
  | case18 f σ id k hk =>
    rw [wpK_exit, hk]; intro h
    exact ⟨_, f, σ, execT_exit .., (popTo_contQ T bs n k).2 hk h⟩
  | case19 f σ k =>
    rw [wpK]; intro h
    have : ∀ k, contQ T bs n k Q .ret f σ := fun k => by
      induction k with
      | nil => exact h
      | cons x k ih => cases x <;> exact ih
    exact ⟨_, f, σ, execT_ret .., this k⟩
  | case20 f σ k c => rw [wpK]; exact id
theorem wpC_sound {c : ACode} {f : FR} {σ : Heap} {Q : AExit → FR → Heap → Prop} (h : wpK T bs n [.code c] f σ Q) : W T bs n c f σ Q := by
  have := wpK_sound T bs n [.code c] f σ Q h
  exact W_mono T bs n this fun e f σ hq => by cases e <;> exact hq

/-- A loop: an invariant that each round keeps, with less and less of something, or leaves. -/
theorem W_loop {c : ACode} {Q : AExit → FR → Heap → Prop} (I : FR → Heap → Prop) (μ : FR → Heap → Nat)
    (round : ∀ f σ Q', I f σ → (∀ f' σ', I f' σ' → μ f' σ' < μ f σ → Q' .normal f' σ') → (∀ e f' σ', e ≠ .normal → Q e f' σ' → Q' e f' σ') → wpK T bs n [.code c] f σ Q') : ∀ f σ, I f σ → W T bs n (.loop c) f σ Q := by
  have key : ∀ k f σ, μ f σ = k → I f σ → W T bs n (.loop c) f σ Q := by
    intro k
    induction k using Nat.strongRecOn with
    | _ k ih =>
      intro f σ hk hI
      obtain ⟨e, f1, σ1, hr, hq⟩ := wpC_sound T bs n (round f σ (fun e f' σ' => (e = .normal ∧ I f' σ' ∧ μ f' σ' < μ f σ) ∨ (e ≠ .normal ∧ Q e f' σ')) hI (fun f' σ' h1 h2 => .inl ⟨rfl, h1, h2⟩) (fun e f' σ' h1 h2 => .inr ⟨h1, h2⟩))
      rcases hq with ⟨rfl, hI1, hlt⟩ | ⟨hne, hq⟩
      · obtain ⟨e2, f2, σ2, hr2, hq2⟩ := ih (μ f1 σ1) (hk ▸ hlt) f1 σ1 rfl hI1
        exact ⟨e2, f2, σ2, by rw [execT_loop, hr]; exact hr2, hq2⟩
      · refine ⟨e, f1, σ1, ?_, hq⟩
        rw [execT_loop, hr]
        cases e with
        | normal => exact absurd rfl hne
        | exit id => rfl
        | ret => rfl
  intro f σ hI
  exact key _ f σ rfl hI
/-- What stands behind a loop. -/
theorem contQ_exit {id : Nat} {k : List Fr} {Q : AExit → FR → Heap → Prop} {f : FR} {σ : Heap} (h : exW T bs n (popTo id k) id f σ Q) : contQ T bs n k Q (.exit id) f σ := by
  cases hk : popTo id k with
  | some k' => rw [hk] at h; exact (popTo_contQ T bs n k).1 k' hk (wpK_sound T bs n k' f σ Q h)
  | none => rw [hk] at h; exact (popTo_contQ T bs n k).2 hk h
theorem contQ_ret {k : List Fr} {Q : AExit → FR → Heap → Prop} {f : FR} {σ : Heap} (h : Q .ret f σ) : contQ T bs n k Q .ret f σ := by
  induction k with
  | nil => exact h
  | cons x k ih => cases x <;> exact ih
end

def resF (n : Nat) (f : FR) (σ : Heap) : List ARes → Option (List AV)
  | [] => some []
  | .tmp t :: rs => (resF n f σ rs).map fun vs => evF n f (.t t) :: vs
  | .cell a sz ag :: rs => (loadA σ sz ag (evF n f (.t a))).bind fun v => (resF n f σ rs).map fun vs => v :: vs
theorem resA_lst (n : Nat) (f : FR) (σ : Heap) : ∀ rs, resA (lst n f) σ rs = resF n f σ rs
  | [] => rfl
  | .tmp t :: rs => by simp only [resA, resF, resA_lst n f σ rs, lst_getD, evF]
  | .cell a sz ag :: rs => by simp only [resA, resF, resA_lst n f σ rs, lst_getD, evF]
def endP (n : Nat) (rs : List ARes) (v : AV) : AExit → FR → Heap → Prop
  | .exit _, _, _ => False
  | _, f, σ => ∃ vs σ1, resF n f σ rs = some vs ∧ closeR σ (res1 vs) = some (v, σ1) ∧ v.datR = true
def argF (args : List AV) : FR := fun t => args.getD t .undef
theorem startA_lst {af : AFunc} {args : List AV} (h : args.length ≤ af.ntmps) : startA af args = lst af.ntmps (argF args) := by
  apply List.ext_getElem?
  intro t
  simp only [startA, lst, List.getElem?_map]
  rcases Nat.lt_or_ge t af.ntmps with h1 | h1
  · rw [List.getElem?_range h1]
    rcases Nat.lt_or_ge t args.length with h2 | h2
    · rw [List.getElem?_append_left h2]; simp [argF, h2]
    · rw [List.getElem?_append_right h2, List.getElem?_replicate, if_pos (by omega)]; simp [argF, Nat.not_lt.2 h2]
  · rw [List.getElem?_eq_none (by simp; omega), List.getElem?_eq_none (by simpa using h1)]; rfl
theorem pure_enter {T : Tab} {af : AFunc} {args : List AV} {v : AV} (h : args.length ≤ af.ntmps) (hw : wpK T 0 af.ntmps [.code af.body] (argF args) [] (endP af.ntmps af.res v)) : pureT T af args = some v := by
  obtain ⟨e, f', σ', hr, hk⟩ := wpC_sound T 0 af.ntmps hw
  unfold pureT
  rw [startA_lst h, hr]
  cases e with
  | exit id => exact hk.elim
  | normal =>
    obtain ⟨vs, σ1, h1, h2, h3⟩ := hk
    simp only [Option.bind_some, finP, resA_lst, h1, h2]
    rw [if_pos h3]
  | ret =>
    obtain ⟨vs, σ1, h1, h2, h3⟩ := hk
    simp only [Option.bind_some, finP, resA_lst, h1, h2]
    rw [if_pos h3]
/-- Closed data are closed as they are. -/
def AV.clean0 : AV → Bool
  | .int _ _ | .bool _ | .str _ | .nilptr | .nilfunc | .isl _ false => true
  | _ => false
def AV.clean : AV → Bool
  | .agg cs => cs.all AV.clean0
  | .func _ cs => cs.all AV.clo1
  | v => v.clean0
theorem clean0_close {σ : Heap} {v : AV} (h : v.clean0 = true) : close1 σ v = some (v, σ) ∧ v.clo1 = true := by
  cases v <;> first | exact ⟨rfl, rfl⟩ | (cases h; done) | skip
  rename_i es c
  cases c
  · exact ⟨rfl, rfl⟩
  · cases h
theorem clean_closeL {σ : Heap} : ∀ {l : List AV}, l.all AV.clean0 = true → closeL σ l = some (l, σ) ∧ l.all AV.clo1 = true
  | [], _ => ⟨rfl, rfl⟩
  | v :: l, h => by
    simp only [List.all_cons, Bool.and_eq_true] at h
    obtain ⟨h1, h2⟩ := clean0_close (σ := σ) h.1
    obtain ⟨h3, h4⟩ := clean_closeL (σ := σ) h.2
    exact ⟨by simp [closeL, h1, h3], by simp [h2, h4]⟩
theorem clean_close {σ : Heap} {v : AV} (h : v.clean = true) : closeA σ v = some (v, σ) ∧ v.dat = true := by
  cases v with
  | agg cs => obtain ⟨h1, h2⟩ := clean_closeL (σ := σ) h; exact ⟨by simp [closeA, h1], h2⟩
  | func f cs => exact ⟨rfl, h⟩
  | _ =>
    simp only [AV.clean] at h
    exact ⟨(clean0_close (σ := σ) h).1, (clean0_close (σ := σ) h).2⟩
theorem clean_closeT {σ : Heap} : ∀ {l : List AV}, l.all AV.clean = true → closeT σ l = some (l, σ) ∧ l.all AV.dat = true
  | [], _ => ⟨rfl, rfl⟩
  | v :: l, h => by
    simp only [List.all_cons, Bool.and_eq_true] at h
    obtain ⟨h1, h2⟩ := clean_close (σ := σ) h.1
    obtain ⟨h3, h4⟩ := clean_closeT (σ := σ) h.2
    exact ⟨by simp [closeT, h1, h3], by simp [h2, h4]⟩
/-- A pure function's call. -/
theorem call_pure {T : Tab} {f : Nat} {af : AFunc} {args args' : List AV} {v : AV} {bs : Nat} {σ σ' : Heap} (hp : T.pr f = none) (hf : T.fn f = some af) (hm : af.mode = .pure) (hc : closeT σ args = some (args', σ')) (hd : args'.all AV.dat = true) (h : pureT T af args' = some v) :
    callT T f args bs σ = some (v, σ') := by
  rw [callT_pure T bs σ hp hf hm, hc]
  simp only [Option.bind_some, if_pos hd, h, Option.map_some]
theorem call_clean {T : Tab} {f : Nat} {af : AFunc} {args : List AV} {v : AV} {bs : Nat} {σ : Heap} (hp : T.pr f = none) (hf : T.fn f = some af) (hm : af.mode = .pure) (hc : args.all AV.clean = true) (h : pureT T af args = some v) :
    callT T f args bs σ = some (v, σ) := call_pure hp hf hm (clean_closeT hc).1 (clean_closeT (σ := σ) hc).2 h
/-! #### What simp may use -/
@[simp] theorem evF_t (n : Nat) (f : FR) (t : Nat) : evF n f (.t t) = if t < n then f t else .undef := rfl
@[simp] theorem evF_c (n : Nat) (f : FR) (v : AV) : evF n f (.c v) = v := rfl
@[simp] theorem evF_f (n : Nat) (f : FR) (k : Nat) : evF n f (.f k) = .func k [] := rfl
@[simp] theorem upF_apply (f : FR) (d : Nat) (v : AV) (t : Nat) : upF f d v t = if t = d then v else f t := rfl
@[simp] theorem updO_some (f : FR) (d : Nat) (v : AV) : updO f (some d) v = upF f d v := rfl
@[simp] theorem updO_none (f : FR) (v : AV) : updO f none v = f := rfl
@[simp] theorem guardV_bool (b c : Bool) : guardV b (.bool c) = some (c == b) := rfl
@[simp] theorem guardV_tup (b : Bool) (l : List AV) : guardV b (.tup l) = some false := rfl
@[simp] theorem popTo_blk (id i : Nat) (k : List Fr) : popTo id (.blk i :: k) = if i = id then some k else popTo id k := rfl
@[simp] theorem popTo_code (id : Nat) (c : ACode) (k : List Fr) : popTo id (.code c :: k) = popTo id k := rfl
@[simp] theorem popTo_ops (id : Nat) (os : List AOper) (k : List Fr) : popTo id (.ops os :: k) = popTo id k := rfl
@[simp] theorem popTo_nil (id : Nat) : popTo id [] = none := rfl
@[simp] theorem argF_0 (a : AV) (l : List AV) : argF (a :: l) 0 = a := rfl
@[simp] theorem argF_s (a : AV) (l : List AV) (t : Nat) : argF (a :: l) (t + 1) = argF l t := by simp [argF]
@[simp] theorem argF_n (t : Nat) : argF [] t = .undef := by simp [argF]
section
variable (c : CallF) (bs : Nat) (ρ : Regs) (σ : Heap)
attribute [simp] fillA chunk setRun resF closeT closeL
@[simp] theorem window_z (l : List AV) (n : Nat) : window l 0 n = if n ≤ l.length then some (l.take n) else none := by simp [window]
@[simp] theorem window_s (a : AV) (l : List AV) (o n : Nat) : window (a :: l) (o + 1) n = window l o n := by
  simp only [window, List.length_cons, List.drop_succ_cons]
  by_cases h : o + n ≤ l.length
  · rw [if_pos h, if_pos (by omega)]
  · rw [if_neg h, if_neg (by omega)]
@[simp] theorem cells_undef : (AV.undef).cells = [AV.undef] := rfl
@[simp] theorem solid_undef : (AV.undef).solid = false := rfl
@[simp] theorem clo1_undef : (AV.undef).clo1 = false := rfl
@[simp] theorem clo_undef : (AV.undef).clo = false := rfl
@[simp] theorem dat_undef : (AV.undef).dat = false := rfl
@[simp] theorem datR_undef : (AV.undef).datR = false := rfl
@[simp] theorem isSl_undef : isSl (AV.undef) = false := rfl
@[simp] theorem close1_undef : close1 σ (AV.undef) = some ((AV.undef), σ) := rfl
@[simp] theorem closeA_undef : closeA σ (AV.undef) = close1 σ (AV.undef) := rfl
@[simp] theorem closeR_undef : closeR σ (AV.undef) = closeA σ (AV.undef) := rfl
@[simp] theorem cells_int (k : IntKind) (n : Int) : (AV.int k n).cells = [AV.int k n] := rfl
@[simp] theorem solid_int (k : IntKind) (n : Int) : (AV.int k n).solid = true := rfl
@[simp] theorem clo1_int (k : IntKind) (n : Int) : (AV.int k n).clo1 = true := rfl
@[simp] theorem clo_int (k : IntKind) (n : Int) : (AV.int k n).clo = true := rfl
@[simp] theorem dat_int (k : IntKind) (n : Int) : (AV.int k n).dat = true := rfl
@[simp] theorem datR_int (k : IntKind) (n : Int) : (AV.int k n).datR = true := rfl
@[simp] theorem isSl_int (k : IntKind) (n : Int) : isSl (AV.int k n) = false := rfl
@[simp] theorem close1_int (k : IntKind) (n : Int) : close1 σ (AV.int k n) = some ((AV.int k n), σ) := rfl
@[simp] theorem closeA_int (k : IntKind) (n : Int) : closeA σ (AV.int k n) = close1 σ (AV.int k n) := rfl
@[simp] theorem closeR_int (k : IntKind) (n : Int) : closeR σ (AV.int k n) = closeA σ (AV.int k n) := rfl
@[simp] theorem cells_bool (b : Bool) : (AV.bool b).cells = [AV.bool b] := rfl
@[simp] theorem solid_bool (b : Bool) : (AV.bool b).solid = true := rfl
@[simp] theorem clo1_bool (b : Bool) : (AV.bool b).clo1 = true := rfl
@[simp] theorem clo_bool (b : Bool) : (AV.bool b).clo = true := rfl
@[simp] theorem dat_bool (b : Bool) : (AV.bool b).dat = true := rfl
@[simp] theorem datR_bool (b : Bool) : (AV.bool b).datR = true := rfl
@[simp] theorem isSl_bool (b : Bool) : isSl (AV.bool b) = false := rfl
@[simp] theorem close1_bool (b : Bool) : close1 σ (AV.bool b) = some ((AV.bool b), σ) := rfl
@[simp] theorem closeA_bool (b : Bool) : closeA σ (AV.bool b) = close1 σ (AV.bool b) := rfl
@[simp] theorem closeR_bool (b : Bool) : closeR σ (AV.bool b) = closeA σ (AV.bool b) := rfl
@[simp] theorem cells_str (s : ByteArray) : (AV.str s).cells = [AV.str s] := rfl
@[simp] theorem solid_str (s : ByteArray) : (AV.str s).solid = true := rfl
@[simp] theorem clo1_str (s : ByteArray) : (AV.str s).clo1 = true := rfl
@[simp] theorem clo_str (s : ByteArray) : (AV.str s).clo = true := rfl
@[simp] theorem dat_str (s : ByteArray) : (AV.str s).dat = true := rfl
@[simp] theorem datR_str (s : ByteArray) : (AV.str s).datR = true := rfl
@[simp] theorem isSl_str (s : ByteArray) : isSl (AV.str s) = false := rfl
@[simp] theorem close1_str (s : ByteArray) : close1 σ (AV.str s) = some ((AV.str s), σ) := rfl
@[simp] theorem closeA_str (s : ByteArray) : closeA σ (AV.str s) = close1 σ (AV.str s) := rfl
@[simp] theorem closeR_str (s : ByteArray) : closeR σ (AV.str s) = closeA σ (AV.str s) := rfl
@[simp] theorem cells_nilptr : (AV.nilptr).cells = [AV.nilptr] := rfl
@[simp] theorem solid_nilptr : (AV.nilptr).solid = true := rfl
@[simp] theorem clo1_nilptr : (AV.nilptr).clo1 = true := rfl
@[simp] theorem clo_nilptr : (AV.nilptr).clo = true := rfl
@[simp] theorem dat_nilptr : (AV.nilptr).dat = true := rfl
@[simp] theorem datR_nilptr : (AV.nilptr).datR = true := rfl
@[simp] theorem isSl_nilptr : isSl (AV.nilptr) = false := rfl
@[simp] theorem close1_nilptr : close1 σ (AV.nilptr) = some ((AV.nilptr), σ) := rfl
@[simp] theorem closeA_nilptr : closeA σ (AV.nilptr) = close1 σ (AV.nilptr) := rfl
@[simp] theorem closeR_nilptr : closeR σ (AV.nilptr) = closeA σ (AV.nilptr) := rfl
@[simp] theorem cells_nilfunc : (AV.nilfunc).cells = [AV.nilfunc] := rfl
@[simp] theorem solid_nilfunc : (AV.nilfunc).solid = true := rfl
@[simp] theorem clo1_nilfunc : (AV.nilfunc).clo1 = true := rfl
@[simp] theorem clo_nilfunc : (AV.nilfunc).clo = true := rfl
@[simp] theorem dat_nilfunc : (AV.nilfunc).dat = true := rfl
@[simp] theorem datR_nilfunc : (AV.nilfunc).datR = true := rfl
@[simp] theorem isSl_nilfunc : isSl (AV.nilfunc) = false := rfl
@[simp] theorem close1_nilfunc : close1 σ (AV.nilfunc) = some ((AV.nilfunc), σ) := rfl
@[simp] theorem closeA_nilfunc : closeA σ (AV.nilfunc) = close1 σ (AV.nilfunc) := rfl
@[simp] theorem closeR_nilfunc : closeR σ (AV.nilfunc) = closeA σ (AV.nilfunc) := rfl
@[simp] theorem cells_ptr (i o : Nat) : (AV.ptr i o).cells = [AV.ptr i o] := rfl
@[simp] theorem solid_ptr (i o : Nat) : (AV.ptr i o).solid = true := rfl
@[simp] theorem clo1_ptr (i o : Nat) : (AV.ptr i o).clo1 = false := rfl
@[simp] theorem clo_ptr (i o : Nat) : (AV.ptr i o).clo = false := rfl
@[simp] theorem dat_ptr (i o : Nat) : (AV.ptr i o).dat = false := rfl
@[simp] theorem datR_ptr (i o : Nat) : (AV.ptr i o).datR = false := rfl
@[simp] theorem isSl_ptr (i o : Nat) : isSl (AV.ptr i o) = false := rfl
@[simp] theorem close1_ptr (i o : Nat) : close1 σ (AV.ptr i o) = some ((AV.ptr i o), σ) := rfl
@[simp] theorem closeA_ptr (i o : Nat) : closeA σ (AV.ptr i o) = close1 σ (AV.ptr i o) := rfl
@[simp] theorem closeR_ptr (i o : Nat) : closeR σ (AV.ptr i o) = closeA σ (AV.ptr i o) := rfl
@[simp] theorem cells_iptr (cs : List AV) (o : Nat) : (AV.iptr cs o).cells = [AV.iptr cs o] := rfl
@[simp] theorem solid_iptr (cs : List AV) (o : Nat) : (AV.iptr cs o).solid = true := rfl
@[simp] theorem clo1_iptr (cs : List AV) (o : Nat) : (AV.iptr cs o).clo1 = false := rfl
@[simp] theorem clo_iptr (cs : List AV) (o : Nat) : (AV.iptr cs o).clo = false := rfl
@[simp] theorem dat_iptr (cs : List AV) (o : Nat) : (AV.iptr cs o).dat = false := rfl
@[simp] theorem datR_iptr (cs : List AV) (o : Nat) : (AV.iptr cs o).datR = false := rfl
@[simp] theorem isSl_iptr (cs : List AV) (o : Nat) : isSl (AV.iptr cs o) = false := rfl
@[simp] theorem close1_iptr (cs : List AV) (o : Nat) : close1 σ (AV.iptr cs o) = some ((AV.iptr cs o), σ) := rfl
@[simp] theorem closeA_iptr (cs : List AV) (o : Nat) : closeA σ (AV.iptr cs o) = close1 σ (AV.iptr cs o) := rfl
@[simp] theorem closeR_iptr (cs : List AV) (o : Nat) : closeR σ (AV.iptr cs o) = closeA σ (AV.iptr cs o) := rfl
@[simp] theorem cells_isl (es : List AV) (b : Bool) : (AV.isl es b).cells = [AV.isl es b] := rfl
@[simp] theorem solid_isl (es : List AV) (b : Bool) : (AV.isl es b).solid = true := rfl
@[simp] theorem clo1_isl (es : List AV) (b : Bool) : (AV.isl es b).clo1 = true := rfl
@[simp] theorem clo_isl (es : List AV) (b : Bool) : (AV.isl es b).clo = true := rfl
@[simp] theorem dat_isl (es : List AV) (b : Bool) : (AV.isl es b).dat = true := rfl
@[simp] theorem datR_isl (es : List AV) (b : Bool) : (AV.isl es b).datR = true := rfl
@[simp] theorem isSl_isl (es : List AV) (b : Bool) : isSl (AV.isl es b) = true := rfl
@[simp] theorem closeA_isl (es : List AV) (b : Bool) : closeA σ (AV.isl es b) = close1 σ (AV.isl es b) := rfl
@[simp] theorem closeR_isl (es : List AV) (b : Bool) : closeR σ (AV.isl es b) = closeA σ (AV.isl es b) := rfl
@[simp] theorem cells_own (i : Nat) (es : List AV) : (AV.own i es).cells = [AV.own i es] := rfl
@[simp] theorem solid_own (i : Nat) (es : List AV) : (AV.own i es).solid = true := rfl
@[simp] theorem clo1_own (i : Nat) (es : List AV) : (AV.own i es).clo1 = false := rfl
@[simp] theorem clo_own (i : Nat) (es : List AV) : (AV.own i es).clo = false := rfl
@[simp] theorem dat_own (i : Nat) (es : List AV) : (AV.own i es).dat = false := rfl
@[simp] theorem datR_own (i : Nat) (es : List AV) : (AV.own i es).datR = false := rfl
@[simp] theorem isSl_own (i : Nat) (es : List AV) : isSl (AV.own i es) = true := rfl
@[simp] theorem closeA_own (i : Nat) (es : List AV) : closeA σ (AV.own i es) = close1 σ (AV.own i es) := rfl
@[simp] theorem closeR_own (i : Nat) (es : List AV) : closeR σ (AV.own i es) = closeA σ (AV.own i es) := rfl
@[simp] theorem cells_sl (i o l z : Nat) (g : Bool) : (AV.sl i o l z g).cells = [AV.sl i o l z g] := rfl
@[simp] theorem solid_sl (i o l z : Nat) (g : Bool) : (AV.sl i o l z g).solid = true := rfl
@[simp] theorem clo1_sl (i o l z : Nat) (g : Bool) : (AV.sl i o l z g).clo1 = false := rfl
@[simp] theorem clo_sl (i o l z : Nat) (g : Bool) : (AV.sl i o l z g).clo = false := rfl
@[simp] theorem dat_sl (i o l z : Nat) (g : Bool) : (AV.sl i o l z g).dat = false := rfl
@[simp] theorem datR_sl (i o l z : Nat) (g : Bool) : (AV.sl i o l z g).datR = false := rfl
@[simp] theorem isSl_sl (i o l z : Nat) (g : Bool) : isSl (AV.sl i o l z g) = true := rfl
@[simp] theorem closeA_sl (i o l z : Nat) (g : Bool) : closeA σ (AV.sl i o l z g) = close1 σ (AV.sl i o l z g) := rfl
@[simp] theorem closeR_sl (i o l z : Nat) (g : Bool) : closeR σ (AV.sl i o l z g) = closeA σ (AV.sl i o l z g) := rfl
@[simp] theorem cells_func (f : Nat) (cs : List AV) : (AV.func f cs).cells = [AV.func f cs] := rfl
@[simp] theorem solid_func (f : Nat) (cs : List AV) : (AV.func f cs).solid = true := rfl
@[simp] theorem clo1_func (f : Nat) (cs : List AV) : (AV.func f cs).clo1 = false := rfl
@[simp] theorem clo_func (f : Nat) (cs : List AV) : (AV.func f cs).clo = false := rfl
@[simp] theorem dat_func (f : Nat) (cs : List AV) : (AV.func f cs).dat = cs.all AV.clo1 := rfl
@[simp] theorem datR_func (f : Nat) (cs : List AV) : (AV.func f cs).datR = cs.all AV.clo1 := rfl
@[simp] theorem isSl_func (f : Nat) (cs : List AV) : isSl (AV.func f cs) = false := rfl
@[simp] theorem close1_func (f : Nat) (cs : List AV) : close1 σ (AV.func f cs) = some ((AV.func f cs), σ) := rfl
@[simp] theorem closeA_func (f : Nat) (cs : List AV) : closeA σ (AV.func f cs) = close1 σ (AV.func f cs) := rfl
@[simp] theorem closeR_func (f : Nat) (cs : List AV) : closeR σ (AV.func f cs) = closeA σ (AV.func f cs) := rfl
@[simp] theorem cells_agg (cs : List AV) : (AV.agg cs).cells = cs := rfl
@[simp] theorem solid_agg (cs : List AV) : (AV.agg cs).solid = true := rfl
@[simp] theorem clo1_agg (cs : List AV) : (AV.agg cs).clo1 = false := rfl
@[simp] theorem clo_agg (cs : List AV) : (AV.agg cs).clo = cs.all AV.clo1 := rfl
@[simp] theorem dat_agg (cs : List AV) : (AV.agg cs).dat = cs.all AV.clo1 := rfl
@[simp] theorem datR_agg (cs : List AV) : (AV.agg cs).datR = cs.all AV.clo1 := rfl
@[simp] theorem isSl_agg (cs : List AV) : isSl (AV.agg cs) = false := rfl
@[simp] theorem closeR_agg (cs : List AV) : closeR σ (AV.agg cs) = closeA σ (AV.agg cs) := rfl
@[simp] theorem cells_tup (vs : List AV) : (AV.tup vs).cells = [AV.tup vs] := rfl
@[simp] theorem solid_tup (vs : List AV) : (AV.tup vs).solid = false := rfl
@[simp] theorem clo1_tup (vs : List AV) : (AV.tup vs).clo1 = false := rfl
@[simp] theorem clo_tup (vs : List AV) : (AV.tup vs).clo = false := rfl
@[simp] theorem dat_tup (vs : List AV) : (AV.tup vs).dat = false := rfl
@[simp] theorem datR_tup (vs : List AV) : (AV.tup vs).datR = vs.all AV.dat := rfl
@[simp] theorem isSl_tup (vs : List AV) : isSl (AV.tup vs) = false := rfl
@[simp] theorem close1_tup (vs : List AV) : close1 σ (AV.tup vs) = some ((AV.tup vs), σ) := rfl
@[simp] theorem closeA_tup (vs : List AV) : closeA σ (AV.tup vs) = close1 σ (AV.tup vs) := rfl
@[simp] theorem close1_isl (es : List AV) (b : Bool) : close1 σ (.isl es b) = some (.isl es false, σ) := rfl
@[simp] theorem close1_own (i : Nat) (es : List AV) : close1 σ (.own i es) = some (.isl es false, σ) := rfl
@[simp] theorem close1_agg (cs : List AV) : close1 σ (.agg cs) = some (.agg cs, σ) := rfl
@[simp] theorem closeA_agg (cs : List AV) : closeA σ (.agg cs) = (closeL σ cs).map fun x => (.agg x.1, x.2) := rfl
@[simp] theorem closeR_tup (vs : List AV) : closeR σ (.tup vs) = (closeT σ vs).map fun x => (.tup x.1, x.2) := rfl
@[simp] theorem mk_true (w : List AV) : mk true w = some (.agg w) := rfl
@[simp] theorem mk_one (v : AV) : mk false [v] = some v := rfl
@[simp] theorem lenA_isl (es : List AV) (b : Bool) : lenA (.isl es b) = some es.length := rfl
@[simp] theorem lenA_own (i : Nat) (es : List AV) : lenA (.own i es) = some es.length := rfl
@[simp] theorem lenA_sl (i o l z : Nat) (g : Bool) : lenA (.sl i o l z g) = some l := rfl
@[simp] theorem lenA_str (s : ByteArray) : lenA (.str s) = some s.size := rfl
@[simp] theorem notNil_isl_cons (e : AV) (es : List AV) (b : Bool) : notNil (.isl (e :: es) b) = true := rfl
@[simp] theorem notNil_own (i : Nat) (es : List AV) : notNil (.own i es) = true := rfl
@[simp] theorem notNil_sl (i o l z : Nat) (g : Bool) : notNil (.sl i o l z g) = true := rfl
@[simp] theorem res1_one (v : AV) : res1 [v] = v := rfl
@[simp] theorem res1_two (v u : AV) (l : List AV) : res1 (v :: u :: l) = .tup (v :: u :: l) := rfl
@[simp] theorem res1_nil : res1 [] = .tup [] := rfl
@[simp] theorem loadA_ptr (sz : Nat) (ag : Bool) (id off : Nat) : loadA σ sz ag (.ptr id off) = (match σ[id]? with | some (.cells cs _ _) => (window cs off sz).bind (mk ag) | _ => none) := rfl
@[simp] theorem loadA_iptr (sz : Nat) (ag : Bool) (cs : List AV) (off : Nat) : loadA σ sz ag (.iptr cs off) = (window cs off sz).bind (mk ag) := rfl
@[simp] theorem storeA_ptr (sz : Nat) (v : AV) (id off : Nat) : storeA bs σ sz v (.ptr id off) = (match σ[id]? with | some (.cells cs fz ext) => if fz ≤ off ∧ off + sz ≤ cs.length ∧ v.solid = true ∧ v.cells.length = sz ∧ (bs ≤ id ∨ v.cells.all AV.clo1 = true) then some (σ.set id (.cells (setRun cs off v.cells) fz ext)) else none | _ => none) := rfl
@[simp] theorem endP_ret (n : Nat) (f : FR) (rs : List ARes) (v : AV) : endP n rs v .ret f σ = ∃ vs σ1, resF n f σ rs = some vs ∧ closeR σ (res1 vs) = some (v, σ1) ∧ v.datR = true := rfl
@[simp] theorem endP_normal (n : Nat) (f : FR) (rs : List ARes) (v : AV) : endP n rs v .normal f σ = ∃ vs σ1, resF n f σ rs = some vs ∧ closeR σ (res1 vs) = some (v, σ1) ∧ v.datR = true := rfl
@[simp] theorem st_mv (x : AX) : stepAll c bs ρ σ (.mv x) = some (ev ρ x, σ) := rfl
@[simp] theorem st_bin (op : BinOp) (x y : AX) : stepAll c bs ρ σ (.bin op x y) = (binA op (ev ρ x) (ev ρ y)).map fun v => (v, σ) := rfl
@[simp] theorem st_un (op : UnOp) (x : AX) : stepAll c bs ρ σ (.un op x) = (unA op (ev ρ x)).map fun v => (v, σ) := rfl
@[simp] theorem st_call (f : Nat) (args : List AX) : stepAll c bs ρ σ (.call f args) = c f (args.map (ev ρ)) bs σ := rfl
def callV (c : CallF) (bs : Nat) (args : List AV) (σ : Heap) : AV → Option (AV × Heap)
  | .func f caps => c f (args ++ caps) bs σ
  | _ => none
@[simp] theorem st_callv (x : AX) (args : List AX) : stepAll c bs ρ σ (.callv x args) = callV c bs (args.map (ev ρ)) σ (ev ρ x) := by
  simp only [stepAll, callV]; cases ev ρ x <;> rfl
@[simp] theorem callV_func (args : List AV) (f : Nat) (caps : List AV) : callV c bs args σ (.func f caps) = c f (args ++ caps) bs σ := rfl
def pickV (a b : AV) (σ : Heap) : AV → Option (AV × Heap)
  | .bool true => some (a, σ)
  | .bool false => some (b, σ)
  | _ => none
@[simp] theorem st_pick (x a b : AX) : stepAll c bs ρ σ (.pick x a b) = pickV (ev ρ a) (ev ρ b) σ (ev ρ x) := rfl
@[simp] theorem pickV_true (a b : AV) : pickV a b σ (.bool true) = some (a, σ) := rfl
@[simp] theorem pickV_false (a b : AV) : pickV a b σ (.bool false) = some (b, σ) := rfl
@[simp] theorem st_alloc (zs : List AV) : stepAll c bs ρ σ (.alloc zs) = some (.ptr σ.length 0, σ ++ [.cells zs 0 false]) := rfl
@[simp] theorem st_box (x : AX) : stepAll c bs ρ σ (.box x) = if (ev ρ x).solid = true then some (.ptr σ.length 0, σ ++ [.cells (ev ρ x).cells 0 false]) else none := rfl
@[simp] theorem st_build (zs : List AV) (ps : List (Nat × Nat × AX)) : stepAll c bs ρ σ (.build zs ps) = (fillA ρ zs ps).map fun cs => (.agg cs, σ) := rfl
@[simp] theorem st_buildSl (n sz : Nat) (ag : Bool) (zs : List AV) (ps : List (Nat × Nat × AX)) : stepAll c bs ρ σ (.buildSl n sz ag zs ps) = (fillA ρ zs ps).map fun cs => (.sl σ.length 0 n sz ag, σ ++ [.cells cs 0 false]) := rfl
@[simp] theorem st_load (sz : Nat) (ag : Bool) (x : AX) : stepAll c bs ρ σ (.load sz ag x) = (loadA σ sz ag (ev ρ x)).map fun v => (v, σ) := rfl
@[simp] theorem st_store (sz : Nat) (a x : AX) : stepAll c bs ρ σ (.store sz a x) = (storeA bs σ sz (ev ρ x) (ev ρ a)).map fun σ' => (.undef, σ') := rfl
def nilckV (σ : Heap) : AV → Option (AV × Heap)
  | .ptr id off => some (.ptr id off, σ)
  | .iptr cs off => some (.iptr cs off, σ)
  | .func f caps => some (.func f caps, σ)
  | _ => none
@[simp] theorem st_nilck (x : AX) : stepAll c bs ρ σ (.nilck x) = nilckV σ (ev ρ x) := rfl
@[simp] theorem nilckV_ptr (id off : Nat) : nilckV σ (.ptr id off) = some (.ptr id off, σ) := rfl
@[simp] theorem nilckV_iptr (cs : List AV) (off : Nat) : nilckV σ (.iptr cs off) = some (.iptr cs off, σ) := rfl
@[simp] theorem nilckV_func (f : Nat) (caps : List AV) : nilckV σ (.func f caps) = some (.func f caps, σ) := rfl
def eqbV (neg : Bool) : AV → AV → Option AV
  | .bool a, .bool b => some (.bool (neg != (a == b)))
  | _, _ => none
@[simp] theorem st_eqb (neg : Bool) (x y : AX) : stepAll c bs ρ σ (.eqb neg x y) = (eqbV neg (ev ρ x) (ev ρ y)).map fun v => (v, σ) := by
  simp only [stepAll, stepOp, eqbV]; cases ev ρ x <;> first | rfl | (cases ev ρ y <;> rfl)
@[simp] theorem eqbV_bool (neg a b : Bool) : eqbV neg (.bool a) (.bool b) = some (.bool (neg != (a == b))) := rfl
@[simp] theorem st_eqnil (neg : Bool) (x : AX) : stepAll c bs ρ σ (.eqnil neg x) = if notNil (ev ρ x) = true then some (.bool neg, σ) else none := rfl
def convV (k : IntKind) : AV → Option AV
  | .int _ n => some (.int k (k.wrap n))
  | _ => none
@[simp] theorem st_conv (k : IntKind) (x : AX) : stepAll c bs ρ σ (.conv k x) = (convV k (ev ρ x)).map fun v => (v, σ) := by
  simp only [stepAll, stepOp, convV]; cases ev ρ x <;> rfl
@[simp] theorem convV_int (k k' : IntKind) (n : Int) : convV k (.int k' n) = some (.int k (k.wrap n)) := rfl
def cvsV : AV → Option AV
  | .str s => some (.str s)
  | _ => none
@[simp] theorem st_cvs (x : AX) : stepAll c bs ρ σ (.cvs x) = (cvsV (ev ρ x)).map fun v => (v, σ) := by
  simp only [stepAll, stepOp, cvsV]; cases ev ρ x <;> rfl
@[simp] theorem cvsV_str (s : ByteArray) : cvsV (.str s) = some (.str s) := rfl
def s2bV (σ : Heap) : AV → Option (AV × Heap)
  | .str s => some (.sl σ.length 0 s.size 1 false, σ ++ [.cells (u8s s) 0 true])
  | _ => none
@[simp] theorem st_s2b (x : AX) : stepAll c bs ρ σ (.s2b x) = s2bV σ (ev ρ x) := rfl
@[simp] theorem s2bV_str (s : ByteArray) : s2bV σ (.str s) = some (.sl σ.length 0 s.size 1 false, σ ++ [.cells (u8s s) 0 true]) := rfl
def b2sV (σ : Heap) (v : AV) : Option AV := if isSl v = false then none else (elemsA σ 1 false v).bind fun es => (bytesA es).map .str
@[simp] theorem st_b2s (x : AX) : stepAll c bs ρ σ (.b2s x) = (b2sV σ (ev ρ x)).map fun v => (v, σ) := by
  simp only [stepAll, stepOp, b2sV]
  split
  · rfl
  · cases elemsA σ 1 false (ev ρ x) with
    | none => rfl
    | some es => simp only [Option.bind_some, Option.map_map]; rfl
@[simp] theorem st_mkfn (f : Nat) (caps : List AX) : stepAll c bs ρ σ (.mkfn f caps) = some (.func f (caps.map (ev ρ)), σ) := rfl
def mkslV (sz : Nat) (ag : Bool) (bytes : Nat) (zs : List AV) (σ : Heap) : AV → AV → Option (AV × Heap)
  | .int .i64 n, .int .i64 m => if n = m ∧ 0 ≤ n ∧ n * bytes ≤ 70368744177664 ∧ n ≤ 70368744177664 then
        some (.sl σ.length 0 n.toNat sz ag, σ ++ [.cells ((List.replicate n.toNat zs).flatten) 0 false]) else none
  | _, _ => none
@[simp] theorem st_mksl (sz : Nat) (ag : Bool) (bytes : Nat) (zs : List AV) (l x : AX) : stepAll c bs ρ σ (.mksl sz ag bytes zs l x) = mkslV sz ag bytes zs σ (ev ρ l) (ev ρ x) := rfl
@[simp] theorem mkslV_int (sz : Nat) (ag : Bool) (bytes : Nat) (zs : List AV) (n m : Int) : mkslV sz ag bytes zs σ (.int .i64 n) (.int .i64 m) = if n = m ∧ 0 ≤ n ∧ n * bytes ≤ 70368744177664 ∧ n ≤ 70368744177664 then
        some (.sl σ.length 0 n.toNat sz ag, σ ++ [.cells ((List.replicate n.toNat zs).flatten) 0 false]) else none := rfl
/-- A bound's value. -/
def bndV (len d : Nat) : Option AV → Option Nat
  | none => some d
  | some (.int _ n) => if 0 ≤ n ∧ n ≤ len then some n.toNat else none
  | some _ => none
theorem asNat_bnd (len d : Nat) (x : Option AX) : asNat len x d ρ = bndV len d (x.map (ev ρ)) := by
  cases x with
  | none => rfl
  | some x => simp only [asNat, bndV, Option.map_some]; cases ev ρ x <;> rfl
@[simp] theorem bndV_none (len d : Nat) : bndV len d none = some d := rfl
@[simp] theorem bndV_int (len d : Nat) (k : IntKind) (n : Int) : bndV len d (some (.int k n)) = if 0 ≤ n ∧ n ≤ len then some n.toNat else none := rfl
def strSlV (lo hi : Option AV) : AV → Option AV
  | .str s => (bndV s.size s.size hi).bind fun h => (bndV h 0 lo).map fun l => .str (s.extract l h)
  | _ => none
@[simp] theorem st_strSl (x : AX) (lo hi : Option AX) : stepAll c bs ρ σ (.strSl x lo hi) = (strSlV (lo.map (ev ρ)) (hi.map (ev ρ)) (ev ρ x)).map fun v => (v, σ) := by
  simp only [stepAll, stepOp, asNat_bnd, strSlV]
  cases ev ρ x <;> try rfl
  rename_i s
  simp only
  cases bndV s.size s.size (hi.map (ev ρ)) with
  | none => rfl
  | some h => simp only [Option.bind_some, Option.map_map]; rfl
@[simp] theorem strSlV_str (lo hi : Option AV) (s : ByteArray) : strSlV lo hi (.str s) = (bndV s.size s.size hi).bind fun h => (bndV h 0 lo).map fun l => .str (s.extract l h) := rfl
def slSlV (sz : Nat) (lo hi : Option AV) (v : AV) : Option AV := if isSl v = false then none else (lenA v).bind fun n => (bndV n n hi).bind fun h => (bndV h 0 lo).bind fun l => slSlA sz l h v
@[simp] theorem st_slSl (sz : Nat) (x : AX) (lo hi : Option AX) : stepAll c bs ρ σ (.slSl sz x lo hi) = (slSlV sz (lo.map (ev ρ)) (hi.map (ev ρ)) (ev ρ x)).map fun v => (v, σ) := by
  simp only [stepAll, stepOp, asNat_bnd, slSlV]
  split
  · rfl
  · cases lenA (ev ρ x) with
    | none => rfl
    | some n =>
      simp only [Option.bind_some]
      cases bndV n n (hi.map (ev ρ)) with
      | none => rfl
      | some h =>
        simp only [Option.bind_some]
        cases bndV h 0 (lo.map (ev ρ)) <;> rfl
def faddrV (off : Nat) (σ : Heap) : AV → Option (AV × Heap)
  | .ptr id o => some (.ptr id (o + off), σ)
  | .iptr cs o => some (.iptr cs (o + off), σ)
  | _ => none
@[simp] theorem st_faddr (off : Nat) (x : AX) : stepAll c bs ρ σ (.faddr off x) = faddrV off σ (ev ρ x) := rfl
@[simp] theorem faddrV_ptr (off id o : Nat) : faddrV off σ (.ptr id o) = some (.ptr id (o + off), σ) := rfl
@[simp] theorem faddrV_iptr (off o : Nat) (cs : List AV) : faddrV off σ (.iptr cs o) = some (.iptr cs (o + off), σ) := rfl
def fieldV (off sz : Nat) (ag : Bool) : AV → Option AV
  | .agg cs => (window cs off sz).bind (mk ag)
  | _ => none
@[simp] theorem st_field (off sz : Nat) (ag : Bool) (x : AX) : stepAll c bs ρ σ (.field off sz ag x) = (fieldV off sz ag (ev ρ x)).map fun v => (v, σ) := by
  simp only [stepAll, stepOp, fieldV]; cases ev ρ x <;> rfl
@[simp] theorem fieldV_agg (off sz : Nat) (ag : Bool) (cs : List AV) : fieldV off sz ag (.agg cs) = (window cs off sz).bind (mk ag) := rfl
def iaddrV (sz : Nat) (x : AV) : AV → Option AV
  | .int _ n => if 0 ≤ n then (match x with
      | .isl es _ => es[n.toNat]?.bind fun e => if e.cells.length = sz then some (.iptr e.cells 0) else none
      | .own _ es => es[n.toNat]?.bind fun e => if e.cells.length = sz then some (.iptr e.cells 0) else none
      | .sl id off len sz' _ => if n < len ∧ sz = sz' then some (.ptr id (off + n.toNat * sz)) else none
      | _ => none) else none
  | _ => none
@[simp] theorem st_iaddrS (sz : Nat) (x i : AX) : stepAll c bs ρ σ (.iaddrS sz x i) = (iaddrV sz (ev ρ x) (ev ρ i)).map fun v => (v, σ) := by
  simp only [stepAll, stepOp, iaddrV]
  cases ev ρ i <;> try rfl
  rename_i k n
  simp only
  split
  · cases ev ρ x <;> try rfl
    · rename_i es _
      simp only
      cases es[n.toNat]? with
      | none => rfl
      | some e => simp only [Option.bind_some]; split <;> rfl
    · rename_i id es
      simp only
      cases es[n.toNat]? with
      | none => rfl
      | some e => simp only [Option.bind_some]; split <;> rfl
    · simp only; split <;> rfl
  · rfl
@[simp] theorem iaddrV_isl (sz : Nat) (es : List AV) (b : Bool) (k : IntKind) (n : Int) : iaddrV sz (.isl es b) (.int k n) = if 0 ≤ n then (es[n.toNat]?.bind fun e => if e.cells.length = sz then some (.iptr e.cells 0) else none) else none := rfl
@[simp] theorem iaddrV_own (sz : Nat) (es : List AV) (id : Nat) (k : IntKind) (n : Int) : iaddrV sz (.own id es) (.int k n) = if 0 ≤ n then (es[n.toNat]?.bind fun e => if e.cells.length = sz then some (.iptr e.cells 0) else none) else none := rfl
@[simp] theorem iaddrV_sl (sz : Nat) (id off len sz' : Nat) (ag : Bool) (k : IntKind) (n : Int) : iaddrV sz (.sl id off len sz' ag) (.int k n) = if 0 ≤ n then (if n < len ∧ sz = sz' then some (.ptr id (off + n.toNat * sz)) else none) else none := rfl
def iaddrAV (n sz : Nat) (σ : Heap) : AV → AV → Option (AV × Heap)
  | .ptr id off, .int _ m => if 0 ≤ m ∧ m < n then some (.ptr id (off + m.toNat * sz), σ) else none
  | _, _ => none
@[simp] theorem st_iaddrA (n sz : Nat) (x i : AX) : stepAll c bs ρ σ (.iaddrA n sz x i) = iaddrAV n sz σ (ev ρ x) (ev ρ i) := rfl
@[simp] theorem iaddrAV_ptr (n sz id off : Nat) (k : IntKind) (m : Int) : iaddrAV n sz σ (.ptr id off) (.int k m) = if 0 ≤ m ∧ m < n then some (.ptr id (off + m.toNat * sz), σ) else none := rfl
def idxStrV (v i : AV) : Option AV := match v, i with
  | .str s, .int _ n => if 0 ≤ n then (s.data.toList[n.toNat]?).map fun b => .int .u8 (b.toNat : Int) else none
  | _, _ => none
@[simp] theorem st_idxStr (x i : AX) : stepAll c bs ρ σ (.idxStr x i) = (idxStrV (ev ρ x) (ev ρ i)).map fun v => (v, σ) := by
  simp only [stepAll, stepOp, idxStrV]
  cases ev ρ x <;> try rfl
  cases ev ρ i <;> try rfl
  simp only
  split
  · simp only [Option.map_map]; rfl
  · rfl
@[simp] theorem idxStrV_str (s : ByteArray) (k : IntKind) (n : Int) : idxStrV (.str s) (.int k n) = if 0 ≤ n then (s.data.toList[n.toNat]?).map fun b => .int .u8 (b.toNat : Int) else none := rfl
def idxArrV (n sz : Nat) (ag : Bool) (v i : AV) : Option AV := match v, i with
  | .agg cs, .int _ m => if 0 ≤ m ∧ m < n then (window cs (m.toNat * sz) sz).bind (mk ag) else none
  | _, _ => none
@[simp] theorem st_idxArr (n sz : Nat) (ag : Bool) (x i : AX) : stepAll c bs ρ σ (.idxArr n sz ag x i) = (idxArrV n sz ag (ev ρ x) (ev ρ i)).map fun v => (v, σ) := by
  simp only [stepAll, stepOp, idxArrV]
  cases ev ρ x <;> try rfl
  cases ev ρ i <;> try rfl
  simp only
  split <;> rfl
@[simp] theorem idxArrV_agg (n sz : Nat) (ag : Bool) (cs : List AV) (k : IntKind) (m : Int) : idxArrV n sz ag (.agg cs) (.int k m) = if 0 ≤ m ∧ m < n then (window cs (m.toNat * sz) sz).bind (mk ag) else none := rfl
def extrV (i : Nat) : AV → Option AV
  | .tup vs => vs[i]?
  | _ => none
@[simp] theorem st_extract (i : Nat) (x : AX) : stepAll c bs ρ σ (.extract i x) = (extrV i (ev ρ x)).map fun v => (v, σ) := by
  simp only [stepAll, stepOp, extrV]; cases ev ρ x <;> rfl
@[simp] theorem extrV_tup (i : Nat) (vs : List AV) : extrV i (.tup vs) = vs[i]? := rfl
def lenV (st : Bool) (v : AV) : Option AV := if isSl v = st then none else (lenA v).map fun (n : Nat) => .int .i64 (n : Int)
@[simp] theorem st_len (st : Bool) (x : AX) : stepAll c bs ρ σ (.len st x) = (lenV st (ev ρ x)).map fun v => (v, σ) := by
  simp only [stepAll, stepOp, lenV]
  split
  · rfl
  · simp only [Option.map_map]; rfl
@[simp] theorem lenV_str (s : ByteArray) : lenV true (.str s) = some (.int .i64 (s.size : Int)) := rfl
@[simp] theorem lenV_isl (es : List AV) (b : Bool) : lenV false (.isl es b) = some (.int .i64 (es.length : Int)) := rfl
@[simp] theorem lenV_own (id : Nat) (es : List AV) : lenV false (.own id es) = some (.int .i64 (es.length : Int)) := rfl
@[simp] theorem lenV_sl (id off len sz : Nat) (ag : Bool) : lenV false (.sl id off len sz ag) = some (.int .i64 (len : Int)) := rfl
@[simp] theorem st_append (sz : Nat) (ag : Bool) (b : Nat) (mt : Bool) (s x : AX) : stepAll c bs ρ σ (.append sz ag b mt s x) = appendA σ sz ag b mt (ev ρ s) (ev ρ x) := rfl
def min2V : AV → AV → Option AV
  | .int k a, .int _ b => some (.int k (if b < a then b else a))
  | _, _ => none
@[simp] theorem st_min2 (x y : AX) : stepAll c bs ρ σ (.min2 x y) = (min2V (ev ρ x) (ev ρ y)).map fun v => (v, σ) := by
  simp only [stepAll, stepOp, min2V]
  cases ev ρ x <;> try rfl
  cases ev ρ y <;> rfl
@[simp] theorem min2V_int (k k' : IntKind) (a b : Int) : min2V (.int k a) (.int k' b) = some (.int k (if b < a then b else a)) := rfl
def slClV (sz : Nat) (lo hi mx : AV) (v : AV) : Option AV := (lenA v).bind fun n => (bndV n n (some mx)).bind fun m => (bndV m n (some hi)).bind fun h => (bndV h 0 (some lo)).bind fun l =>
      if l = 0 ∧ h = m then (match v with
        | .isl es _ => some (.isl (es.take h) true)
        | _ => none) else none
@[simp] theorem st_slCl (sz : Nat) (x lo hi mx : AX) : stepAll c bs ρ σ (.slCl sz x lo hi mx) = (slClV sz (ev ρ lo) (ev ρ hi) (ev ρ mx) (ev ρ x)).map fun v => (v, σ) := by
  simp only [stepAll, stepOp, asNat_bnd, slClV, Option.map_some]
  cases lenA (ev ρ x) with
  | none => rfl
  | some n =>
    simp only [Option.bind_some]
    cases bndV n n (some (ev ρ mx)) with
    | none => rfl
    | some m =>
      simp only [Option.bind_some]
      cases bndV m n (some (ev ρ hi)) with
      | none => rfl
      | some h =>
        simp only [Option.bind_some]
        cases bndV h 0 (some (ev ρ lo)) with
        | none => rfl
        | some l =>
          simp only [Option.bind_some]
          split
          · cases ev ρ x <;> rfl
          · rfl
def arrSlV (n sz : Nat) (ag : Bool) (lo hi : Option AV) (σ : Heap) : AV → Option (AV × Heap)
  | .ptr id off => match σ[id]? with
    | some (.cells cs _ false) => (bndV n n hi).bind fun h => (bndV h 0 lo).bind fun l =>
        if off + n * sz = cs.length ∧ 0 < sz ∧ l < n then some (.sl id (off + l * sz) (h - l) sz ag, σ) else none
    | _ => none
  | _ => none
@[simp] theorem st_arrSl (n sz : Nat) (ag : Bool) (x : AX) (lo hi : Option AX) : stepAll c bs ρ σ (.arrSl n sz ag x lo hi) = arrSlV n sz ag (lo.map (ev ρ)) (hi.map (ev ρ)) σ (ev ρ x) := by
  simp only [stepAll, stepOp, asNat_bnd, arrSlV]
  cases ev ρ x <;> rfl
def rngV (σ : Heap) : AV → Option (AV × Heap)
  | .str s => some (.ptr σ.length 0, σ ++ [.iter s 0])
  | _ => none
@[simp] theorem st_rng (x : AX) : stepAll c bs ρ σ (.rng x) = rngV σ (ev ρ x) := rfl
@[simp] theorem rngV_str (s : ByteArray) : rngV σ (.str s) = some (.ptr σ.length 0, σ ++ [.iter s 0]) := rfl
def nxtV (σ : Heap) : AV → Option (AV × Heap)
  | .ptr id 0 => match σ[id]? with
      | some (.iter s pos) => if pos < s.size then
          some (.tup [.bool true, .int .i64 (pos : Int), .int .i32 (Utf8.decode s pos).1], σ.set id (.iter s (pos + (Utf8.decode s pos).2)))
        else some (.tup [.bool false], σ)
      | _ => none
  | _ => none
@[simp] theorem st_nxt (x : AX) : stepAll c bs ρ σ (.nxt x) = nxtV σ (ev ρ x) := rfl
end
def andI (k : IntKind) (a b : Int) : Int := (BitVec.ofInt k.bits a &&& BitVec.ofInt k.bits b).toNat
def orI (k : IntKind) (a b : Int) : Int := (BitVec.ofInt k.bits a ||| BitVec.ofInt k.bits b).toNat
def xorI (k : IntKind) (a b : Int) : Int := (BitVec.ofInt k.bits a ^^^ BitVec.ofInt k.bits b).toNat
theorem xorI_nat (k : IntKind) {a b : Nat} (ha : a < 2 ^ k.bits) (hb : b < 2 ^ k.bits) : xorI k (a : Int) (b : Int) = ((a ^^^ b : Nat) : Int) := by
  simp only [xorI, BitVec.ofInt_natCast, BitVec.toNat_xor, BitVec.toNat_ofNat, Nat.mod_eq_of_lt ha, Nat.mod_eq_of_lt hb]
theorem andI_nat (k : IntKind) {a b : Nat} (ha : a < 2 ^ k.bits) (hb : b < 2 ^ k.bits) : andI k (a : Int) (b : Int) = ((a &&& b : Nat) : Int) := by
  simp only [andI, BitVec.ofInt_natCast, BitVec.toNat_and, BitVec.toNat_ofNat, Nat.mod_eq_of_lt ha, Nat.mod_eq_of_lt hb]
theorem orI_nat (k : IntKind) {a b : Nat} (ha : a < 2 ^ k.bits) (hb : b < 2 ^ k.bits) : orI k (a : Int) (b : Int) = ((a ||| b : Nat) : Int) := by
  simp only [orI, BitVec.ofInt_natCast, BitVec.toNat_or, BitVec.toNat_ofNat, Nat.mod_eq_of_lt ha, Nat.mod_eq_of_lt hb]
section
variable (k : IntKind) (a b : Int)
@[simp] theorem bin_add : binA .add (.int k a) (.int k b) = some (.int k (k.wrap (a + b))) := by simp [binA]
@[simp] theorem bin_sub : binA .sub (.int k a) (.int k b) = some (.int k (k.wrap (a - b))) := by simp [binA]
@[simp] theorem bin_mul : binA .mul (.int k a) (.int k b) = some (.int k (k.wrap (a * b))) := by simp [binA]
@[simp] theorem bin_quo : binA .quo (.int k a) (.int k b) = if b = 0 then none else some (.int k (k.wrap (a.tdiv b))) := by simp [binA]
@[simp] theorem bin_rem : binA .rem (.int k a) (.int k b) = if b = 0 then none else some (.int k (a.tmod b)) := by simp [binA]
@[simp] theorem bin_and : binA .and (.int k a) (.int k b) = some (.int k (k.wrap (andI k a b))) := by simp [binA, andI]
@[simp] theorem bin_or : binA .or (.int k a) (.int k b) = some (.int k (k.wrap (orI k a b))) := by simp [binA, orI]
@[simp] theorem bin_xor : binA .xor (.int k a) (.int k b) = some (.int k (k.wrap (xorI k a b))) := by simp [binA, xorI]
@[simp] theorem bin_shl (k' : IntKind) : binA .shl (.int k a) (.int k' b) = if 0 ≤ b then some (.int k (k.wrap (a * 2 ^ (min b.toNat k.bits)))) else none := rfl
@[simp] theorem bin_shr (k' : IntKind) : binA .shr (.int k a) (.int k' b) = if 0 ≤ b then some (.int k (a.fdiv (2 ^ (min b.toNat k.bits)))) else none := rfl
@[simp] theorem bin_eql : binA .eql (.int k a) (.int k b) = some (.bool (a == b)) := by simp [binA]
@[simp] theorem bin_neq : binA .neq (.int k a) (.int k b) = some (.bool (a != b)) := by simp [binA]
@[simp] theorem bin_lss : binA .lss (.int k a) (.int k b) = some (.bool (decide (a < b))) := by simp [binA]
@[simp] theorem bin_leq : binA .leq (.int k a) (.int k b) = some (.bool (decide (a ≤ b))) := by simp [binA]
@[simp] theorem bin_gtr : binA .gtr (.int k a) (.int k b) = some (.bool (decide (a > b))) := by simp [binA]
@[simp] theorem bin_geq : binA .geq (.int k a) (.int k b) = some (.bool (decide (a ≥ b))) := by simp [binA]
variable (s t : ByteArray)
@[simp] theorem bin_sadd : binA .add (.str s) (.str t) = if ((s.size + t.size : Nat) : Int) ≤ IntKind.i64.max then some (.str (s ++ t)) else none := rfl
@[simp] theorem bin_seql : binA .eql (.str s) (.str t) = some (.bool (s.toList == t.toList)) := rfl
@[simp] theorem bin_sneq : binA .neq (.str s) (.str t) = some (.bool (!(s.toList == t.toList))) := rfl
@[simp] theorem bin_slss : binA .lss (.str s) (.str t) = some (.bool (Op.bytesLess s.toList t.toList)) := rfl
@[simp] theorem bin_sgtr : binA .gtr (.str s) (.str t) = some (.bool (!(Op.bytesLess s.toList t.toList || s.toList == t.toList))) := rfl
@[simp] theorem bin_sleq : binA .leq (.str s) (.str t) = some (.bool (Op.bytesLess s.toList t.toList || s.toList == t.toList)) := rfl
@[simp] theorem bin_sgeq : binA .geq (.str s) (.str t) = some (.bool (!(Op.bytesLess s.toList t.toList))) := rfl
@[simp] theorem un_not (x : Bool) : unA .not (.bool x) = some (.bool (!x)) := rfl
@[simp] theorem un_neg : unA .neg (.int k a) = some (.int k (k.wrap (0 - a))) := rfl
end
end Go.Mach
