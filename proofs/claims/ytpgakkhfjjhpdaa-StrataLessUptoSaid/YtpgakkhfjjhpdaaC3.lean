import Derived.Test.YtpgakkhfjjhpdaaC2
import Derived.Scope
set_option linter.unusedVariables false
set_option linter.unusedSimpArgs false
set_option linter.unnecessarySimpa false
section
namespace Go.Mach
open Go.RowKit
theorem HR.extend {g ow σ w} (h : HR g ow σ w) (τ : List AObj) : HR g ow (σ ++ τ) w := by
  have hφ : ∀ id x, g.φ id = some x → (σ ++ τ)[id]? = σ[id]? := fun id x hx => List.getElem?_append_left (h.dom id x hx).1
  have hψ : ∀ id n x, g.ψ id n = some x → (σ ++ τ)[id]? = σ[id]? := fun id n x hx => List.getElem?_append_left (h.domψ id n x hx)
  refine ⟨h.mem, fun id x hx => ⟨by have := (h.dom id x hx).1; simp; omega, (h.dom id x hx).2⟩, fun id n x hx => by have := h.domψ id n x hx; simp; omega, ?_, ?_, ?_, ?_, ?_, h.pin⟩
  · intro id cs fz ext hσ b c hp; rw [hφ id _ hp] at hσ; exact h.cel id cs fz ext hσ b c hp
  · intro id n s hσ b p c hp; rw [hψ id n _ hp] at hσ; exact h.tk id n s hσ b p c hp
  · intro id n s hσ m x hp; rw [hψ id m _ hp] at hσ; exact h.tle id n s hσ m x hp
  · intro id s pos hσ b c hp; rw [hφ id _ hp] at hσ; exact h.it id s pos hσ b c hp
  · intro id o2 hsp hσ b c hp; rw [hφ id _ hp] at hσ; exact h.bd id o2 hsp hσ b c hp
theorem St.extend {bs g0 ow0 σ0 w0 g ow σ w} (s : St bs g0 ow0 σ0 w0 g ow σ w) (τ : List AObj) : St bs g0 ow0 σ0 w0 g ow (σ ++ τ) w :=
  ⟨s.gle, s.os, s.tape, s.output, s.size, s.frame, by have := s.len; simp; omega, s.nonew, s.frM, fun id hi hl cs fz ext hσ => s.disc id hi hl cs fz ext (by
    rw [List.getElem?_append_left (Nat.lt_of_lt_of_le hl s.len)] at hσ; exact hσ)⟩
theorem St.late {bs g0 ow0 σ0 w0 g ow σ w w'} (s : St bs g0 ow0 σ0 w0 g ow σ w) (h0 : HR g0 ow0 σ0 w0) {o : Obj} (hw : w'.heap = w.heap.push o) (hs : Same w w') {id : Nat} (hid : σ0.length ≤ id) (hn : g.φ id = none) (c : Nat) :
    St bs g0 ow0 σ0 w0 (g.put id w.heap.size c) (upd ow w.heap.size id) σ w' := by
  have hold : ∀ b, b < w.heap.size → w'.heap[b]? = w.heap[b]? := fun b hb => by rw [hw, Array.getElem?_push]; simp [Nat.ne_of_lt hb]
  refine ⟨s.gle.trans (Gh.put_le hn _ _), hs.os.trans s.os, hs.tape.trans s.tape, hs.output.trans s.output, by rw [hw]; simp; have := s.size; omega, fun b hb ho => ?_, s.len, fun j hj hj' => ?_, s.frM, fun j hj hl cs fz ext hσ => ?_⟩
  · obtain ⟨e1, e2⟩ := s.frame b hb ho
    have hb' := Nat.lt_of_lt_of_le hb s.size
    exact ⟨(hold b hb').trans e1, by simp [upd, Nat.ne_of_lt hb', e2]⟩
  · simp only [Gh.put]; rw [if_neg (by omega)]; exact s.nonew j hj hj'
  · obtain ⟨cs0, fz0, ext0, h1, h2⟩ := s.disc j hj hl cs fz ext hσ
    refine ⟨cs0, fz0, ext0, h1, fun i x hx => ?_⟩
    rcases h2 i x hx with h3 | ⟨h3, h4⟩
    · exact .inl h3
    · refine .inr ⟨h3, fun b c' hp => ?_⟩
      rw [← h4 b c' hp]
      exact cell_congr (hold b (Nat.lt_of_lt_of_le (h0.dom j _ hp).2 s.size)) i
def StepR (call : CallF) (bs : Nat) (o : AOper) (ρ : Regs) (σ : Heap) (ρ' : Regs) (σ' : Heap) : Prop :=
  (guardA ρ o.guard = some true ∧ ∃ v, stepAll call bs ρ σ o.op = some (v, σ') ∧ chkA ρ σ σ' o.chk ∧ ρ' = setDst ρ o.dst v) ∨
  (guardA ρ o.guard = some false ∧ σ' = σ ∧ ρ' = setDst ρ o.dst (.tup []))
theorem run_steps {call : CallF} {bs : Nat} : ∀ (os : List AOper) (ρ : Regs) (σ : Heap) (ρ' : Regs) (σ' : Heap), runOps call bs os ρ σ = some (ρ', σ') →
    ∃ (R : Nat → Regs) (H : Nat → Heap), R 0 = ρ ∧ H 0 = σ ∧ R os.length = ρ' ∧ H os.length = σ' ∧ ∀ i o, os[i]? = some o → StepR call bs o (R i) (H i) (R (i + 1)) (H (i + 1))
  | [], ρ, σ, ρ', σ', h => by
    simp only [runOps] at h; injection h with h; injection h with e1 e2
    exact ⟨fun _ => ρ, fun _ => σ, rfl, rfl, e1, e2, fun i o ho => by simp at ho⟩
  | o :: os, ρ, σ, ρ', σ', h => by
    simp only [runOps] at h
    obtain ⟨b, hb, h⟩ := Option.bind_eq_some_iff.1 h
    have key : ∃ ρ1 σ1, StepR call bs o ρ σ ρ1 σ1 ∧ runOps call bs os ρ1 σ1 = some (ρ', σ') := by
      cases b with
      | true =>
        simp only at h
        obtain ⟨⟨v, σ1⟩, hr, h⟩ := Option.bind_eq_some_iff.1 h
        obtain ⟨u, hu, h⟩ := Option.bind_eq_some_iff.1 h
        exact ⟨_, _, .inl ⟨hb, v, hr, chkO_some hu, rfl⟩, h⟩
      | false => exact ⟨_, _, .inr ⟨hb, rfl, rfl⟩, h⟩
    obtain ⟨ρ1, σ1, hs, h1⟩ := key
    obtain ⟨R, H, e1, e2, e3, e4, hst⟩ := run_steps os ρ1 σ1 ρ' σ' h1
    refine ⟨fun i => match i with | 0 => ρ | i + 1 => R i, fun i => match i with | 0 => σ | i + 1 => H i, rfl, rfl, e3, e4, fun i o' ho => ?_⟩
    cases i with
    | zero => simp at ho; subst ho; simp only [e1, e2]; exact hs
    | succ i => exact hst i o' (by simpa using ho)
theorem setDst_len (ρ : Regs) (d : Option Nat) (v : AV) : (setDst ρ d v).length = ρ.length := by cases d <;> simp [setDst]
theorem setDst_ne {ρ : Regs} {d : Option Nat} {v : AV} {t : Nat} (h : d ≠ some t) : (setDst ρ d v).getD t .undef = ρ.getD t .undef := by
  cases d with
  | none => rfl
  | some d =>
    have hd : d ≠ t := fun e => h (by rw [e])
    simp [setDst, List.getElem?_set, hd]
theorem StepR.len {call : CallF} {bs : Nat} {o : AOper} {ρ σ ρ' σ'} (h : StepR call bs o ρ σ ρ' σ') : ρ'.length = ρ.length := by
  rcases h with ⟨_, v, _, _, rfl⟩ | ⟨_, _, rfl⟩ <;> exact setDst_len ..
theorem StepR.ne {call : CallF} {bs : Nat} {o : AOper} {ρ σ ρ' σ'} (h : StepR call bs o ρ σ ρ' σ') {t : Nat} (ht : o.dst ≠ some t) : ρ'.getD t .undef = ρ.getD t .undef := by
  rcases h with ⟨_, v, _, _, rfl⟩ | ⟨_, _, rfl⟩ <;> exact setDst_ne ht
theorem runOps_len {call : CallF} {bs : Nat} {os : List AOper} {ρ σ ρ' σ'} (h : runOps call bs os ρ σ = some (ρ', σ')) : ρ'.length = ρ.length := by
  obtain ⟨R, H, e1, e2, e3, e4, hst⟩ := run_steps os ρ σ ρ' σ' h
  have : ∀ i, i ≤ os.length → (R i).length = ρ.length := fun i => by
    induction i with
    | zero => intro _; rw [e1]
    | succ i ih => intro hi; rw [(hst i _ (List.getElem?_eq_getElem (by omega))).len]; exact ih (by omega)
  rw [← e3]; exact this _ (Nat.le_refl _)
end Go.Mach
end
section
namespace Go.Mach
open Go.RowKit
open Classical
def guardT : Option (Nat × Bool) → List Nat
  | none => []
  | some (d, _) => [d]
def tmpOf : AX → List Nat
  | .t n => [n]
  | _ => []
def readsT (o : AOper) : List Nat := guardT o.guard ++ (opReads o.op).flatMap tmpOf
structure Plan (P : Program) (mt : Bool) (nt : Nat) (ops : Array Oper) (n : Nat) (ord : Nat → Nat) (anc : Nat → Nat → Prop) (ao : Nat → AOper) : Prop where
  lt : ∀ p, p < n → ord p < n
  inj : ∀ p q, p < n → q < n → ord p = ord q → p = q
  sur : ∀ j, j < n → ∃ p, p < n ∧ ord p = j
  size : ops.size = n
  comp : ∀ p o, p < n → ops[ord p]? = some o → compOp P mt o = some (ao p).op ∧ compGuard ops o.guard = some (ao p).guard ∧ (ao p).dst = o.dst
  one : ∀ p q t, p < n → q < n → (ao p).dst = some t → (ao q).dst = some t → p = q
  reads : ∀ p q t, p < n → q < n → t ∈ readsT (ao p) → (ao q).dst = some t → q = p ∨ (q < p ∧ anc q p) ∨ (p < q ∧ anc p q)
  early : ∀ p q, p < q → q < n → isE (ao p).op = true → (clsN (ao q).op = true ∨ anc p q)
  lateL : ∀ p q x, p < q → q < n → isE (ao q).op = true → clsL (ao p).op = some x → anc p q ∨ (x ∈ (ao q).chk ∧ ∀ t, x = .t t → ∀ r, p ≤ r → r < n → (ao r).dst ≠ some t)
  lateG : ∀ p q, p < q → q < n → isE (ao q).op = true → isNew (ao p).op = true → anc p q ∨ ∃ d, (ao p).dst = some d ∧ d < nt ∧ AX.t d ∈ (ao q).chk
theorem isE_N {op : AOp} (h : isE op = true) : clsN op = false := by simp [isE] at h; exact h.1.1
theorem cls_cases (op : AOp) : clsN op = true ∨ (∃ x, clsL op = some x) ∨ isNew op = true ∨ isE op = true := by
  cases h1 : clsN op
  · cases h2 : clsL op
    · cases h3 : isNew op
      · exact .inr (.inr (.inr (by simp [isE, h1, h2, h3])))
      · exact .inr (.inr (.inl rfl))
    · exact .inr (.inl ⟨_, rfl⟩)
  · exact .inl rfl
theorem L_notE {op : AOp} {x : AX} (h : clsL op = some x) : isE op = false := by simp [isE, h]
theorem G_notE {op : AOp} (h : isNew op = true) : isE op = false := by simp [isE, h]
theorem N_notE {op : AOp} (h : clsN op = true) : isE op = false := by simp [isE, h]
theorem L_notN {op : AOp} {x : AX} (h : clsL op = some x) : clsN op = false := by cases op <;> first | rfl | simp [clsL] at h
theorem G_notN {op : AOp} (h : isNew op = true) : clsN op = false := by cases op <;> first | rfl | simp [isNew] at h
theorem L_notC {op : AOp} {x : AX} (h : clsL op = some x) : isCall op = false := by cases op <;> first | rfl | simp [clsL] at h
theorem N_notC {op : AOp} (h : clsN op = true) : isCall op = false := by cases op <;> first | rfl | simp [clsN] at h
theorem G_notC {op : AOp} (h : isNew op = true) : isCall op = false := by cases op <;> first | rfl | simp [isNew] at h
section
variable {P : Program} {mt : Bool} {nt : Nat} {ops : Array Oper} {n : Nat} {ord : Nat → Nat} {anc : Nat → Nat → Prop} {ao : Nat → AOper} {call : CallF} {bs : Nat} {R : Nat → Regs} {H : Nat → Heap}
theorem R_keep (hst : ∀ i, i < n → StepR call bs (ao i) (R i) (H i) (R (i + 1)) (H (i + 1))) {t i : Nat} : ∀ j, i ≤ j → j ≤ n → (∀ q, i ≤ q → q < j → (ao q).dst ≠ some t) → (R j).getD t .undef = (R i).getD t .undef := by
  intro j
  induction j with
  | zero => intro h _ _; have : i = 0 := by omega
            rw [this]
  | succ j ih =>
    intro h hn hw
    rcases Nat.lt_or_ge i (j + 1) with hlt | hge
    · rw [(hst j (by omega)).ne (hw j (by omega) (by omega))]; exact ih (by omega) (by omega) fun q h1 h2 => hw q h1 (by omega)
    · have : i = j + 1 := by omega
      rw [this]
theorem R_len (hst : ∀ i, i < n → StepR call bs (ao i) (R i) (H i) (R (i + 1)) (H (i + 1))) : ∀ i, i ≤ n → (R i).length = (R 0).length := fun i => by
  induction i with
  | zero => intro _; rfl
  | succ i ih => intro hi; rw [(hst i (by omega)).len]; exact ih (by omega)
noncomputable def mixR (R : Nat → Regs) (n : Nat) (ao : Nat → AOper) (L : Nat → Prop) : Regs :=
  (List.range (R 0).length).map fun t => if ∃ q, q < n ∧ L q ∧ (ao q).dst = some t then (R n).getD t .undef else (R 0).getD t .undef
theorem mixR_len {L : Nat → Prop} : (mixR R n ao L).length = (R 0).length := by simp [mixR]
theorem mixR_get (hl : (R n).length = (R 0).length) {L : Nat → Prop} (t : Nat) : (mixR R n ao L).getD t .undef = if ∃ q, q < n ∧ L q ∧ (ao q).dst = some t then (R n).getD t .undef else (R 0).getD t .undef := by
  simp only [mixR, List.getD_eq_getElem?_getD, List.getElem?_map]
  rcases Nat.lt_or_ge t (R 0).length with h | h
  · rw [List.getElem?_range h]; simp
  · rw [List.getElem?_eq_none (by simpa using h), List.getElem?_eq_none (by omega), List.getElem?_eq_none h]; simp
theorem mixR_read (hP : Plan P mt nt ops n ord anc ao) (hst : ∀ i, i < n → StepR call bs (ao i) (R i) (H i) (R (i + 1)) (H (i + 1))) {L : Nat → Prop} {p : Nat} (hp : p < n) (hL : ¬ L p) (hdown : ∀ q, anc q p → L q) (hdown2 : ∀ q, q < n → anc p q → L q → L p)
    {t : Nat} (ht : t ∈ readsT (ao p)) : (mixR R n ao L).getD t .undef = (R p).getD t .undef := by
  rw [mixR_get (R_len hst n (Nat.le_refl _))]
  split
  · rename_i h
    obtain ⟨q, hq, hLq, hd⟩ := h
    rcases hP.reads p q t hp hq ht hd with rfl | ⟨h1, h2⟩ | ⟨h1, h2⟩
    · exact absurd hLq hL
    · exact R_keep hst n (by omega) (Nat.le_refl _) fun r hr1 hr2 hr => by have := hP.one q r t hq hr2 hd hr; omega
    · exact absurd (hdown2 q hq h2 hLq) hL
  · rename_i h
    refine (R_keep hst p (Nat.zero_le _) (by omega) fun r _ hr2 hr => ?_).symm
    rcases hP.reads p r t hp (by omega) ht hr with rfl | ⟨h1, h2⟩ | ⟨h1, h2⟩
    · omega
    · exact h ⟨r, by omega, hdown r h2, hr⟩
    · omega
theorem mem_reads {o : AOper} {x : AX} (hx : x ∈ opReads o.op) {t : Nat} (ht : x = .t t) : t ∈ readsT o := by
  unfold readsT; rw [List.mem_append, List.mem_flatMap]; exact .inr ⟨x, hx, by subst ht; simp [tmpOf]⟩
theorem ev_congr {ρ ρ' : Regs} {x : AX} (h : ∀ t, x = .t t → ρ.getD t .undef = ρ'.getD t .undef) : ev ρ x = ev ρ' x := by
  cases x with
  | t t => exact h t rfl
  | _ => rfl
theorem mixR_guard {o : AOper} {ρ ρ' : Regs} (h : ∀ t, t ∈ readsT o → ρ.getD t .undef = ρ'.getD t .undef) : guardA ρ o.guard = guardA ρ' o.guard := by
  cases hg : o.guard with
  | none => rfl
  | some jw => obtain ⟨d, w⟩ := jw; simp only [guardA]; rw [h d (by simp [readsT, hg, guardT])]
theorem mixR_set (hP : Plan P mt nt ops n ord anc ao) (hst : ∀ i, i < n → StepR call bs (ao i) (R i) (H i) (R (i + 1)) (H (i + 1))) {L : Nat → Prop} {p : Nat} (hp : p < n) {v : AV} (hv : R (p + 1) = setDst (R p) (ao p).dst v) (t : Nat) :
    (mixR R n ao (fun q => L q ∨ q = p)).getD t .undef = (setDst (mixR R n ao L) (ao p).dst v).getD t .undef := by
  have hl := R_len hst n (Nat.le_refl _)
  by_cases hd : (ao p).dst = some t
  · rw [mixR_get hl, if_pos ⟨p, hp, .inr rfl, hd⟩]
    have e1 : (R n).getD t .undef = (R (p + 1)).getD t .undef := R_keep hst n (by omega) (Nat.le_refl _) fun r hr1 hr2 hr => by have := hP.one p r t hp hr2 hd hr; omega
    rw [e1, hv, hd]
    simp only [setDst, List.getD_eq_getElem?_getD, List.getElem?_set, if_true, mixR_len, R_len hst p (by omega)]
  · rw [setDst_ne hd, mixR_get hl, mixR_get hl]
    have : (∃ q, q < n ∧ (L q ∨ q = p) ∧ (ao q).dst = some t) ↔ ∃ q, q < n ∧ L q ∧ (ao q).dst = some t :=
      ⟨fun ⟨q, h1, h2, h3⟩ => ⟨q, h1, h2.resolve_right fun e => hd (e ▸ h3), h3⟩, fun ⟨q, h1, h2, h3⟩ => ⟨q, h1, .inl h2, h3⟩⟩
    simp only [this]
theorem RR.congr {g : Gh} {ρ ρ' : Regs} {tmps : Array Value} (h : RR g ρ tmps) (hl : ρ'.length = ρ.length) (he : ∀ t, ρ'.getD t .undef = ρ.getD t .undef) : RR g ρ' tmps :=
  ⟨hl.trans h.len, fun t => by rw [he]; exact h.val t⟩
end
end Go.Mach
end
section
namespace Go.Mach
open Go.RowKit
open Classical
section
variable {P : Program} {mt : Bool} {nt : Nat} {ops : Array Oper} {n : Nat} {ord : Nat → Nat} {anc : Nat → Nat → Prop} {ao : Nat → AOper} {call : CallF} {bs : Nat} {R : Nat → Regs} {H : Nat → Heap} {ds : List Deferred}
theorem notE_heap (hst : ∀ i, i < n → StepR call bs (ao i) (R i) (H i) (R (i + 1)) (H (i + 1))) {i : Nat} (hi : i < n) (hE : isE (ao i).op = false) : ∃ τ, H (i + 1) = H i ++ τ := by
  rcases hst i hi with ⟨_, v, hs, _, _⟩ | ⟨_, hs, _⟩
  · rcases cls_cases (ao i).op with h | ⟨x, h⟩ | h | h
    · rw [stepAll_nc (N_notC h)] at hs; exact ⟨[], by simp [(N_step h hs).1]⟩
    · rw [stepAll_nc (L_notC h)] at hs; exact ⟨[], by simp [(L_step h hs).1]⟩
    · rw [stepAll_nc (G_notC h)] at hs
      obtain ⟨obj, ho, _⟩ := new_obj h hs; exact ⟨[obj], ho⟩
    · rw [h] at hE; cases hE
  · exact ⟨[], by simp [hs]⟩
theorem obj_keep (hst : ∀ i, i < n → StepR call bs (ao i) (R i) (H i) (R (i + 1)) (H (i + 1))) {i : Nat} {av : AV} (hv : (∀ σ2 : Heap, objOf σ2 av = none) ∨ ∃ (id : Nat) (o : AObj), (H i)[id]? = some o ∧ ∀ σ2 : Heap, objOf σ2 av = σ2[id]?) :
    ∀ k, i ≤ k → k ≤ n → (∀ q, i ≤ q → q < k → isE (ao q).op = true → guardA (R q) (ao q).guard = some true → objOf (H q) av = objOf (H (q + 1)) av) → objOf (H k) av = objOf (H i) av := by
  rcases hv with hv | ⟨id, o, ho, hv⟩
  · intro k _ _ _; rw [hv, hv]
  intro k
  induction k with
  | zero => intro h _ _; have : i = 0 := by omega
            rw [this]
  | succ k ih =>
    intro h hn hE
    rcases Nat.lt_or_ge i (k + 1) with hlt | hge
    · have e := ih (by omega) (by omega) fun q h1 h2 => hE q h1 (by omega)
      rw [← e]
      cases hek : isE (ao k).op with
      | true =>
        rcases hst k (by omega) with ⟨hg, _⟩ | ⟨_, hs, _⟩
        · exact (hE k (by omega) (by omega) hek hg).symm
        · rw [hs]
      | false =>
        obtain ⟨τ, hτ⟩ := notE_heap hst (by omega) hek
        rw [hτ, hv, hv]
        rw [hv, hv, ho] at e
        exact List.getElem?_append_left (List.getElem?_eq_some_iff.1 e).1
    · have : i = k + 1 := by omega
      rw [this]
structure At (ds : List Deferred) (bs : Nat) (R : Nat → Regs) (H : Nat → Heap) (n : Nat) (ao : Nat → AOper) (g0 : Gh) (ow0 : Nat → Option Nat) (w0 : World) (m : Nat) (L : Nat → Prop) (g : Gh) (ow : Nat → Option Nat) (a : Act) (w : World) : Prop where
  le : m ≤ n
  E1 : ∀ q, q < m → isE (ao q).op = true → L q
  E2 : ∀ q, m ≤ q → q < n → isE (ao q).op = true → ¬ L q
  hr : HR g ow (H m) w
  st : St bs g0 ow0 (H 0) w0 g ow (H m) w
  df : a.defers = ds
  rr : RR g (mixR R n ao L) a.tmps
  mono : ∀ i j, i ≤ j → j ≤ m → (H i).length ≤ (H j).length
  fre : ∀ q, q < m → isNew (ao q).op = true → guardA (R q) (ao q).guard = some true → ¬ L q → g.φ (H q).length = none
def Inv (ds : List Deferred) (bs : Nat) (R : Nat → Regs) (H : Nat → Heap) (n : Nat) (ao : Nat → AOper) (g0 : Gh) (ow0 : Nat → Option Nat) (w0 : World) (L : Nat → Prop) (a : Act) (w : World) : Prop :=
  ∃ g ow k, At ds bs R H n ao g0 ow0 w0 k L g ow a w ∧ (k < n → isE (ao k).op = true)
theorem At.advance {g0 ow0 w0} (hst : ∀ i, i < n → StepR call bs (ao i) (R i) (H i) (R (i + 1)) (H (i + 1))) {L : Nat → Prop} {g ow a w} : ∀ (d m : Nat), n = m + d → At ds bs R H n ao g0 ow0 w0 m L g ow a w → Inv ds bs R H n ao g0 ow0 w0 L a w
  | 0, m, hd, h => ⟨g, ow, m, h, fun hlt => by omega⟩
  | d + 1, m, hd, h => by
    cases hE : isE (ao m).op with
    | true => exact ⟨g, ow, m, h, fun _ => hE⟩
    | false =>
      obtain ⟨τ, hτ⟩ := notE_heap hst (i := m) (by omega) hE
      refine At.advance hst d (m + 1) (by omega) ⟨by omega, fun q hq he => ?_, fun q h1 h2 => h.E2 q (by omega) h2, by rw [hτ]; exact h.hr.extend τ, by rw [hτ]; exact h.st.extend τ, h.df, h.rr, fun i j hij hj => ?_, fun q hq hn hg hL => ?_⟩
      · rcases Nat.lt_or_ge q m with hlt | hge
        · exact h.E1 q hlt he
        · have : q = m := by omega
          subst this; rw [hE] at he; cases he
      · rcases Nat.lt_or_ge j (m + 1) with hlt | hge
        · exact h.mono i j hij (by omega)
        · have hj' : j = m + 1 := by omega
          subst hj'
          rcases Nat.lt_or_ge i (m + 1) with hlt | hge
          · have := h.mono i m (by omega) (Nat.le_refl _); rw [hτ]; simp; omega
          · have : i = m + 1 := by omega
            rw [this]; exact Nat.le_refl _
      · rcases Nat.lt_or_ge q m with hlt | hge
        · exact h.fre q hlt hn hg hL
        · have : q = m := by omega
          subst this; exact (h.hr.none_len (Nat.le_refl _)).1
theorem inv_start {g0 ow0 w0} {ρ : Regs} (hst : ∀ i, i < n → StepR call bs (ao i) (R i) (H i) (R (i + 1)) (H (i + 1))) (h0 : HR g0 ow0 (H 0) w0) (hR0 : R 0 = ρ) {a : Act} {w : World} (hw : Same w0 w) (hh : w.heap = w0.heap) (hR : RR g0 ρ a.tmps) (hd : a.defers = ds) :
    Inv ds bs R H n ao g0 ow0 w0 (fun _ => False) a w := by
  refine At.advance hst n 0 (by omega) ⟨Nat.zero_le _, fun q hq => by omega, fun q _ _ _ h => h, h0.congr hh, St.congr hw hh, hd, ?_, fun i j h1 h2 => ?_, fun q hq => by omega⟩
  · refine hR.congr (by rw [mixR_len, hR0]) fun t => ?_
    rw [mixR_get (R_len hst n (Nat.le_refl _)), if_neg (fun ⟨q, _, h, _⟩ => h), hR0]
  · have : i = j := by omega
    rw [this]; exact Nat.le_refl _
end
end Go.Mach
end
section
namespace Go.Mach
open Go.RowKit
open Classical
section
variable {P : Program} {mt : Bool} {nt : Nat} {ops : Array Oper} {n : Nat} {ord : Nat → Nat} {anc : Nat → Nat → Prop} {ao : Nat → AOper} {call : CallF} {bs : Nat} {R : Nat → Regs} {H : Nat → Heap} {ds : List Deferred}
variable {g0 : Gh} {ow0 : Nat → Option Nat} {w0 : World} {L : Nat → Prop} {a : Act} {w : World} {Q : Exit → Act → World → Prop}
theorem put_RR2 (hP : Plan P mt nt ops n ord anc ao) (hst : ∀ i, i < n → StepR call bs (ao i) (R i) (H i) (R (i + 1)) (H (i + 1))) {p : Nat} (hp : p < n) {v : AV} (hv : R (p + 1) = setDst (R p) (ao p).dst v)
    {g : Gh} (hR : RR g (mixR R n ao L) a.tmps) {cv : Value} (hV : VR g v cv) : RR g (mixR R n ao (fun q => L q ∨ q = p)) (a.put (ao p).dst cv).tmps :=
  (put_RR hR hV).congr (by rw [setDst_len, mixR_len, mixR_len]) fun t => mixR_set hP hst hp hv t
theorem At.same (hP : Plan P mt nt ops n ord anc ao) (hst : ∀ i, i < n → StepR call bs (ao i) (R i) (H i) (R (i + 1)) (H (i + 1))) {g ow} {k p : Nat} (h : At ds bs R H n ao g0 ow0 w0 k L g ow a w) (hp : p < n) (hE : isE (ao p).op = false)
    {v : AV} (hv : R (p + 1) = setDst (R p) (ao p).dst v) {g' ow' w' cv} (hV : VR g' v cv) (hH : HR g' ow' (H k) w') (hS : St bs g0 ow0 (H 0) w0 g' ow' (H k) w') (hle : g.le g')
    (hnone : ∀ q, q < k → isNew (ao q).op = true → guardA (R q) (ao q).guard = some true → ¬ L q → q ≠ p → g'.φ (H q).length = none) :
    At ds bs R H n ao g0 ow0 w0 k (fun q => L q ∨ q = p) g' ow' (a.put (ao p).dst cv) w' :=
  ⟨h.le, fun q h1 h2 => .inl (h.E1 q h1 h2), fun q h1 h2 h3 h4 => h4.elim (h.E2 q h1 h2 h3) (fun e => by subst e; rw [hE] at h3; cases h3), hH, hS, by rw [put_defers]; exact h.df,
    put_RR2 hP hst hp hv (h.rr.mono hle) hV, h.mono, fun q h1 h2 h3 h4 => hnone q h1 h2 h3 (fun e => h4 (.inl e)) (fun e => h4 (.inr e))⟩
theorem new_lt {call : CallF} {σ σ' : Heap} {ρ : Regs} {op : AOp} {v : AV} (hn : isNew op = true) (hs : stepAll call bs ρ σ op = some (v, σ')) : σ'.length = σ.length + 1 := by
  rw [stepAll_nc (G_notC hn)] at hs
  obtain ⟨obj, rfl, _⟩ := new_obj hn hs; simp
theorem At.none_step (hst : ∀ i, i < n → StepR call bs (ao i) (R i) (H i) (R (i + 1)) (H (i + 1))) {g ow} {k : Nat} (h : At ds bs R H n ao g0 ow0 w0 k L g ow a w) {q : Nat} (hq : q < k) (hn : isNew (ao q).op = true) (hg : guardA (R q) (ao q).guard = some true) :
    (H q).length + 1 = (H (q + 1)).length ∧ (H q).length < (H k).length := by
  have hle := h.le
  rcases hst q (by omega) with ⟨_, v, hs, _, _⟩ | ⟨hg', _⟩
  · have e := new_lt hn hs
    have := h.mono (q + 1) k (by omega) (Nat.le_refl _)
    omega
  · rw [hg] at hg'; cases hg'
theorem step_any {r0 : Option Nat} {n0 : Nat} (hP : Plan P mt nt ops n ord anc ao) (hcall : CallOK P call) (hst : ∀ i, i < n → StepR call bs (ao i) (R i) (H i) (R (i + 1)) (H (i + 1))) (h0 : HR g0 ow0 (H 0) w0) (hbs : bs ≤ (H 0).length) (hnt : nt ≤ (R 0).length)
    {p : Nat} (hp : p < n) (hL : ¬ L p) (hdown : ∀ q, anc q p → L q) (hdown2 : ∀ q r, q < n → r < n → anc q r → L r → L q) (hI : Inv ds bs R H n ao g0 ow0 w0 L a w) :
    wpOpIn (rnd r0) n0 P ops Q (ord p) (fun a' w' => Inv ds bs R H n ao g0 ow0 w0 (fun q => L q ∨ q = p) a' w') a w := by
  obtain ⟨g, ow, k, h, hk⟩ := hI
  have hop : ord p < ops.size := by rw [hP.size]; exact hP.lt p hp
  obtain ⟨o, ho⟩ : ∃ o, ops[ord p]? = some o := ⟨_, Array.getElem?_eq_getElem hop⟩
  obtain ⟨hc, hgd, hdst⟩ := hP.comp p o hp ho
  have hread : ∀ t, t ∈ readsT (ao p) → (mixR R n ao L).getD t .undef = (R p).getD t .undef := fun t ht => mixR_read hP hst hp hL hdown (fun q hq ha hLq => hdown2 p q hp hq ha hLq) ht
  have hev : ∀ x ∈ opReads (ao p).op, ev (mixR R n ao L) x = ev (R p) x := fun x hx => ev_congr fun t ht => hread t (mem_reads hx ht)
  have hrun : ∀ σ : Heap, stepAll call bs (mixR R n ao L) σ (ao p).op = stepAll call bs (R p) σ (ao p).op := fun σ => reads_congr hev
  have hgu : guardA (mixR R n ao L) (ao p).guard = guardA (R p) (ao p).guard := mixR_guard hread
  have hkE : k ≤ p → p < n → (isE (ao p).op = true ∧ p = k) ∨ clsN (ao p).op = true := fun h1 h2 => by
    rcases Nat.lt_or_ge k p with hlt | hge
    · rcases hP.early k p hlt h2 (hk (by omega)) with h3 | h3
      · exact .inr h3
      · exact absurd (hdown k h3) (h.E2 k (Nat.le_refl _) (by omega) (hk (by omega)))
    · have : k = p := by omega
      subst this; exact .inl ⟨hk h2, rfl⟩
  have hbsk : bs ≤ (H k).length := Nat.le_trans hbs (h.mono 0 k (Nat.zero_le _) (Nat.le_refl _))
  have hnoneS : ∀ {g' ow' w'}, St bs g ow (H k) w g' ow' (H k) w' → ∀ q, q < k → isNew (ao q).op = true → guardA (R q) (ao q).guard = some true → ¬ L q → q ≠ p → g'.φ (H q).length = none := fun hS q h1 h2 h3 h4 _ =>
    hS.nonew _ (h.none_step hst h1 h2 h3).2 (h.fre q h1 h2 h3 h4)
  unfold wpOpIn
  simp only [ho]
  rcases hst p hp with ⟨hg, v, hs, hchk, hv⟩ | ⟨hg, hsame, hv⟩
  · have hw := guard_sound (b := true) hgd h.rr (by rw [hgu, hg])
    rw [hw]
    simp only [if_true]
    rcases cls_cases (ao p).op with hN | ⟨x, hLd⟩ | hG | hE
    · 
      have hs2 : stepAll call bs (mixR R n ao L) (H k) (ao p).op = some (v, H k) := by
        rw [hrun]; rw [stepAll_nc (N_notC hN)] at hs ⊢; exact (N_step hN hs).2 _
      refine step_sound hcall h.hr hbsk h.rr hc hs2 fun g' ow' w' cv hV hH hS => ?_
      rw [← hdst]
      exact ⟨g', ow', k, h.same hP hst hp (N_notE hN) hv hV hH (h.st.trans hS) hS.gle (hnoneS hS), hk⟩
    · 
      have hpk : p < k := by
        rcases Nat.lt_or_ge p k with hlt | hge
        · exact hlt
        · rcases hkE hge hp with ⟨he, _⟩ | he
          · rw [L_notE hLd] at he; cases he
          · rw [L_notN hLd] at he; cases he
      have hs1 := hs
      rw [stepAll_nc (L_notC hLd)] at hs1
      obtain ⟨e1, hobj, hany⟩ := L_step hLd hs1
      have hkeep := obj_keep hst hobj k (by omega) h.le fun q h1 h2 h3 h4 => by
        have hqp : p ≠ q := fun e => by subst e; rw [L_notE hLd] at h3; cases h3
        have hkn := h.le
        rcases hP.lateL p q x (by omega) (by omega) h3 hLd with h5 | ⟨h5, h6⟩
        · exact absurd (hdown2 p q hp (by omega) h5 (h.E1 q h2 h3)) hL
        · rcases hst q (by omega) with ⟨_, v', _, hc', _⟩ | ⟨hg', _⟩
          · have := hc' x h5
            have hx : ev (R q) x = ev (R p) x := ev_congr fun t ht => R_keep hst q (by omega) (by omega) fun r hr1 hr2 => h6 t ht r hr1 (by omega)
            rw [hx] at this; exact this
          · rw [h4] at hg'; cases hg'
      have hs2 : stepAll call bs (mixR R n ao L) (H k) (ao p).op = some (v, H k) := by
        rw [hrun, stepAll_nc (L_notC hLd)]; exact hany _ hkeep
      refine step_sound hcall h.hr hbsk h.rr hc hs2 fun g' ow' w' cv hV hH hS => ?_
      rw [← hdst]
      exact ⟨g', ow', k, h.same hP hst hp (L_notE hLd) hv hV hH (h.st.trans hS) hS.gle (hnoneS hS), hk⟩
    · 
      have hpk : p < k := by
        rcases Nat.lt_or_ge p k with hlt | hge
        · exact hlt
        · rcases hkE hge hp with ⟨he, _⟩ | he
          · rw [G_notE hG] at he; cases he
          · rw [G_notN hG] at he; cases he
      have hs1 := hs
      rw [stepAll_nc (G_notC hG)] at hs1
      obtain ⟨obj, hobj, hpt⟩ := new_obj hG hs1
      have hfree := h.fre p hpk hG hg hL
      obtain ⟨hlen1, hlen2⟩ := h.none_step hst hpk hG hg
      have hat : (H (p + 1))[(H p).length]? = some obj := by rw [hobj]; simp
      have hkn := h.le
      have hkeep := obj_keep (av := v) (i := p + 1) hst (.inr ⟨_, obj, hat, hpt⟩) k (by omega) h.le fun q h1 h2 h3 h4 => by
        rcases hP.lateG p q (by omega) (by omega) h3 hG with h5 | ⟨d, h5, h6, h7⟩
        · exact absurd (hdown2 p q hp (by omega) h5 (h.E1 q h2 h3)) hL
        · rcases hst q (by omega) with ⟨_, v', _, hc', _⟩ | ⟨hg', _⟩
          · have := hc' _ h7
            have hx : ev (R q) (.t d) = v := by
              have e1 : (R q).getD d .undef = (R (p + 1)).getD d .undef := R_keep hst q (by omega) (by omega) fun r hr1 hr2 hr => by have := hP.one p r d hp (by omega) h5 hr; omega
              simp only [ev]
              rw [e1, hv, h5]
              have hl := R_len hst p (by omega)
              simp [setDst, List.getElem?_set, show d < (R p).length by omega]
            rw [hx] at this; exact this
          · rw [h4] at hg'; cases hg'
      rw [hpt, hpt, hat] at hkeep
      have hs2 : stepOp bs (mixR R n ao L) (H p) (ao p).op = some (v, H (p + 1)) := by
        have := hrun (H p); rw [stepAll_nc (G_notC hG), stepAll_nc (G_notC hG)] at this; rw [this, hs1]
      obtain ⟨mkAV, obj', e1, e2, _, hres⟩ := op_new (w := w) h.rr hc hG hs2
      have : obj' = obj := by
        have h3 := hobj.symm.trans e2
        have := List.append_cancel_left h3
        simpa using this.symm
      subst this
      obtain ⟨w', o', c, cv, hr, hwp, hsm, hcs, hi, ht, hvr, hbdn⟩ := hres
      refine ⟨fun _ _ => trivial, ?_⟩
      show o.uponIn (rnd r0) n0 P a _ Q ((o.semAt r0 a.eval).run P w)
      rw [sem_of hc, hr, Oper.uponIn_value]
      rw [← hdst]
      have hH : HR (g.put (H p).length w.heap.size c) (upd ow w.heap.size (H p).length) (H k) w' :=
        h.hr.newAt hwp hfree (fun n s e => by rw [hkeep] at e; injection e with e; exact ht n s e) (Nat.le_refl _) hlen2 (fun j _ _ => rfl) (fun j hj _ => h.hr.none_len hj) c
          (fun cs fz ext e => by rw [hkeep] at e; injection e with e; exact hcs cs fz ext e) (fun s pos e => by rw [hkeep] at e; injection e with e; exact hi s pos e) (fun o2 hsp he => by rw [hkeep] at he; injection he with he; subst he; exact (hbdn hsp).imp id .inl)
      refine ⟨_, _, k, h.same hP hst hp (G_notE hG) hv (e1 ▸ hvr _ (H p).length (by simp [Gh.put])) hH (h.st.late h0 hwp hsm (h.mono 0 p (Nat.zero_le _) (by omega)) hfree c) (Gh.put_le hfree _ _) (fun q h1 h2 h3 h4 hqp => ?_), hk⟩
      · have hne : (H q).length ≠ (H p).length := by
          obtain ⟨hq1, _⟩ := h.none_step hst h1 h2 h3
          rcases Nat.lt_or_ge q p with hlt | hge
          · have := h.mono (q + 1) p (by omega) (by omega); omega
          · have := h.mono (p + 1) q (by omega) (by omega); omega
        simp only [Gh.put]; rw [if_neg hne]; exact h.fre q h1 h2 h3 h4
    · 
      have hpk : p = k := by
        rcases Nat.lt_or_ge p k with hlt | hge
        · exact absurd (h.E1 p hlt hE) hL
        · rcases hkE hge hp with ⟨_, he⟩ | he
          · exact he
          · rw [isE_N hE] at he; cases he
      subst hpk
      have hs2 : stepAll call bs (mixR R n ao L) (H p) (ao p).op = some (v, H (p + 1)) := by rw [hrun, hs]
      refine step_sound hcall h.hr hbsk h.rr hc hs2 fun g' ow' w' cv hV hH hS => ?_
      rw [← hdst]
      refine At.advance hst (n - (p + 1)) (p + 1) (by omega) ⟨by omega, fun q h1 h2 => ?_, fun q h1 h2 h3 h4 => ?_, hH, h.st.trans hS, by rw [put_defers]; exact h.df, put_RR2 hP hst hp hv (h.rr.mono hS.gle) hV, fun i j hij hj => ?_, fun q h1 h2 h3 h4 => ?_⟩
      · rcases Nat.lt_or_ge q p with hlt | hge
        · exact .inl (h.E1 q hlt h2)
        · exact .inr (by omega)
      · rcases h4 with h4 | h4
        · exact h.E2 q (by omega) h2 h3 h4
        · omega
      · rcases Nat.lt_or_ge j (p + 1) with hlt | hge
        · exact h.mono i j hij (by omega)
        · have hj' : j = p + 1 := by omega
          subst hj'
          rcases Nat.lt_or_ge i (p + 1) with hlt | hge
          · exact Nat.le_trans (h.mono i p (by omega) (Nat.le_refl _)) hS.len
          · have : i = p + 1 := by omega
            rw [this]; exact Nat.le_refl _
      · have hq : q ≠ p := fun e => h4 (.inr e)
        exact hS.nonew _ (h.none_step hst (by omega) h2 h3).2 (h.fre q (by omega) h2 h3 fun e => h4 (.inl e))
  · have hw := guard_sound (b := false) hgd h.rr (by rw [hgu, hg])
    rw [hw]
    simp only [Bool.false_eq_true, if_false]
    refine ⟨fun _ _ => trivial, ?_⟩
    have hV : VR g (.tup []) undef := .tup rfl fun i x v hx => by simp at hx
    rw [← hdst]
    cases hE : isE (ao p).op with
    | false => exact ⟨g, ow, k, h.same hP hst hp hE hv hV h.hr h.st (.refl _) (fun q h1 h2 h3 h4 _ => h.fre q h1 h2 h3 h4), hk⟩
    | true =>
      have hpk : p = k := by
        rcases Nat.lt_or_ge p k with hlt | hge
        · exact absurd (h.E1 p hlt hE) hL
        · rcases hkE hge hp with ⟨_, he⟩ | he
          · exact he
          · rw [isE_N hE] at he; cases he
      subst hpk
      refine At.advance hst (n - (p + 1)) (p + 1) (by omega) ⟨by omega, fun q h1 h2 => ?_, fun q h1 h2 h3 h4 => ?_, by rw [hsame]; exact h.hr, by rw [hsame]; exact h.st, by rw [put_defers]; exact h.df, put_RR2 hP hst hp hv h.rr hV, fun i j hij hj => ?_, fun q h1 h2 h3 h4 => ?_⟩
      · rcases Nat.lt_or_ge q p with hlt | hge
        · exact .inl (h.E1 q hlt h2)
        · exact .inr (by omega)
      · rcases h4 with h4 | h4
        · exact h.E2 q (by omega) h2 h3 h4
        · omega
      · rcases Nat.lt_or_ge j (p + 1) with hlt | hge
        · exact h.mono i j hij (by omega)
        · have hj' : j = p + 1 := by omega
          subst hj'
          rcases Nat.lt_or_ge i (p + 1) with hlt | hge
          · rw [hsame]; exact h.mono i p (by omega) (Nat.le_refl _)
          · have : i = p + 1 := by omega
            rw [this]; exact Nat.le_refl _
      · have hq : q ≠ p := fun e => h4 (.inr e)
        exact h.fre q (by omega) h2 h3 fun e => h4 (.inl e)
end
end Go.Mach
end
section
namespace Go.Mach
open Go.RowKit
open Classical
def maskOf (acc : List Nat) (o : Oper) : Nat :=
  o.after.toList.foldl (fun m e => if Region.binds .any e then (m ||| (1 <<< e.on)) ||| acc.getD e.on 0 else m) 0
def masks : List Oper → List Nat → List Nat
  | [], acc => acc
  | o :: os, acc => masks os (acc ++ [maskOf acc o])
def okEdges : Nat → List Oper → Bool
  | _, [] => true
  | i, o :: os => o.after.toList.all (fun e => !Region.binds .any e || decide (e.on < i)) && okEdges (i + 1) os
def nextOp (asq : List AOper) (ms : List Nat) (done : Nat) (e : Bool) : Nat → Nat → Option Nat
  | 0, _ => none
  | f + 1, i => if !done.testBit i && ((ms.getD i 0) &&& done == ms.getD i 0) && (isE (asq.getD i default).op == e) then some i else nextOp asq ms done e f (i + 1)
def orderGo (asq : List AOper) (ms : List Nat) : Nat → Nat → List Nat
  | 0, _ => []
  | f + 1, done => match (nextOp asq ms done false asq.length 0).or (nextOp asq ms done true asq.length 0) with
    | some i => i :: orderGo asq ms f (done ||| (1 <<< i))
    | none => []
def chkOf (asq : List AOper) (m : Nat) (before : List Nat) : List AX := before.filterMap fun j =>
  if m.testBit j then none else match clsL (asq.getD j default).op with
    | some x => some x
    | none => if isNew (asq.getD j default).op then (asq.getD j default).dst.map .t else none
def chkGo (asq : List AOper) (ms : List Nat) : List Nat → List Nat → List (Nat × AOper)
  | _, [] => []
  | before, i :: rest => (i, { asq.getD i default with chk := if isE (asq.getD i default).op then chkOf asq (ms.getD i 0) before else [] }) :: chkGo asq ms (before ++ [i]) rest
def isT (t : Nat) : AX → Bool
  | .t n => n == t
  | _ => false
def readBy (y : AOper) : Option Nat → Bool
  | none => false
  | some t => (readsT y).contains t
def loneOK (tail : List (Nat × AOper)) (x y : AOper) : Bool :=
  !readBy y x.dst && !readBy x y.dst && (!isE x.op || clsN y.op) && (!isE y.op ||
    ((match clsL x.op with
      | some (.t t) => y.chk.any (isT t) && tail.all (fun z => !(z.2.dst == some t))
      | some _ => false
      | none => true)))
def newOK (nt : Nat) (x y : AOper) : Bool := !isE y.op || !isNew x.op || (match x.dst with | some d => decide (d < nt) && y.chk.any (isT d) | none => false)
def pairOK (nt : Nat) (ms : List Nat) (tail : List (Nat × AOper)) (x y : Nat × AOper) : Bool :=
  !(x.1 == y.1) && (x.2.dst.isNone || !(x.2.dst == y.2.dst)) && ((ms.getD y.1 0).testBit x.1 || (loneOK tail x.2 y.2 && newOK nt x.2 y.2))
def pairsOK (nt : Nat) (ms : List Nat) : List (Nat × AOper) → Bool
  | [] => true
  | x :: rest => rest.all (pairOK nt ms (x :: rest) x) && pairsOK nt ms rest
def planOK (nt n : Nat) (ms : List Nat) (z : List (Nat × AOper)) : Bool :=
  z.length == n && z.all (fun x => decide (x.1 < n)) && (List.range n).all (fun j => z.any (fun x => x.1 == j)) && pairsOK nt ms z
def planZ (nt : Nat) (asq : List AOper) (ms : List Nat) : Option (List (Nat × AOper)) :=
  let z := chkGo asq ms [] (orderGo asq ms asq.length 0)
  if planOK nt asq.length ms z = true then some z else none
def compD (P : Program) (mt : Bool) (nt : Nat) (ops : Array Oper) : Option (List AOper) :=
  (ops.toList.mapM (compOper P mt ops)).bind fun asq => if okEdges 0 ops.toList = true then (planZ nt asq (masks ops.toList [])).map fun z => z.map (·.2) else none
theorem maskOf_bit {acc : List Nat} {o : Oper} {i : Nat} (h : (maskOf acc o).testBit i = true) : ∃ e ∈ o.after, Region.binds .any e = true ∧ (e.on = i ∨ (acc.getD e.on 0).testBit i = true) := by
  have go : ∀ (l : List Edge) (m : Nat), (l.foldl (fun m e => if Region.binds .any e then (m ||| (1 <<< e.on)) ||| acc.getD e.on 0 else m) m).testBit i = true →
      m.testBit i = true ∨ ∃ e ∈ l, Region.binds .any e = true ∧ (e.on = i ∨ (acc.getD e.on 0).testBit i = true) := by
    intro l
    induction l with
    | nil => intro m h; exact .inl h
    | cons e l ih =>
      intro m h
      rw [List.foldl_cons] at h
      rcases ih _ h with h1 | ⟨e', he, h2⟩
      · split at h1
        · rename_i hb
          rw [Nat.testBit_or, Nat.testBit_or, Bool.or_eq_true, Bool.or_eq_true] at h1
          rcases h1 with (h1 | h1) | h1
          · exact .inl h1
          · refine .inr ⟨e, List.mem_cons_self, hb, .inl ?_⟩
            rw [Nat.testBit_shiftLeft] at h1
            simp only [Bool.and_eq_true, decide_eq_true_eq] at h1
            obtain ⟨h3, h4⟩ := h1
            rcases Nat.lt_or_ge 0 (i - e.on) with hlt | hge
            · rw [Nat.testBit_one_eq_true_iff_self_eq_zero] at h4; omega
            · omega
          · exact .inr ⟨e, List.mem_cons_self, hb, .inr h1⟩
        · exact .inl h1
      · exact .inr ⟨e', List.mem_cons_of_mem _ he, h2⟩
  rcases go _ _ h with h1 | ⟨e, he, h2⟩
  · simp at h1
  · exact ⟨e, by simpa using he, h2⟩
theorem maskOf_congr {acc acc' : List Nat} {o : Oper} (h : ∀ e ∈ o.after, Region.binds .any e = true → acc.getD e.on 0 = acc'.getD e.on 0) : maskOf acc o = maskOf acc' o := by
  unfold maskOf
  have go : ∀ (l : List Edge) (m : Nat), (∀ e ∈ l, Region.binds .any e = true → acc.getD e.on 0 = acc'.getD e.on 0) →
      l.foldl (fun m e => if Region.binds .any e then (m ||| (1 <<< e.on)) ||| acc.getD e.on 0 else m) m = l.foldl (fun m e => if Region.binds .any e then (m ||| (1 <<< e.on)) ||| acc'.getD e.on 0 else m) m := by
    intro l
    induction l with
    | nil => intro m _; rfl
    | cons e l ih =>
      intro m h
      rw [List.foldl_cons, List.foldl_cons]
      have : (if Region.binds .any e then (m ||| (1 <<< e.on)) ||| acc.getD e.on 0 else m) = if Region.binds .any e then (m ||| (1 <<< e.on)) ||| acc'.getD e.on 0 else m := by
        split
        · rename_i hb; rw [h e List.mem_cons_self hb]
        · rfl
      rw [this]; exact ih _ fun e' he => h e' (List.mem_cons_of_mem _ he)
  exact go _ _ fun e he => h e (by simpa using he)
theorem okEdges_get : ∀ (os : List Oper) (i : Nat), okEdges i os = true → ∀ (j : Nat) o, os[j]? = some o → ∀ e ∈ o.after, Region.binds .any e = true → e.on < i + j
  | [], _, _, j, o, ho => by simp at ho
  | o :: os, i, h, j, o', ho => by
    simp only [okEdges, Bool.and_eq_true] at h
    intro e he hb
    cases j with
    | zero =>
      simp at ho; subst ho
      have := List.all_eq_true.1 h.1 e (by simpa using he)
      simp only [hb, Bool.not_true, Bool.false_or, decide_eq_true_eq] at this
      omega
    | succ j => have := okEdges_get os (i + 1) h.2 j o' (by simpa using ho) e he hb; omega
theorem masks_old : ∀ (os : List Oper) (acc : List Nat) (i : Nat), i < acc.length → (masks os acc).getD i 0 = acc.getD i 0
  | [], _, _, _ => rfl
  | o :: os, acc, i, hi => by
    simp only [masks]
    rw [masks_old os _ i (by simp; omega)]
    simp only [List.getD_eq_getElem?_getD]
    rw [List.getElem?_append_left hi]
theorem masks_get : ∀ (os : List Oper) (acc : List Nat), okEdges acc.length os = true → ∀ (j : Nat) o, os[j]? = some o → (masks os acc).getD (acc.length + j) 0 = maskOf (masks os acc) o
  | [], _, _, j, o, ho => by simp at ho
  | o :: os, acc, h, j, o', ho => by
    have h' := h
    simp only [okEdges, Bool.and_eq_true] at h
    simp only [masks]
    cases j with
    | zero =>
      simp at ho; subst ho
      rw [masks_old os _ _ (by simp)]
      rw [show (acc ++ [maskOf acc o]).getD (acc.length + 0) 0 = maskOf acc o by simp]
      refine maskOf_congr fun e he hb => ?_
      have := okEdges_get _ _ h' 0 o rfl e he hb
      rw [masks_old os _ _ (by simp; omega)]
      simp only [List.getD_eq_getElem?_getD]
      rw [List.getElem?_append_left (by omega)]
    | succ j =>
      have := masks_get os (acc ++ [maskOf acc o]) (by simpa using h.2) j o' (by simpa using ho)
      simp only [List.length_append, List.length_singleton] at this
      rw [show acc.length + (j + 1) = acc.length + 1 + j by omega]; exact this
theorem chkGo_get (asq : List AOper) (ms : List Nat) : ∀ (l before : List Nat) x, x ∈ chkGo asq ms before l → ∃ c, x.2 = { asq.getD x.1 default with chk := c }
  | [], _, x, hx => by simp [chkGo] at hx
  | i :: l, before, x, hx => by
    simp only [chkGo, List.mem_cons] at hx
    rcases hx with rfl | hx
    · exact ⟨_, rfl⟩
    · exact chkGo_get asq ms l _ x hx
theorem pairs_get {nt : Nat} {ms : List Nat} : ∀ (z : List (Nat × AOper)), pairsOK nt ms z = true → ∀ (p q : Nat) x y, p < q → z[p]? = some x → z[q]? = some y → pairOK nt ms (z.drop p) x y = true
  | [], _, p, q, x, y, _, hx, _ => by simp at hx
  | x0 :: z, h, p, q, x, y, hpq, hx, hy => by
    simp only [pairsOK, Bool.and_eq_true] at h
    cases q with
    | zero => omega
    | succ q =>
      have hy' : z[q]? = some y := by simpa using hy
      cases p with
      | zero =>
        simp at hx; subst hx
        exact List.all_eq_true.1 h.1 y (List.mem_of_getElem? hy')
      | succ p => exact pairs_get z h.2 p q x y (by omega) (by simpa using hx) hy'
theorem any_isT {t : Nat} {l : List AX} (h : l.any (isT t) = true) : AX.t t ∈ l := by
  obtain ⟨x, hx, h1⟩ := List.any_eq_true.1 h
  cases x with
  | t n => simp only [isT, beq_iff_eq] at h1; subst h1; exact hx
  | _ => simp [isT] at h1
theorem mapM_get {α β : Type} {f : α → Option β} : ∀ {l : List α} {l' : List β}, l.mapM f = some l' → l'.length = l.length ∧ ∀ (i : Nat) x y, l[i]? = some x → l'[i]? = some y → f x = some y
  | [], l', h => by simp at h; subst h; exact ⟨rfl, fun i x y hx => by simp at hx⟩
  | x :: l, l', h => by
    rw [List.mapM_cons] at h
    simp only [Option.bind_eq_bind, Option.bind_eq_some_iff, Option.pure_def] at h
    obtain ⟨y, hy, ys, hys, e⟩ := h
    injection e with e; subst e
    obtain ⟨h1, h2⟩ := mapM_get hys
    refine ⟨by simp [h1], fun i a b ha hb => ?_⟩
    cases i with
    | zero => simp at ha hb; subst ha hb; exact hy
    | succ i => simp at ha hb; exact h2 i a b ha hb
def zord (z : List (Nat × AOper)) (p : Nat) : Nat := (z.getD p default).1
def zao (z : List (Nat × AOper)) (p : Nat) : AOper := (z.getD p default).2
def zanc (n : Nat) (ms : List Nat) (z : List (Nat × AOper)) (p q : Nat) : Prop := p < n ∧ (ms.getD (zord z q) 0).testBit (zord z p) = true
section
variable {P : Program} {mt : Bool} {nt : Nat} {ops : Array Oper}
theorem plan_of {asq : List AOper} {z : List (Nat × AOper)} {ms : List Nat} (ha : ops.toList.mapM (compOper P mt ops) = some asq) (hz : planZ nt asq ms = some z) :
    z.length = ops.size ∧ Plan P mt nt ops ops.size (zord z) (zanc ops.size ms z) (zao z) := by
  obtain ⟨hlen, hget⟩ := mapM_get ha
  have hlen' : asq.length = ops.size := by simpa using hlen
  simp only [planZ] at hz
  split at hz
  · rename_i hok
    injection hz with hz
    rw [hz] at hok
    simp only [planOK, Bool.and_eq_true, beq_iff_eq] at hok
    obtain ⟨⟨⟨h1, h2⟩, h3⟩, h4⟩ := hok
    rw [hlen'] at h1 h2 h3
    have hat : ∀ p, p < ops.size → z[p]? = some (z.getD p default) := fun p hp => by
      rw [List.getD_eq_getElem?_getD, List.getElem?_eq_getElem (by omega)]; rfl
    have hpair : ∀ p q, p < q → q < ops.size → pairOK nt ms (z.drop p) (z.getD p default) (z.getD q default) = true := fun p q hpq hq =>
      pairs_get z h4 p q _ _ hpq (hat p (by omega)) (hat q hq)
    have hpo : ∀ p q, p < q → q < ops.size → zord z p ≠ zord z q ∧ (∀ t, (zao z p).dst = some t → (zao z q).dst ≠ some t) ∧ (zanc ops.size ms z p q ∨ (loneOK (z.drop p) (zao z p) (zao z q) = true ∧ newOK nt (zao z p) (zao z q) = true)) := fun p q hpq hq => by
      have := hpair p q hpq hq
      simp only [pairOK, Bool.and_eq_true, Bool.not_eq_true', beq_eq_false_iff_ne, Bool.or_eq_true] at this
      obtain ⟨⟨e1, e2⟩, e3⟩ := this
      refine ⟨e1, fun t ht hq' => ?_, e3.imp (fun h => ⟨by omega, h⟩) id⟩
      rcases e2 with e2 | e2
      · unfold zao at ht; rw [ht] at e2; cases e2
      · exact e2 (ht.trans hq'.symm)
    refine ⟨h1, ⟨fun p hp => ?_, fun p q hp hq he => ?_, fun j hj => ?_, rfl, fun p o hp ho => ?_, fun p q t hp hq hdp hdq => ?_, fun p q t hp hq ht hd => ?_, fun p q hpq hq hE => ?_, fun p q x hpq hq hE hx => ?_, fun p q hpq hq hE hG => ?_⟩⟩
    · have := List.all_eq_true.1 h2 _ (List.mem_of_getElem? (hat p hp))
      exact of_decide_eq_true this
    · rcases Nat.lt_trichotomy p q with h | h | h
      · exact absurd he (hpo p q h hq).1
      · exact h
      · exact absurd he.symm (hpo q p h hp).1
    · have := List.all_eq_true.1 h3 j (by simpa using hj)
      obtain ⟨x, hx, hj'⟩ := List.any_eq_true.1 this
      obtain ⟨p, hp, he⟩ := List.getElem_of_mem hx
      refine ⟨p, by omega, ?_⟩
      unfold zord
      rw [List.getD_eq_getElem?_getD, List.getElem?_eq_getElem hp, he]; simpa using hj'
    · have hmem : z.getD p default ∈ chkGo asq ms [] (orderGo asq ms asq.length 0) := by rw [hz]; exact List.mem_of_getElem? (hat p hp)
      obtain ⟨c, hc⟩ := chkGo_get asq ms _ _ _ hmem
      have hlt := (Array.getElem?_eq_some_iff.1 ho).1
      have has : asq[zord z p]? = some (asq.getD (zord z p) default) := by rw [List.getD_eq_getElem?_getD, List.getElem?_eq_getElem (by omega)]; rfl
      have := hget (zord z p) o _ (by simpa using ho) has
      unfold compOper at this
      obtain ⟨aop, e1, this⟩ := Option.bind_eq_some_iff.1 this
      obtain ⟨gd, e2, this⟩ := Option.bind_eq_some_iff.1 this
      injection this with this
      have hc' : zao z p = { asq.getD (zord z p) default with chk := c } := hc
      rw [hc', ← this]
      exact ⟨e1, e2, rfl⟩
    · rcases Nat.lt_trichotomy p q with h | h | h
      · exact absurd hdq ((hpo p q h hq).2.1 t hdp)
      · exact h
      · exact absurd hdp ((hpo q p h hp).2.1 t hdq)
    · rcases Nat.lt_trichotomy p q with h | h | h
      · rcases (hpo p q h hq).2.2 with h5 | ⟨h5, _⟩
        · exact .inr (.inr ⟨h, h5⟩)
        · simp only [loneOK, Bool.and_eq_true, Bool.not_eq_true'] at h5
          have := h5.1.1.2
          rw [hd] at this; simp only [readBy] at this
          rw [List.contains_eq_mem] at this
          exact absurd ht (by simpa using this)
      · exact .inl h.symm
      · rcases (hpo q p h hp).2.2 with h5 | ⟨h5, _⟩
        · exact .inr (.inl ⟨h, h5⟩)
        · simp only [loneOK, Bool.and_eq_true, Bool.not_eq_true'] at h5
          have := h5.1.1.1
          rw [hd] at this; simp only [readBy] at this
          rw [List.contains_eq_mem] at this
          exact absurd ht (by simpa using this)
    · rcases (hpo p q hpq hq).2.2 with h5 | ⟨h5, _⟩
      · exact .inr h5
      · simp only [loneOK, Bool.and_eq_true, Bool.or_eq_true, Bool.not_eq_true'] at h5
        rcases h5.1.2 with h6 | h6
        · rw [hE] at h6; cases h6
        · exact .inl h6
    · rcases (hpo p q hpq hq).2.2 with h5 | ⟨h5, _⟩
      · exact .inl h5
      · simp only [loneOK, Bool.and_eq_true, Bool.or_eq_true, Bool.not_eq_true'] at h5
        rcases h5.2 with h6 | h6
        · rw [hE] at h6; cases h6
        · rw [hx] at h6
          cases x with
          | t t =>
            simp only [Bool.and_eq_true] at h6
            refine .inr ⟨any_isT h6.1, fun t' ht' r hr1 hr2 hr => ?_⟩
            injection ht' with ht'; subst ht'
            have hm : z.getD r default ∈ z.drop p := by
              refine List.mem_of_getElem? (i := r - p) ?_
              rw [List.getElem?_drop, show p + (r - p) = r by omega]; exact hat r hr2
            have := List.all_eq_true.1 h6.2 _ hm
            unfold zao at hr; rw [hr] at this; simp at this
          | _ => cases h6
    · rcases (hpo p q hpq hq).2.2 with h5 | ⟨_, h5⟩
      · exact .inl h5
      · simp only [newOK, Bool.or_eq_true, Bool.not_eq_true'] at h5
        rcases h5 with (h6 | h6) | h6
        · rw [hE] at h6; cases h6
        · rw [hG] at h6; cases h6
        · split at h6
          · rename_i d hd
            simp only [Bool.and_eq_true, decide_eq_true_eq] at h6
            exact .inr ⟨d, hd, h6.1, any_isT h6.2⟩
          · cases h6
  · cases hz
end
end Go.Mach
end
section
namespace Go.Mach
open Go.RowKit
open Classical
section
variable {P : Program} {mt : Bool} {nt : Nat} {ops : Array Oper} {call : CallF} {bs : Nat} {ds : List Deferred} {r0 : Option Nat} {n0 : Nat}
theorem getD_false_true {l : Array Bool} {j : Nat} (hj : j < l.size) : l.getD j false = l.getD j true := by simp [Array.getD_eq_getD_getElem?, hj]
theorem anc_listed {ops : Array Oper} (hE : okEdges 0 ops.toList = true) {listed : Array Bool}
    (hcl : ∀ (j : Nat) o, ops[j]? = some o → listed.getD j false = true → ∀ e ∈ o.after, Region.binds .any e = true → listed.getD e.on false = true) :
    ∀ (j : Nat) o, ops[j]? = some o → (∀ e ∈ o.after, Region.binds .any e = true → listed.getD e.on false = true) → ∀ i, ((masks ops.toList []).getD j 0).testBit i = true → listed.getD i false = true := by
  intro j
  induction j using Nat.strongRecOn with
  | ind j ih =>
    intro o ho hr i hi
    have ho' : ops.toList[j]? = some o := by simpa using ho
    have hm := masks_get ops.toList [] (by simpa using hE) j o ho'
    simp only [List.length_nil, Nat.zero_add] at hm
    rw [hm] at hi
    obtain ⟨e, he, hb, h1⟩ := maskOf_bit hi
    have hl := hr e he hb
    rcases h1 with rfl | h1
    · exact hl
    · have hlt := okEdges_get _ _ hE j o ho' e he hb
      rw [Nat.zero_add] at hlt
      have hsz : j < ops.size := (Array.getElem?_eq_some_iff.1 ho).1
      have ho2 : ops[e.on]? = some ops[e.on] := Array.getElem?_eq_getElem (by omega)
      exact ih e.on hlt _ ho2 (fun e' he' hb' => hcl _ _ ho2 hl e' he' hb') i h1
def Lp (z : List (Nat × AOper)) (n : Nat) (listed : Array Bool) (p : Nat) : Prop := p < n ∧ listed.getD (zord z p) false = true
noncomputable def unl (n : Nat) (listed : Array Bool) : List Nat := (List.range n).filter fun j => !listed.getD j false
theorem any_loop {g0 : Gh} {ow0 : Nat → Option Nat} {w0 : World} {R : Nat → Regs} {H : Nat → Heap} {Q : Exit → Act → World → Prop} {z : List (Nat × AOper)}
    (hP : Plan P mt nt ops ops.size (zord z) (zanc ops.size (masks ops.toList []) z) (zao z)) (hE : okEdges 0 ops.toList = true) (hcall : CallOK P call)
    (hst : ∀ i, i < ops.size → StepR call bs (zao z i) (R i) (H i) (R (i + 1)) (H (i + 1))) (h0 : HR g0 ow0 (H 0) w0) (hbs : bs ≤ (H 0).length) (hnt : nt ≤ (R 0).length)
    (hQ : ∀ g' ow' a' w', RR g' (R ops.size) a'.tmps → a'.defers = ds → HR g' ow' (H ops.size) w' → St bs g0 ow0 (H 0) w0 g' ow' (H ops.size) w' → Q .normal a' w') :
    ∀ (fuel : Nat) (listed : Array Bool) (a : Act) (w : World), listed.size = ops.size → (unl ops.size listed).length ≤ fuel →
      (∀ (j : Nat) o, ops[j]? = some o → listed.getD j false = true → ∀ e ∈ o.after, Region.binds .any e = true → listed.getD e.on false = true) →
      Inv ds bs R H ops.size (zao z) g0 ow0 w0 (Lp z ops.size listed) a w → wpAnyIn (rnd r0) n0 P .any ops Q fuel listed a w := by
  have hend : ∀ (listed : Array Bool) (a : Act) (w : World), listed.size = ops.size → Region.ready .any ops listed = [] →
      Inv ds bs R H ops.size (zao z) g0 ow0 w0 (Lp z ops.size listed) a w → Q .normal a w := by
    intro listed a w hs hr hI
    have hall : ∀ j, j < ops.size → listed.getD j false = true := by
      intro j
      induction j using Nat.strongRecOn with
      | ind j ih =>
        intro hj
        cases hl : listed.getD j false with
        | true => rfl
        | false =>
          have : j ∈ Region.ready .any ops listed := mem_ready.2 ⟨by rw [← getD_false_true (by omega)]; exact hl, _, Array.getElem?_eq_getElem hj, fun e he hb => by
            have hlt := okEdges_get _ _ hE j _ (by simpa using (Array.getElem?_eq_getElem hj)) e he hb
            rw [Nat.zero_add] at hlt
            exact ih e.on hlt (by omega)⟩
          rw [hr] at this; cases this
    obtain ⟨g, ow, k, h, hk⟩ := hI
    have hkn : k = ops.size := by
      rcases Nat.lt_or_ge k ops.size with hlt | hge
      · exact absurd ⟨hlt, hall _ (hP.lt k hlt)⟩ (h.E2 k (Nat.le_refl _) hlt (hk hlt))
      · have := h.le; omega
    subst hkn
    have hl := R_len hst _ (Nat.le_refl _)
    refine hQ g ow a w (h.rr.congr (by rw [mixR_len, hl]) fun t => ?_) h.df h.hr h.st
    rw [mixR_get hl]
    split
    · rfl
    · rename_i hn
      exact R_keep hst _ (Nat.zero_le _) (Nat.le_refl _) fun q _ hq hd => hn ⟨q, hq, ⟨hq, hall _ (hP.lt q hq)⟩, hd⟩
  intro fuel
  induction fuel with
  | zero =>
    intro listed a w hs hf hcl hI
    have hr : Region.ready .any ops listed = [] := by
      cases hr : Region.ready .any ops listed with
      | nil => rfl
      | cons j l =>
        have hj : j ∈ Region.ready .any ops listed := by rw [hr]; exact List.mem_cons_self
        obtain ⟨h1, o, ho, _⟩ := mem_ready.1 hj
        have hjn : j < ops.size := (Array.getElem?_eq_some_iff.1 ho).1
        have : j ∈ unl ops.size listed := List.mem_filter.2 ⟨by simpa using hjn, by rw [getD_false_true (by omega), h1]; rfl⟩
        have hz : unl ops.size listed = [] := List.eq_nil_of_length_eq_zero (by omega)
        rw [hz] at this; cases this
    exact ⟨hr, hend listed a w hs hr hI⟩
  | succ fuel ih =>
    intro listed a w hs hf hcl hI
    refine ⟨fun hr => hend listed a w hs hr hI, fun j hj => ?_⟩
    obtain ⟨h1, o, ho, hready⟩ := mem_ready.1 hj
    have hjn : j < ops.size := (Array.getElem?_eq_some_iff.1 ho).1
    have h1' : listed.getD j false = false := by rw [getD_false_true (by omega)]; exact h1
    obtain ⟨p, hp, rfl⟩ := hP.sur j hjn
    have hset : ∀ i, (listed.setIfInBounds (zord z p) true).getD i false = (decide (i = zord z p) || listed.getD i false) := fun i => by
      by_cases hi : i = zord z p
      · subst hi; simp [Array.getD_eq_getD_getElem?, hs, hjn]
      · rw [getD_set_ne false (Ne.symm hi)]; simp [hi]
    have hLeq : (fun q => Lp z ops.size listed q ∨ q = p) = Lp z ops.size (listed.setIfInBounds (zord z p) true) := by
      funext q
      apply propext
      simp only [Lp, hset, Bool.or_eq_true, decide_eq_true_eq]
      constructor
      · rintro (⟨h2, h3⟩ | rfl)
        · exact ⟨h2, .inr h3⟩
        · exact ⟨hp, .inl rfl⟩
      · rintro ⟨h2, h3 | h3⟩
        · exact .inr (hP.inj q p h2 hp h3)
        · exact .inl ⟨h2, h3⟩
    refine wpOpIn_mono (fun a' w' hI' => ?_) (step_any (r0 := r0) (n0 := n0) (ds := ds) (L := Lp z ops.size listed) hP hcall hst h0 hbs hnt hp (fun h2 => by rw [h2.2] at h1'; cases h1') (fun q hq => ?_) (fun q r hq hr ha hLr => ?_) hI)
    · refine ih _ a' w' (by simpa using hs) ?_ ?_ (by rw [← hLeq]; exact hI')
      · have : (unl ops.size (listed.setIfInBounds (zord z p) true)).length < (unl ops.size listed).length := by
          have e : unl ops.size (listed.setIfInBounds (zord z p) true) = (unl ops.size listed).filter fun i => !decide (i = zord z p) := by
            unfold unl
            rw [List.filter_filter]
            congr 1; funext i
            rw [hset, Bool.not_or]
          rw [e]
          have hle := List.length_filter_le (fun i => !decide (i = zord z p)) (unl ops.size listed)
          rcases Nat.lt_or_ge ((unl ops.size listed).filter fun i => !decide (i = zord z p)).length (unl ops.size listed).length with hlt | hge
          · exact hlt
          · have := List.length_filter_eq_length_iff.1 (Nat.le_antisymm hle hge) (zord z p) (List.mem_filter.2 ⟨by simpa using hjn, by rw [h1']; rfl⟩)
            simp at this
        omega
      · intro i o' ho' hl e he hb
        rw [hset, Bool.or_eq_true] at hl ⊢
        refine .inr ?_
        rcases hl with hl | hl
        · have : i = zord z p := by simpa using hl
          subst this
          rw [ho] at ho'; injection ho' with ho'; subst ho'
          exact hready e he hb
        · exact hcl i o' ho' hl e he hb
    · exact ⟨hq.1, anc_listed hE hcl _ o ho hready _ hq.2⟩
    · have hlt := hP.lt r hr
      have ho2 : ops[zord z r]? = some ops[zord z r] := Array.getElem?_eq_getElem hlt
      exact ⟨hq, anc_listed hE hcl _ _ ho2 (fun e he hb => hcl _ _ ho2 hLr.2 e he hb) _ ha.2⟩
theorem region_any (hm : P.follows .mixedOrders = true) (hcall : CallOK P call) {asq : List AOper} (hc : compD P mt nt ops = some asq) {ρ ρ' : Regs} {σ σ' : Heap} (hx : runOps call bs asq ρ σ = some (ρ', σ'))
    {g : Gh} {ow : Nat → Option Nat} {a : Act} {w : World} (h : HR g ow σ w) (hbs : bs ≤ σ.length) (hR : RR g ρ a.tmps) (hd : a.defers = ds) (hnt : nt ≤ ρ.length) {Q : Exit → Act → World → Prop} {id : Nat}
    (hQ : ∀ g' ow' a' w', RR g' ρ' a'.tmps → a'.defers = ds → HR g' ow' σ' w' → St bs g ow σ w g' ow' σ' w' → Q .normal a' w') :
    (Code.region id ops true).wpIn (rnd r0) n0 P Q a w := by
  unfold compD at hc
  obtain ⟨as0, ha, hc⟩ := Option.bind_eq_some_iff.1 hc
  split at hc
  · rename_i hE
    obtain ⟨z, hz, rfl⟩ := Option.map_eq_some_iff.1 hc
    obtain ⟨hlen, hP⟩ := plan_of ha hz
    obtain ⟨R, H, e1, e2, e3, e4, hst⟩ := run_steps _ _ _ _ _ hx
    have hst' : ∀ i, i < ops.size → StepR call bs (zao z i) (R i) (H i) (R (i + 1)) (H (i + 1)) := fun i hi => hst i _ (by
      rw [List.getElem?_map]; unfold zao; rw [List.getD_eq_getElem?_getD, List.getElem?_eq_getElem (by omega)]; rfl)
    rw [List.length_map, hlen] at e3 e4
    refine wpIn_region_any hm (any_loop (ds := ds) (g0 := g) (ow0 := ow) (w0 := w) hP hE hcall hst' (by rw [e2]; exact h) (by rw [e2]; exact hbs) (by rw [e1]; exact hnt)
      (fun g' ow' a' w' => by rw [e2, e3, e4]; exact hQ g' ow' a' w') ops.size _ a _ (by simp) ?_ ?_ ?_)
    · unfold unl
      exact Nat.le_trans (List.length_filter_le _ _) (by simp)
    · intro j o ho hl
      simp [Array.getD_eq_getD_getElem?] at hl
      rcases Nat.lt_or_ge j ops.size with h1 | h1
      · simp [h1] at hl
      · simp [Nat.not_lt.2 h1] at hl
    · have : Lp z ops.size (Array.replicate ops.size false) = fun _ => False := by
        funext p; apply propext
        simp only [Lp, iff_false]
        rintro ⟨_, hl⟩
        simp only [Array.getD_eq_getD_getElem?, Array.getElem?_replicate] at hl
        split at hl <;> simp at hl
      rw [this]
      exact inv_start hst' (by rw [e2]; exact h) e1 ⟨rfl, rfl, rfl⟩ rfl hR hd
  · cases hc
end
end Go.Mach
end
section
namespace Go.Mach
open Go.RowKit
def stuckC : ACode := .cond (.c .nilptr) .skip .skip
theorem exec_stuck {call : CallF} {k bs : Nat} {ρ : Regs} {σ : Heap} : exec call k bs stuckC ρ σ = none := rfl
def labsA : ACode → List Nat
  | .lab l => [l]
  | .seq a b => labsA a ++ labsA b
  | _ => []
def findA : ACode → Nat → Option ACode
  | .seq a b, l => match findA a l with
    | some rest => some (.seq rest b)
    | none => findA b l
  | .lab l', l => if l' = l then some .skip else none
  | _, _ => none
def scopeA (x : ACode) : ACode := match labsA x with
  | [l] => match findA x l with
    | some y => .scope x l y
    | none => stuckC
  | _ => stuckC
def noRf : ACode → Bool
  | .seq a b => noRf a && noRf b
  | .cond _ a b => noRf a && noRf b
  | .block _ b => noRf b
  | .loop b => noRf b
  | .scope _ _ _ => false
  | .rfn _ _ => false
  | _ => true
def compC (P : Program) (mt : Array Oper → Bool) (nt : Nat) : Code → Option ACode
  | .skip => some .skip
  | .label l => some (.lab l)
  | .region _ ops draw => if draw then some (((compD P (mt ops) nt ops).map .region).getD stuckC) else some (((ops.toList.mapM (compOper P (mt ops) ops)).map .region).getD stuckC)
  | .seq a b => (compC P mt nt a).bind fun x => (compC P mt nt b).map fun y => .seq x y
  | .cond c a b => (cx c).bind fun z => (compC P mt nt a).bind fun x => (compC P mt nt b).map fun y => .cond z x y
  | .block id b => if id < gno then (compC P mt nt b).map (.block id) else some stuckC
  | .loop b => (compC P mt nt b).map .loop
  | .exit id => if id < gno then some (.exit id) else some stuckC
  | .goto l => some (.exit (gno + l))
  | .scope b => (compC P mt nt b).map scopeA
  | .rangeFunc f ps asg b => (cx f).map fun x => .rfn x ⟨ps, asg, b⟩
  | .ret => some .ret
  | _ => some stuckC
theorem findA_of {P : Program} {mt : Array Oper → Bool} {nt : Nat} : ∀ (c : Code) (x : ACode), compC P mt nt c = some x → ∀ l, (∀ r, findLabel c l = some r → ∃ y, findA x l = some y) ∧ (findLabel c l = none → findA x l = none) ∧ (findLabel c l ≠ none → l ∈ labsA x)
  | .seq a b, x, hc, l => by
    simp only [compC] at hc
    obtain ⟨xa, ha, hc⟩ := Option.bind_eq_some_iff.1 hc
    obtain ⟨xb, hb, rfl⟩ := Option.map_eq_some_iff.1 hc
    obtain ⟨a1, a2, a3⟩ := findA_of a xa ha l
    obtain ⟨b1, b2, b3⟩ := findA_of b xb hb l
    simp only [findLabel, findA, labsA, List.mem_append]
    cases hfa : findLabel a l with
    | some ra =>
      obtain ⟨y, hy⟩ := a1 ra hfa
      simp [hy, a3 (by rw [hfa]; simp)]
    | none =>
      rw [a2 hfa]
      exact ⟨b1, b2, fun h => .inr (b3 h)⟩
  | .label l', x, hc, l => by
    simp only [compC] at hc; injection hc with hc; subst hc
    simp only [findLabel, findA, labsA]
    by_cases h : l' = l
    · subst h; simp
    · simp [h]
  | .skip, x, hc, l => by simp only [compC] at hc; injection hc with hc; subst hc; simp [findLabel, findA]
  | .region id ops draw, x, hc, l => by
    have hx : findA x l = none := by
      cases draw <;> simp only [compC, if_true, Bool.false_eq_true, if_false] at hc <;> injection hc with hc <;> subst hc
      · cases ops.toList.mapM (compOper P (mt ops) ops) <;> rfl
      · cases compD P (mt ops) nt ops <;> rfl
    simp [findLabel, hx]
  | .cond c a b, x, hc, l => by
    simp only [compC] at hc
    obtain ⟨z, _, hc⟩ := Option.bind_eq_some_iff.1 hc
    obtain ⟨xa, _, hc⟩ := Option.bind_eq_some_iff.1 hc
    obtain ⟨xb, _, rfl⟩ := Option.map_eq_some_iff.1 hc
    simp [findLabel, findA]
  | .block id b, x, hc, l => by
    simp only [compC] at hc
    split at hc
    · obtain ⟨xb, _, rfl⟩ := Option.map_eq_some_iff.1 hc; simp [findLabel, findA]
    · injection hc with hc; subst hc; simp [findLabel, findA, stuckC]
  | .loop b, x, hc, l => by
    simp only [compC] at hc
    obtain ⟨xb, _, rfl⟩ := Option.map_eq_some_iff.1 hc; simp [findLabel, findA]
  | .exit id, x, hc, l => by
    simp only [compC] at hc
    split at hc <;> injection hc with hc <;> subst hc <;> simp [findLabel, findA, stuckC]
  | .goto _, x, hc, l => by simp only [compC] at hc; injection hc with hc; subst hc; simp [findLabel, findA]
  | .scope b, x, hc, l => by
    simp only [compC] at hc
    obtain ⟨xb, _, rfl⟩ := Option.map_eq_some_iff.1 hc
    have : findA (scopeA xb) l = none := by
      unfold scopeA
      split
      · split <;> rfl
      · rfl
    simp [findLabel, this]
  | .rangeFunc _ _ _ _, x, hc, l => by
    simp only [compC] at hc
    obtain ⟨xb, _, rfl⟩ := Option.map_eq_some_iff.1 hc; simp [findLabel, findA]
  | .ret, x, hc, l => by simp only [compC] at hc; injection hc with hc; subst hc; simp [findLabel, findA]
  | .refuse _, x, hc, l => by simp only [compC] at hc; injection hc with hc; subst hc; simp [findLabel, findA, stuckC]
def toExit : AExit → Exit
  | .normal => .normal
  | .exit id => if id < gno then .exit id else .goto (id - gno)
  | .ret => .ret
def mkD (D : Nat) : Deferred := { target := .collected D, args := #[] }
structure NewD (n : Nat) (ow : Nat → Option Nat) (w : World) (Ds : List Nat) : Prop where
  nd : Ds.Nodup
  pt : ∀ D ∈ Ds, n ≤ D ∧ ow D = none ∧ w.heap[D]? = some (.deferred (some []))
theorem NewD.nil {n ow w} : NewD n ow w [] := ⟨.nil, fun D h => by simp at h⟩
theorem NewD.trans {n bs g1 ow1 σ1 w1 g2 ow2 σ2 w2 Ds1 Ds2} (h : NewD n ow1 w1 Ds1) (s : St bs g1 ow1 σ1 w1 g2 ow2 σ2 w2) (k : NewD w1.heap.size ow2 w2 Ds2) (hn : n ≤ w1.heap.size) : NewD n ow2 w2 (Ds2 ++ Ds1) := by
  refine ⟨List.nodup_append.2 ⟨k.nd, h.nd, fun a ha b hb e => ?_⟩, fun D hD => ?_⟩
  · subst e
    have h1 := (k.pt a ha).1
    have h2 := (Array.getElem?_eq_some_iff.1 (h.pt a hb).2.2).1
    omega
  · rcases List.mem_append.1 hD with hD | hD
    · obtain ⟨a, b, c⟩ := k.pt D hD; exact ⟨by omega, b, c⟩
    · obtain ⟨a, b, c⟩ := h.pt D hD
      obtain ⟨d, e⟩ := s.frame D (Array.getElem?_eq_some_iff.1 c).1 b
      exact ⟨a, e, d.trans c⟩
def Post (bs : Nat) (g : Gh) (ow : Nat → Option Nat) (σ : Heap) (w : World) (ds : List Deferred) (r : St3) (ex : Exit) (a' : Act) (w' : World) : Prop :=
  ex = toExit r.1 ∧ ∃ g' ow' Ds, RR g' r.2.1 a'.tmps ∧ a'.defers = Ds.map mkD ++ ds ∧ NewD w.heap.size ow' w' Ds ∧ HR g' ow' r.2.2 w' ∧ St bs g ow σ w g' ow' r.2.2 w'
theorem Post.here {bs g ow σ w r} {a : Act} (hR : RR g r.2.1 a.tmps) (hH : HR g ow r.2.2 w) (e : r.2.2 = σ) : Post bs g ow σ w a.defers r (toExit r.1) a w :=
  ⟨rfl, g, ow, [], hR, rfl, .nil, hH, by rw [e]; exact .refl ..⟩
theorem Post.after {bs g ow σ w g1 ow1 σ1 w1 r ex a' w' ds Ds1} {a1 : Act} (s : St bs g ow σ w g1 ow1 σ1 w1) (d : a1.defers = Ds1.map mkD ++ ds) (n : NewD w.heap.size ow1 w1 Ds1) (h : Post bs g1 ow1 σ1 w1 a1.defers r ex a' w') : Post bs g ow σ w ds r ex a' w' := by
  obtain ⟨h1, g', ow', Ds, h2, h3, h4, h5, h6⟩ := h
  exact ⟨h1, g', ow', Ds ++ Ds1, h2, by rw [h3, d]; simp, n.trans h6 h4 s.size, h5, s.trans h6⟩
section
variable {P : Program} {mt : Array Oper → Bool} {nt : Nat} {call : CallF} {bs k : Nat} {r0 : Option Nat}
def CodeOK (P : Program) (call : CallF) (k bs nt : Nat) (r0 : Option Nat) (c : Code) (ac : ACode) : Prop := ∀ ρ σ r, exec call k bs ac ρ σ = some r → ∀ g ow a w, HR g ow σ w → bs ≤ σ.length → RR g ρ a.tmps → nt ≤ ρ.length →
  r.2.1.length = ρ.length ∧ c.wpIn (rnd r0) 0 P (Post bs g ow σ w a.defers r) a w
theorem room_rnd (r : Option Nat) (n : Nat) : (rnd r).room n := fun d hd => by cases hd
theorem calm_rnd {r : Option Nat} {fr : Frame} {cs : List Frame} {w : World} : (lone fr cs w).fenced P (rnd r) := by
  intro g _
  exact ⟨(fun h => by cases h), Or.inl trivial, (fun _ _ => trivial), (fun _ h => by cases h)⟩
theorem wpIn_at {c : Code} {Q : Exit → Act → World → Prop} {a : Act} {w : World} (h : c.wpIn (rnd r0) 0 P Q a w) : ∃ e a' w', Q e a' w' := by
  obtain ⟨e, a', w', hq, _⟩ := h { (default : Frame) with roundOf := r0 } [] [] rfl trivial (room_rnd _ _)
  exact ⟨e, a', w', hq⟩
theorem loop_at {c : Code} {ac : ACode} (h : CodeOK P call k bs nt r0 c ac) : ∀ (n : Nat) ρ σ r, loopN (exec call k bs ac) n ρ σ = some r → ∀ g ow a w, HR g ow σ w → bs ≤ σ.length → RR g ρ a.tmps → nt ≤ ρ.length →
    r.2.1.length = ρ.length ∧ ∀ (b : Frame) (fk : List Item) (cs : List Frame), b.roundOf = r0 → ∃ e a' w', Post bs g ow σ w a.defers r e a' w' ∧ ArrivesIn (Machine.fenced P (rnd r0)) P (lone (b.atR a (.code c :: .inLoop c :: fk)) cs w) b fk cs e a' w'
  | 0, ρ, σ, r, hx, _, _, _, _, _, _, _, _ => by simp [loopN] at hx
  | n + 1, ρ, σ, r, hx, g, ow, a, w, h1, h2, h3, h5 => by
    simp only [loopN] at hx
    obtain ⟨⟨e, ρ1, σ1⟩, hr, hx⟩ := Option.bind_eq_some_iff.1 hx
    obtain ⟨hl, hwp⟩ := h _ _ _ hr g ow a w h1 h2 h3 h5
    cases e with
    | normal =>
      simp only at hx hl
      have key : ∀ g1 ow1 a1 w1, RR g1 ρ1 a1.tmps → HR g1 ow1 σ1 w1 → bs ≤ σ1.length → r.2.1.length = ρ1.length ∧ ∀ (b : Frame) (fk : List Item) (cs : List Frame), b.roundOf = r0 → ∃ e a' w', Post bs g1 ow1 σ1 w1 a1.defers r e a' w' ∧ ArrivesIn (Machine.fenced P (rnd r0)) P (lone (b.atR a1 (.code c :: .inLoop c :: fk)) cs w1) b fk cs e a' w' :=
        fun g1 ow1 a1 w1 k1 k3 k4 => loop_at h n ρ1 σ1 r hx g1 ow1 a1 w1 k3 k4 k1 (by omega)
      have hlen : r.2.1.length = ρ.length := by
        obtain ⟨e, a1, w1, ⟨_, g1, ow1, _, k1, _, _, k3, k4⟩⟩ := wpIn_at hwp
        rw [← hl]; exact (key g1 ow1 a1 w1 k1 k3 (Nat.le_trans h2 k4.len)).1
      refine ⟨hlen, fun b fk cs hro => ?_⟩
      obtain ⟨e, a1, w1, ⟨he, g1, ow1, Ds, k1, kd, kn, k3, k4⟩, harr⟩ := hwp b (.inLoop c :: fk) cs hro trivial (room_rnd _ _)
      simp only [toExit] at he; subst he
      obtain ⟨e2, a2, w2, hq, harr2⟩ := (key g1 ow1 a1 w1 k1 k3 (Nat.le_trans h2 k4.len)).2 b fk cs hro
      exact ⟨e2, a2, w2, hq.after k4 kd kn, .of_steps (StepsIn.trans harr (.one calm_rnd stepR_inLoop)) harr2⟩
    | exit id =>
      simp only at hx; injection hx with hx; subst hx
      refine ⟨hl, fun b fk cs hro => ?_⟩
      obtain ⟨e, a1, w1, hq, harr⟩ := hwp b (.inLoop c :: fk) cs hro trivial (room_rnd _ _)
      have he := hq.1; simp only [toExit] at he
      exact ⟨_, a1, w1, hq, .pass (x := .inLoop c) rfl (fun _ _ => .inl (by rw [he]; split <;> simp)) harr⟩
    | ret =>
      simp only at hx; injection hx with hx; subst hx
      refine ⟨hl, fun b fk cs hro => ?_⟩
      obtain ⟨e, a1, w1, hq, harr⟩ := hwp b (.inLoop c :: fk) cs hro trivial (room_rnd _ _)
      have he := hq.1; simp only [toExit] at he
      exact ⟨_, a1, w1, hq, .pass (x := .inLoop c) rfl (fun _ _ => .inl (by rw [he]; simp)) harr⟩
theorem CodeOK.seq {x y : Code} {ax ay : ACode} (ihx : CodeOK P call k bs nt r0 x ax) (ihy : CodeOK P call k bs nt r0 y ay) : CodeOK P call k bs nt r0 (.seq x y) (.seq ax ay) := by
  intro ρ σ r hx g ow a w h1 h2 h3 h5
  simp only [exec] at hx
  obtain ⟨⟨e, ρ1, σ1⟩, hr, hx⟩ := Option.bind_eq_some_iff.1 hx
  obtain ⟨hl, hwp⟩ := ihx _ _ _ hr g ow a w h1 h2 h3 h5
  simp only at hl
  cases e with
  | normal =>
    simp only [onNormal] at hx
    have key := fun g1 ow1 a1 w1 k1 k2 k3 => ihy ρ1 σ1 r hx g1 ow1 a1 w1 k1 k2 k3 (by omega)
    refine ⟨?_, wpIn_seq (wpIn_mono hwp ?_)⟩
    · obtain ⟨e, a1, w1, ⟨_, g1, ow1, _, k1, _, _, k3, k4⟩⟩ := wpIn_at hwp
      rw [← hl]; exact (key g1 ow1 a1 w1 k3 (Nat.le_trans h2 k4.len) k1).1
    · rintro e a1 w1 ⟨he, g1, ow1, Ds, k1, kd, kn, k3, k4⟩
      simp only [toExit] at he; subst he
      exact wpIn_mono (key g1 ow1 a1 w1 k3 (Nat.le_trans h2 k4.len) k1).2 fun e a2 w2 hq => hq.after k4 kd kn
  | exit id =>
    simp only [onNormal] at hx; injection hx with hx; subst hx
    refine ⟨hl, wpIn_seq (wpIn_mono hwp ?_)⟩
    intro e a1 w1 hq
    have he := hq.1; simp only [toExit] at he
    split at he <;> (subst he; exact hq)
  | ret =>
    simp only [onNormal] at hx; injection hx with hx; subst hx
    refine ⟨hl, wpIn_seq (wpIn_mono hwp ?_)⟩
    intro e a1 w1 hq
    have he := hq.1; simp only [toExit] at he; subst he
    exact hq
theorem scope_at {c rest : Code} {arest : ACode} {l : Nat} (hf : findLabel c l = some rest) (hno : ∀ l', l' ≠ l → findLabel c l' = none) (hrest : CodeOK P call k bs nt none rest arest) :
    ∀ (n : Nat) (r1 r : St3), scopeN l (exec call k bs arest) n r1 = some r → ∀ g ow a w, HR g ow r1.2.2 w → bs ≤ r1.2.2.length → RR g r1.2.1 a.tmps → nt ≤ r1.2.1.length →
      r.2.1.length = r1.2.1.length ∧ ∀ (m : Machine) (b : Frame) (fk : List Item) (cs : List Frame), b.roundOf = none → ArrivesIn (Machine.fenced P (rnd none)) P m b (.inScope c :: fk) cs (toExit r1.1) a w →
        ∃ e a' w', Post bs g ow r1.2.2 w a.defers r e a' w' ∧ ArrivesIn (Machine.fenced P (rnd none)) P m b fk cs e a' w' := by
  have hout : ∀ (r1 : St3) g ow (a : Act) w, gotoL r1.1 l = false → HR g ow r1.2.2 w → RR g r1.2.1 a.tmps → ∀ (m : Machine) (b : Frame) (fk : List Item) (cs : List Frame), b.roundOf = none → ArrivesIn (Machine.fenced P (rnd none)) P m b (.inScope c :: fk) cs (toExit r1.1) a w →
        ∃ e a' w', Post bs g ow r1.2.2 w a.defers r1 e a' w' ∧ ArrivesIn (Machine.fenced P (rnd none)) P m b fk cs e a' w' := by
    intro r1 g ow a w hg hH hR m b fk cs hro harr
    refine ⟨toExit r1.1, a, w, .here hR hH rfl, ?_⟩
    obtain ⟨e1, ρ1, σ1⟩ := r1
    cases e1 with
    | normal => exact StepsIn.trans harr (.one calm_rnd (by rw [Frame.atR_of_none hro, Frame.atR_of_none hro]; exact step_inScope))
    | ret => exact harr
    | exit id =>
      simp only [toExit] at harr ⊢
      split at harr
      · rename_i hlt
        rw [if_pos hlt]
        exact ⟨fun k' hk => harr.1 k' (by simpa [exitTo] using hk), fun hr hk => by rw [hro] at hr; cases hr⟩
      · rename_i hlt
        rw [if_neg hlt]
        have hne : id - gno ≠ l := fun e => by
          simp only [gotoL, decide_eq_false_iff_not] at hg
          omega
        have hgt : gotoIn (id - gno) (.inScope c :: fk) = gotoIn (id - gno) fk := by simp [gotoIn, hno _ hne]
        exact ⟨fun k' hk => harr.1 k' (by rw [hgt]; exact hk), fun hr hk => by rw [hro] at hr; cases hr⟩
  intro n
  induction n with
  | zero =>
    intro r1 r hx g ow a w hH hb hR hnt
    simp only [scopeN] at hx
    split at hx
    · cases hx
    · rename_i hg
      injection hx with hx; subst hx
      exact ⟨rfl, hout r1 g ow a w (by simpa using hg) hH hR⟩
  | succ n ih =>
    intro r1 r hx g ow a w hH hb hR hnt
    simp only [scopeN] at hx
    split at hx
    · rename_i hg
      obtain ⟨r2, hr2, hx⟩ := Option.bind_eq_some_iff.1 hx
      obtain ⟨hl2, hwp⟩ := hrest _ _ _ hr2 g ow a w hH hb hR hnt
      have key := fun g1 ow1 a1 w1 (k1 : HR g1 ow1 r2.2.2 w1) k2 k3 => ih r2 r hx g1 ow1 a1 w1 k1 k2 k3 (by omega)
      refine ⟨?_, fun m b fk cs hro harr => ?_⟩
      · obtain ⟨e, a1, w1, ⟨_, g1, ow1, _, k1, _, _, k3, k4⟩⟩ := wpIn_at hwp
        rw [← hl2]; exact (key g1 ow1 a1 w1 k3 (Nat.le_trans hb k4.len) k1).1
      · obtain ⟨e, a1, w1, ⟨he, g1, ow1, Ds, k1, kd, kn, k3, k4⟩, harr2⟩ := hwp b (.inScope c :: fk) cs hro trivial (room_rnd _ _)
        subst he
        have hto : toExit r1.1 = .goto l := by
          cases h1 : r1.1 with
          | exit id =>
            rw [h1] at hg
            simp only [gotoL, decide_eq_true_eq] at hg
            subst hg
            simp only [toExit]
            rw [if_neg (Nat.not_lt.2 (Nat.le_add_right _ _)), Nat.add_sub_cancel_left]
          | normal => rw [h1] at hg; cases hg
          | ret => rw [h1] at hg; cases hg
        rw [hto] at harr
        have hs := harr.1 _ (show gotoIn l (.inScope c :: fk) = some (.code rest :: .inScope c :: fk) by simp [gotoIn, hf])
        obtain ⟨e2, a2, w2, hq, harr3⟩ := (key g1 ow1 a1 w1 k3 (Nat.le_trans hb k4.len) k1).2 m b fk cs hro (.of_steps hs harr2)
        exact ⟨e2, a2, w2, hq.after k4 kd kn, harr3⟩
    · rename_i hg
      injection hx with hx; subst hx
      exact ⟨rfl, hout r1 g ow a w (by simpa using hg) hH hR⟩
theorem HR.alloc0 {g : Gh} {ow : Nat → Option Nat} {σ : Heap} {w : World} (h : HR g ow σ w) (o : Obj) : ∃ ow', (∀ b, b < w.heap.size → ow' b = ow b) ∧ ow' w.heap.size = none ∧ HR g ow' σ (w.alloc o) ∧ St bs g ow σ w g ow' σ (w.alloc o) := by
  have hold : ∀ b, b < w.heap.size → (w.alloc o).heap[b]? = w.heap[b]? := fun b hb => by
    show (w.heap.push o)[b]? = _
    rw [Array.getElem?_push]; simp [Nat.ne_of_lt hb]
  have hsz : w.heap.size ≤ (w.alloc o).heap.size := by show w.heap.size ≤ (w.heap.push o).size; simp
  refine ⟨fun b => if b = w.heap.size then none else ow b, fun b hb => if_neg (Nat.ne_of_lt hb), if_pos rfl, ?_, ?_⟩
  · have how : ∀ b, b < w.heap.size → (if b = w.heap.size then none else ow b) = ow b := fun b hb => if_neg (Nat.ne_of_lt hb)
    refine ⟨fun b i v hm => (cell_congr (hold b (h.lt hm)) i).trans (h.mem b i v hm), fun id x hx => ⟨(h.dom id x hx).1, Nat.lt_of_lt_of_le (h.dom id x hx).2 hsz⟩, h.domψ, ?_, ?_, h.tle, ?_, ?_, h.pin.of fun b hb ho => ⟨hold b hb, (how b hb).trans ho⟩⟩
    · intro id cs fz ext hσ b c hp
      have hb := (h.dom id _ hp).2
      obtain ⟨cv, tag, fr, k0, k1, k2, k3, k4, k5, k6⟩ := h.cel id cs fz ext hσ b c hp
      exact ⟨cv, tag, fr, (hold b hb).trans k0, k1, k2, k3, k4, (how b hb).trans k5, k6⟩
    · intro id n s' hσ b p c hp
      obtain ⟨cv, tag, fr, k0, k1, k2, k3, k4⟩ := h.tk id n s' hσ b p c hp
      have hb : b < w.heap.size := (Array.getElem?_eq_some_iff.1 k0).1
      exact ⟨cv, tag, fr, (hold b hb).trans k0, k1, k2, (how b hb).trans k3, k4⟩
    · intro id s' pos hσ b c hp
      obtain ⟨k0, k1⟩ := h.it id s' pos hσ b c hp
      have hb := (h.dom id _ hp).2
      exact ⟨(hold b hb).trans k0, (how b hb).trans k1⟩
    · intro id o' hsp hσ b c hp
      exact (h.bd id o' hsp hσ b c hp).keep (.refl _) fun b' ho hb' => ⟨hold b' hb', (how b' hb').trans ho, fun i hi => hi⟩
  · exact ⟨.refl g, rfl, rfl, rfl, hsz, fun b hb ho => ⟨hold b hb, by simp [Nat.ne_of_lt hb, ho]⟩, Nat.le_refl _, fun _ _ hh => hh, fun _ _ _ _ => rfl,
      fun id _ hl cs fz ext hσ => ⟨cs, fz, ext, hσ, fun i x hx => .inr ⟨hx, fun b c hp => cell_congr (hold b (h.dom id _ hp).2) i⟩⟩⟩
theorem HR.res_all {g : Gh} {ow : Nat → Option Nat} {σ : Heap} {w : World} (h : HR g ow σ w) {n : Nat} (hn : σ.length ≤ n) : g.le (g.res n) :=
  ⟨fun id x hx => by simp only [Gh.res]; rw [if_pos (by have := (h.dom id x hx).1; omega)]; exact hx, fun id m x hx => by simp only [Gh.res]; rw [if_pos (by have := h.domψ id m x hx; omega)]; exact hx, fun _ _ _ h => h⟩
theorem HR.lpTo {g : Gh} {ow : Nat → Option Nat} {σ : Heap} {w : World} (h : HR g ow σ w) {id l c : Nat} (hp : g.φ id = some (l, c)) {rc : RCode} {tm : List AV} {st : LoopState} {pd : Option Code} (hσ : σ[id]? = some (.lp rc tm st pd)) :
    ∃ rec : Loop, w.heap[l]? = some (.loop rec) ∧ (rec.params = rc.params ∧ rec.assign = rc.assign ∧ rec.body = rc.body ∧ rec.state = st ∧ rec.pending = pd) ∧ RR (g.res id) tm rec.tmps ∧
      ∀ st' pd', HR g ow (σ.set id (.lp rc tm st' pd')) (w.putObj l (.loop { rec with state := st', pending := pd' })) ∧ St bs g ow σ w g ow (σ.set id (.lp rc tm st' pd')) (w.putObj l (.loop { rec with state := st', pending := pd' })) := by
  obtain ⟨rec, h1, h2, h3, h4, h5, h6⟩ : LpAt g ow id l rc tm st pd w := h.bd id _ rfl hσ l c hp
  refine ⟨rec, h1, h2, ⟨h3, h4⟩, fun st' pd' => ?_⟩
  have hlt : l < w.heap.size := (Array.getElem?_eq_some_iff.1 h1).1
  refine h.spTo (v := .bool true) (w' := w.putObj l (.loop { rec with state := st', pending := pd' })) (o' := .lp rc tm st' pd') hp h5 h6 (fun k hk => by simp [Value.ownBlock] at hk) ⟨rfl, rfl, rfl⟩ (by simp [World.putObj]) (fun k hk hne _ => World.putObj_heap_other hne) (fun _ _ => rfl) (.inr ⟨rfl, ?_⟩)
  exact ⟨{ rec with state := st', pending := pd' }, World.putObj_heap_same hlt, ⟨h2.1, h2.2.1, h2.2.2.1, rfl, rfl⟩, h3, h4, h5, h6⟩
theorem rfn_sound (hcall : CallOK P call) {f : Operand} {ps : Array Tmp} {asg b : Code} {x : AX} (hz : cx f = some x) : CodeOK P call k bs nt none (.rangeFunc f ps asg b) (.rfn x ⟨ps, asg, b⟩) := by
  intro ρ σ y hx g ow a w h1 h2 h3 h5
  simp only [exec] at hx
  split at hx
  · rename_i fn caps hfx
    obtain ⟨⟨v, σ2⟩, hcn, hend⟩ := Option.bind_eq_some_iff.1 hx
    unfold callN at hcn
    split at hcn
    · cases hcn
    · rename_i hne
      have hv := ev_VR h3 hz
      rw [hfx] at hv
      generalize hcx : a.eval f = cv at hv
      cases hv with
      | @func _ _ vs hl hV =>
        obtain ⟨hent, hcl⟩ := hcall.fn _ _ _ _ _ _ hne hcn (by simp; omega)
        have hlen : y.2.1 = ρ := by
          unfold endLp at hend
          split at hend
          · split at hend
            · cases hend
            · obtain ⟨e, _, hend⟩ := Option.bind_eq_some_iff.1 hend
              split at hend
              · split at hend
                · injection hend with hend; subst hend; rfl
                · cases hend
              · injection hend with hend; subst hend; rfl
          · cases hend
        refine ⟨by rw [hlen], wpIn_rangeFunc fun fid _ => ?_⟩
        obtain ⟨ow1, o1, o2, hH1, hS1⟩ := h1.alloc0 (bs := bs) (.deferred (some []))
        obtain ⟨rec, hrec⟩ : ∃ rec : Loop, rec = { state := .ready, pending := none, fn := fid, tmps := a.tmps, params := ps, assign := asg, body := b, defers := w.heap.size } := ⟨_, rfl⟩
        obtain ⟨W2, hW2⟩ : ∃ W2, (w.alloc (.deferred (some []))).alloc (.loop rec) = W2 := ⟨_, rfl⟩
        have hsz1 : (w.alloc (.deferred (some []))).heap.size = w.heap.size + 1 := World.size_alloc ..
        have hn := hH1.none_len (Nat.le_refl σ.length)
        have hW2h : W2.heap = (w.alloc (.deferred (some []))).heap.push (.loop rec) := by rw [← hW2]; rfl
        have hH2 : HR (g.put σ.length (w.heap.size + 1) 0) (upd ow1 (w.heap.size + 1) σ.length) (σ ++ [.lp ⟨ps, asg, b⟩ ρ .ready none]) W2 := by
          rw [← hsz1]
          refine hH1.newAt hW2h hn.1 (by simp) (by simp) (by simp) (fun j hj _ => List.getElem?_append_left hj) (fun j hj _ => hH1.none_len hj) 0 (fun cs fz ext e => by simp at e) (fun s pos e => by simp at e) (fun o' hsp e => ?_)
          simp at e; subst e
          refine .inr (.inr ⟨_, _, _, _, rec, rfl, rfl, by rw [hrec]; exact ⟨rfl, rfl, rfl, rfl, rfl⟩, by rw [hrec]; exact h3.len, fun t => ?_⟩)
          rw [hrec]
          exact (h3.val t).mono (hH1.res_all (Nat.le_refl _))
        have hS2 : St bs g ow1 σ (w.alloc (.deferred (some []))) (g.put σ.length (w.heap.size + 1) 0) (upd ow1 (w.heap.size + 1) σ.length) (σ ++ [.lp ⟨ps, asg, b⟩ ρ .ready none]) W2 := by
          rw [← hsz1]
          exact St.newAt hH1 hW2h (by rw [← hW2]; exact ⟨rfl, rfl, rfl⟩) (Nat.le_refl _) (by simp) (fun j hj _ => List.getElem?_append_left hj) 0
        have hp2 : (g.put σ.length (w.heap.size + 1) 0).φ σ.length = some (w.heap.size + 1, 0) := by simp [Gh.put]
        refine ⟨w.heap.size + 1, [mkD w.heap.size], W2, { target := .fn (.func fn) vs, args := #[.func (.yield (w.heap.size + 1)) #[] #[]] }, W2, fn, #[.func (.yield (w.heap.size + 1)) #[] #[]] ++ vs, W2, ?_, ?_, fun _ _ => trivial, ?_, (fun hh => by cases hh), ?_⟩
        · rw [← hW2, hrec]; exact run_enterLoop_outer _ _ _ _ _
        · simp only [resolve, hcx]; simp [go_sem]
        · have := run_callFunc (P := P) (w := W2) hent (#[.func (.yield (w.heap.size + 1)) #[] #[]] ++ vs)
          simp [invoke, this]
        · refine callsIn_rnd ((hcl _ _ W2 _ hH2 ?_).mono ?_)
          · have ha1 : Args (g.put σ.length (w.heap.size + 1) 0) [.yld σ.length] #[.func (.yield (w.heap.size + 1)) #[] #[]] := ⟨rfl, fun i x c hx hc => by cases i <;> simp at hx hc; subst hx hc; exact .yld hp2⟩
            exact ha1.append ⟨hl, fun i x v hx hv => (hV i x v hx hv).mono (hS2.gle)⟩
          · rintro e w3 ⟨cv3, g3, ow3, rfl, hV3, hH3, hS3⟩
            have hp3 := hS3.gle.φ _ _ hp2
            unfold endLp at hend
            split at hend
            · rename_i rc tm st pd hσ2
              split at hend
              · cases hend
              · rename_i hbusy
                obtain ⟨rec3, k1, ⟨k2, k3, k4, k5, k6⟩, _, hto⟩ := hH3.lpTo (bs := bs) hp3 hσ2
                obtain ⟨hH4, hS4⟩ := hto .exhausted pd
                have hrun := run_endLoop (P := P) k1 (by rw [k5]; exact hbusy)
                have hw4 : w3.putObj (w.heap.size + 1) (.loop { rec3 with state := .exhausted }) = w3.putObj (w.heap.size + 1) (.loop { rec3 with state := .exhausted, pending := pd }) := by rw [← k6]
                rw [hw4] at hrun
                have hSall : St bs g ow1 σ (w.alloc (.deferred (some []))) g3 ow3 _ _ := (hS2.trans hS3).trans hS4
                have hD : w.heap.size < (w.alloc (.deferred (some []))).heap.size := by omega
                obtain ⟨f1, f2⟩ := hSall.frame _ hD o2
                have hpost : ∀ e, y = (e, ρ, σ2.set σ.length (.lp rc tm .exhausted pd)) → Post bs g ow σ w a.defers y (toExit e) { a with defers := [mkD w.heap.size] ++ a.defers } (w3.putObj (w.heap.size + 1) (.loop { rec3 with state := .exhausted, pending := pd })) := by
                  rintro e rfl
                  exact ⟨rfl, g3, ow3, [w.heap.size], h3.mono hSall.gle, rfl, ⟨by simp, fun D hD => by simp at hD; subst hD; exact ⟨Nat.le_refl _, f2, f1.trans (World.alloc_heap_new _ _)⟩⟩, hH4, hS1.trans hSall⟩
                refine ⟨pd, w3.putObj (w.heap.size + 1) (.loop { rec3 with state := .exhausted, pending := pd }), by rw [k6] at hrun; exact hrun, ?_⟩
                obtain ⟨e, he, hend⟩ := Option.bind_eq_some_iff.1 hend
                unfold pdX at he
                split at he
                · injection he with he; subst he
                  injection hend with hend
                  exact hpost _ hend.symm
                · injection he with he; subst he
                  injection hend with hend
                  exact wpIn_ret (hpost _ hend.symm)
                · rename_i i
                  injection he with he; subst he
                  simp only at hend
                  split at hend
                  · rename_i hi
                    injection hend with hend
                    have := hpost _ hend.symm
                    simp only [toExit, if_pos hi] at this
                    exact wpIn_exit this
                  · cases hend
                · cases he
            · cases hend
  · cases hx
theorem exec_sound2 (hm : P.follows .mixedOrders = true) (hcall : CallOK P call) : ∀ (c : Code) (ac : ACode), compC P mt nt c = some ac → r0 = none ∨ noRf ac = true →
    CodeOK P call k bs nt r0 c ac ∧ ∀ l rc, findLabel c l = some rc → ∃ y, findA ac l = some y ∧ CodeOK P call k bs nt r0 rc y
  | .skip, ac, hc, _ => by
    simp only [compC] at hc; injection hc with hc; subst hc
    refine ⟨fun ρ σ r hx g ow a w h1 h2 h3 h5 => ?_, fun l rc h => by simp [findLabel] at h⟩
    simp only [exec] at hx; injection hx with hx; subst hx
    exact ⟨rfl, wpIn_skip (.here h3 h1 rfl)⟩
  | .label l', ac, hc, _ => by
    simp only [compC] at hc; injection hc with hc; subst hc
    refine ⟨fun ρ σ r hx g ow a w h1 h2 h3 h5 => ?_, fun l rc h => ?_⟩
    · simp only [exec] at hx; injection hx with hx; subst hx
      exact ⟨rfl, wpIn_label (.here h3 h1 rfl)⟩
    · simp only [findLabel] at h
      split at h
      · rename_i e
        have e : l' = l := by simpa using e
        injection h with h; subst h e
        refine ⟨.skip, by simp [findA], fun ρ σ r hx g ow a w h1 h2 h3 h5 => ?_⟩
        simp only [exec] at hx; injection hx with hx; subst hx
        exact ⟨rfl, wpIn_skip (.here h3 h1 rfl)⟩
      · cases h
  | .exit id, ac, hc, _ => by
    refine ⟨?_, fun l rc h => by simp [findLabel] at h⟩
    simp only [compC] at hc
    split at hc
    · rename_i hid
      injection hc with hc; subst hc
      intro ρ σ r hx g ow a w h1 h2 h3 h5
      simp only [exec] at hx; injection hx with hx; subst hx
      have := Post.here (bs := bs) (r := ((.exit id : AExit), ρ, σ)) h3 h1 rfl
      simp only [toExit, if_pos hid] at this
      exact ⟨rfl, wpIn_exit this⟩
    · injection hc with hc; subst hc
      intro ρ σ r hx; rw [exec_stuck] at hx; cases hx
  | .goto l, ac, hc, _ => by
    refine ⟨?_, fun l rc h => by simp [findLabel] at h⟩
    simp only [compC] at hc; injection hc with hc; subst hc
    intro ρ σ r hx g ow a w h1 h2 h3 h5
    simp only [exec] at hx; injection hx with hx; subst hx
    have := Post.here (bs := bs) (r := ((.exit (gno + l) : AExit), ρ, σ)) h3 h1 rfl
    simp only [toExit] at this
    rw [if_neg (Nat.not_lt.2 (Nat.le_add_right _ _)), Nat.add_sub_cancel_left] at this
    exact ⟨rfl, wpIn_goto this⟩
  | .ret, ac, hc, _ => by
    refine ⟨?_, fun l rc h => by simp [findLabel] at h⟩
    simp only [compC] at hc; injection hc with hc; subst hc
    intro ρ σ r hx g ow a w h1 h2 h3 h5
    simp only [exec] at hx; injection hx with hx; subst hx
    exact ⟨rfl, wpIn_ret (.here (r := ((.ret : AExit), ρ, σ)) h3 h1 rfl)⟩
  | .region id ops draw, ac, hc, _ => by
    refine ⟨?_, fun l rc h => by simp [findLabel] at h⟩
    intro ρ σ r hx g ow a w h1 h2 h3 h5
    cases draw with
    | true =>
      simp only [compC, if_true] at hc
      injection hc with hc
      cases has : compD P (mt ops) nt ops with
      | none => rw [has] at hc; simp only [Option.map_none, Option.getD_none] at hc; subst hc; rw [exec_stuck] at hx; cases hx
      | some asq =>
      rw [has] at hc; simp only [Option.map_some, Option.getD_some] at hc; subst hc
      simp only [exec] at hx
      obtain ⟨⟨ρ', σ'⟩, hr, rfl⟩ := Option.map_eq_some_iff.1 hx
      exact ⟨runOps_len hr, region_any hm hcall has hr h1 h2 h3 rfl h5 fun g' ow' a' w' k1 k2 k3 k4 => ⟨rfl, g', ow', [], k1, k2, .nil, k3, k4⟩⟩
    | false =>
      simp only [compC, Bool.false_eq_true, if_false] at hc
      injection hc with hc
      cases has : ops.toList.mapM (compOper P (mt ops) ops) with
      | none => rw [has] at hc; simp only [Option.map_none, Option.getD_none] at hc; subst hc; rw [exec_stuck] at hx; cases hx
      | some asq =>
      rw [has] at hc; simp only [Option.map_some, Option.getD_some] at hc; subst hc
      simp only [exec] at hx
      obtain ⟨⟨ρ', σ'⟩, hr, rfl⟩ := Option.map_eq_some_iff.1 hx
      refine ⟨runOps_len hr, wpIn_region ?_⟩
      have := ops_sound (P := P) (r := r0) (n := 0) (ds := a.defers) (mt := mt ops) (ops := ops) hcall ops.toList asq 0 ρ σ g ow a w (fun j => by simp) has hr h1 h2 h3 rfl (Q := Post bs g ow σ w a.defers (.normal, ρ', σ')) fun g' ow' a' w' k1 k2 k3 k4 => ⟨rfl, g', ow', [], k1, k2, .nil, k3, k4⟩
      simpa using this
  | .seq x y, ac, hc, hrf => by
    simp only [compC] at hc
    obtain ⟨ax, hx', hc⟩ := Option.bind_eq_some_iff.1 hc
    obtain ⟨ay, hy', rfl⟩ := Option.map_eq_some_iff.1 hc
    have ihx := exec_sound2 hm hcall x ax hx' (hrf.imp (fun h => h) fun h => by simp only [noRf, Bool.and_eq_true] at h; exact h.1)
    have ihy := exec_sound2 hm hcall y ay hy' (hrf.imp (fun h => h) fun h => by simp only [noRf, Bool.and_eq_true] at h; exact h.2)
    refine ⟨ihx.1.seq ihy.1, fun l rc h => ?_⟩
    simp only [findLabel] at h
    simp only [findA]
    split at h
    · rename_i rest hr
      injection h with h; subst h
      obtain ⟨z, hz, hzok⟩ := ihx.2 l rest hr
      rw [hz]
      exact ⟨_, rfl, hzok.seq ihy.1⟩
    · rename_i hr
      rw [(findA_of x ax hx' l).2.1 hr]
      exact ihy.2 l rc h
  | .cond c x y, ac, hc, hrf => by
    refine ⟨?_, fun l rc h => by simp [findLabel] at h⟩
    simp only [compC] at hc
    obtain ⟨z, hz, hc⟩ := Option.bind_eq_some_iff.1 hc
    obtain ⟨ax, hx', hc⟩ := Option.bind_eq_some_iff.1 hc
    obtain ⟨ay, hy', rfl⟩ := Option.map_eq_some_iff.1 hc
    have ihx := (exec_sound2 hm hcall x ax hx' (hrf.imp (fun h => h) fun h => by simp only [noRf, Bool.and_eq_true] at h; exact h.1)).1
    have ihy := (exec_sound2 hm hcall y ay hy' (hrf.imp (fun h => h) fun h => by simp only [noRf, Bool.and_eq_true] at h; exact h.2)).1
    intro ρ σ r hx g ow a w h1 h2 h3 h5
    simp only [exec] at hx
    have hv := ev_VR h3 hz
    split at hx
    · rename_i e0; rw [e0] at hv
      obtain ⟨hl, hwp⟩ := ihx _ _ _ hx g ow a w h1 h2 h3 h5
      exact ⟨hl, wpIn_cond_true hv.boolv hwp⟩
    · rename_i e0; rw [e0] at hv
      obtain ⟨hl, hwp⟩ := ihy _ _ _ hx g ow a w h1 h2 h3 h5
      exact ⟨hl, wpIn_cond_false hv.boolv hwp⟩
    · cases hx
  | .block id c, ac, hc, hrf => by
    refine ⟨?_, fun l rc h => by simp [findLabel] at h⟩
    simp only [compC] at hc
    split at hc
    · rename_i hid
      obtain ⟨ax, hx', rfl⟩ := Option.map_eq_some_iff.1 hc
      have ih := (exec_sound2 hm hcall c ax hx' (hrf.imp (fun h => h) fun h => by simpa only [noRf] using h)).1
      intro ρ σ r hx g ow a w h1 h2 h3 h5
      simp only [exec] at hx
      obtain ⟨⟨e, ρ1, σ1⟩, hr, rfl⟩ := Option.map_eq_some_iff.1 hx
      obtain ⟨hl, hwp⟩ := ih _ _ _ hr g ow a w h1 h2 h3 h5
      simp only at hl
      refine ⟨by cases e <;> simp only [outBlock] <;> first | exact hl | (split <;> exact hl), wpIn_block (wpIn_mono hwp ?_)⟩
      rintro e' a1 w1 ⟨he, hq⟩
      subst he
      cases e with
      | normal => exact ⟨rfl, hq⟩
      | ret => exact ⟨rfl, hq⟩
      | exit id' =>
        simp only [toExit]
        by_cases hlt : id' < gno
        · rw [if_pos hlt]
          simp only [Exit.inBlock, outBlock]
          split
          · exact ⟨rfl, hq⟩
          · exact ⟨by simp only [toExit, if_pos hlt], hq⟩
        · rw [if_neg hlt]
          have hne : id' ≠ id := by omega
          simp only [Exit.inBlock, outBlock, if_neg hne]
          exact ⟨by simp only [toExit, if_neg hlt], hq⟩
    · injection hc with hc; subst hc
      intro ρ σ r hx; rw [exec_stuck] at hx; cases hx
  | .loop c, ac, hc, hrf => by
    refine ⟨?_, fun l rc h => by simp [findLabel] at h⟩
    simp only [compC] at hc
    obtain ⟨ax, hx', rfl⟩ := Option.map_eq_some_iff.1 hc
    have ih := (exec_sound2 hm hcall c ax hx' (hrf.imp (fun h => h) fun h => by simpa only [noRf] using h)).1
    intro ρ σ r hx g ow a w h1 h2 h3 h5
    simp only [exec] at hx
    obtain ⟨hl, harr⟩ := loop_at ih k ρ σ r hx g ow a w h1 h2 h3 h5
    refine ⟨hl, fun b fk cs hro _ _ => ?_⟩
    obtain ⟨e, a', w', hq, h6⟩ := harr b fk cs hro
    exact ⟨e, a', w', hq, .of_steps (.one calm_rnd stepR_loop) h6⟩
  | .scope c, ac, hc, hrf => by
    refine ⟨?_, fun l rc h => by simp [findLabel] at h⟩
    simp only [compC] at hc
    obtain ⟨ax, hx', rfl⟩ := Option.map_eq_some_iff.1 hc
    unfold scopeA at hrf ⊢
    split at hrf
    · rename_i l hl
      split at hrf
      · rename_i y hy
        rcases hrf with hr0 | hrf
        · have ih := exec_sound2 hm hcall c ax hx' (.inl hr0)
          subst hr0
          have hfl : ∃ rest, findLabel c l = some rest := by
            cases hf : findLabel c l with
            | some rest => exact ⟨rest, rfl⟩
            | none => rw [(findA_of c ax hx' l).2.1 hf] at hy; cases hy
          obtain ⟨rest, hf⟩ := hfl
          obtain ⟨y', hy', hrest⟩ := ih.2 l rest hf
          rw [hy] at hy'; injection hy' with hy'; subst hy'
          have hno : ∀ l', l' ≠ l → findLabel c l' = none := fun l' hne => by
            cases hf' : findLabel c l' with
            | none => rfl
            | some z =>
              have := (findA_of c ax hx' l').2.2 (by rw [hf']; simp)
              rw [hl] at this; simp at this; exact absurd this hne
          intro ρ σ r hx g ow a w h1 h2 h3 h5
          simp only [exec] at hx
          obtain ⟨r1, hr1, hx⟩ := Option.bind_eq_some_iff.1 hx
          obtain ⟨hl1, hwp⟩ := ih.1 _ _ _ hr1 g ow a w h1 h2 h3 h5
          have key := fun g1 ow1 a1 w1 (k1 : HR g1 ow1 r1.2.2 w1) k2 k3 => scope_at hf hno hrest k r1 r hx g1 ow1 a1 w1 k1 k2 k3 (by omega)
          refine ⟨?_, fun b fk cs hro _ _ => ?_⟩
          · obtain ⟨e, a1, w1, ⟨_, g1, ow1, _, k1, _, _, k3, k4⟩⟩ := wpIn_at hwp
            rw [← hl1]; exact (key g1 ow1 a1 w1 k3 (Nat.le_trans h2 k4.len) k1).1
          · obtain ⟨e, a1, w1, ⟨he, g1, ow1, Ds, k1, kd, kn, k3, k4⟩, harr⟩ := hwp b (.inScope c :: fk) cs hro trivial (room_rnd _ _)
            subst he
            have hro' : b.roundOf = none := hro
            have hs : StepsIn (Machine.fenced P (rnd none)) P (lone (b.atR a (.code (.scope c) :: fk)) cs w) (lone (b.atR a (.code c :: .inScope c :: fk)) cs w) :=
              .one calm_rnd (by rw [Frame.atR_of_none hro', Frame.atR_of_none hro']; exact step_scope)
            obtain ⟨e2, a2, w2, hq, harr3⟩ := (key g1 ow1 a1 w1 k3 (Nat.le_trans h2 k4.len) k1).2 _ b fk cs hro' (.of_steps hs harr)
            exact ⟨e2, a2, w2, hq.after k4 kd kn, harr3⟩
        · cases hrf
      · intro ρ σ r hx; rw [exec_stuck] at hx; cases hx
    · intro ρ σ r hx; rw [exec_stuck] at hx; cases hx
  | .rangeFunc f ps asg b, ac, hc, hrf => by
    refine ⟨?_, fun l rc h => by simp [findLabel] at h⟩
    simp only [compC] at hc
    obtain ⟨x, hz, rfl⟩ := Option.map_eq_some_iff.1 hc
    rcases hrf with rfl | hrf
    · exact rfn_sound hcall hz
    · cases hrf
  | .refuse _, _, hc, _ => by
    refine ⟨?_, fun l rc h => by simp [findLabel] at h⟩
    simp only [compC] at hc; injection hc with hc; subst hc
    intro ρ σ r hx; rw [exec_stuck] at hx; cases hx
theorem exec_sound (hm : P.follows .mixedOrders = true) (hcall : CallOK P call) (c : Code) (ac : ACode) (hc : compC P mt nt c = some ac) (hr : r0 = none ∨ noRf ac = true) : CodeOK P call k bs nt r0 c ac := (exec_sound2 hm hcall c ac hc hr).1
end
end Go.Mach
end
section
namespace Go.Mach
open Go.RowKit
section
variable {P : Program} {bs : Nat} {g : Gh} {ow : Nat → Option Nat} {σ σ1 : Heap} {w : World}
theorem closeT_sound : ∀ (xs : List AV) {g : Gh} {σ σ1 : Heap} {ys : List AV} {cs : List Value}, HR g ow σ w → VRs g xs cs → closeT σ xs = some (ys, σ1) →
    ∃ g1, ClOut bs g ow σ w σ1 g1 ∧ VRs g1 ys cs
  | [], g, σ, σ1, ys, cs, h, hx, hc => by
    simp only [closeT] at hc; injection hc with hc; injection hc with e1 e2; subst e1 e2
    exact ⟨g, .refl h, hx⟩
  | x :: xs, g, σ, σ1, ys, cs, h, hx, hc => by
    simp only [closeT] at hc
    obtain ⟨⟨y, σa⟩, h1, hc⟩ := Option.bind_eq_some_iff.1 hc
    obtain ⟨⟨ys', σb⟩, h2, e⟩ := Option.map_eq_some_iff.1 hc
    injection e with e1 e2; subst e1 e2
    obtain ⟨c, cs', rfl, hxc, hxs⟩ := hx.uncons
    obtain ⟨ga, ka, va⟩ := closeA_sound (bs := bs) h hxc h1
    obtain ⟨gb, kb, vb⟩ := closeT_sound xs ka.1 (hxs.mono ka.2.1.gle) h2
    exact ⟨gb, ka.trans kb, .cons (va.mono kb.2.1.gle) vb⟩
theorem closeR_sound (h : HR g ow σ w) {x y : AV} {c : Value} (hx : VR g x c) (hc : closeR σ x = some (y, σ1)) : ∃ g1, ClOut bs g ow σ w σ1 g1 ∧ VR g1 y c := by
  unfold closeR at hc
  split at hc
  · rename_i cs
    obtain ⟨⟨xs, σ2⟩, h1, e⟩ := Option.map_eq_some_iff.1 hc
    injection e with e1 e2; subst e1 e2
    cases hx with
    | @tup _ vs hl hV =>
      obtain ⟨g1, k1, v1⟩ := closeT_sound (bs := bs) cs (cs := vs.toList) h ⟨by simpa using hl, fun i x v hx hv => hV i x v hx (by simpa using hv)⟩ h1
      exact ⟨g1, k1, .tup (by have := v1.len; simpa using this) fun i x v hx hv => v1.val i x v hx (by simpa using hv)⟩
  · exact closeA_sound h hx hc
theorem refLt0_VR {n : Nat} {x : AV} {c : Value} (h : VR g x c) (hr : refLt0 n x = true) : VR (g.res n) x c := by
  cases h with
  | undef => exact .undef _
  | int k n => exact .int k n
  | bool b => exact .bool b
  | str s => exact .str s
  | nilptr => exact .nilptr
  | nilfunc => exact .nilfunc
  | nilmap => exact .nilmap
  | map hp => simp only [refLt0, decide_eq_true_eq] at hr; exact .map (by simp only [Gh.res]; rw [if_pos hr]; exact hp)
  | yld hp => simp only [refLt0, decide_eq_true_eq] at hr; exact .yld (by simp only [Gh.res]; rw [if_pos hr]; exact hp)
  | ptr hp => simp only [refLt0, decide_eq_true_eq] at hr; exact .ptr (by simp only [Gh.res]; rw [if_pos hr]; exact hp)
  | iptr vs hc hM hV => exact .iptr vs hc hM fun i x hx => (hV i x hx).closed (g := g) (g' := g.res n) (fun _ _ _ h => h) (hc x (List.mem_of_getElem? hx))
  | isl vs hc hs ha hcap hn hM hV => exact .isl vs hc hs ha hcap hn hM fun i x hx => (hV i x hx).closed (g := g) (g' := g.res n) (fun _ _ _ h => h) (flat_clo1 hc (List.mem_of_getElem? hx))
  | own vs hc hs hp hn hM hV =>
    simp only [refLt0, decide_eq_true_eq] at hr
    exact .own vs hc hs (by simp only [Gh.res]; rw [if_pos hr]; exact hp) hn hM fun i x hx => (hV i x hx).closed (g := g) (g' := g.res n) (fun _ _ _ h => h) (flat_clo1 hc (List.mem_of_getElem? hx))
  | sl hp hc hs hl => simp only [refLt0, decide_eq_true_eq] at hr; exact .sl (by simp only [Gh.res]; rw [if_pos hr]; exact hp) hc hs hl
  | func a b => simp [refLt0] at hr
  | meth a b => simp [refLt0] at hr
  | agg a b c => simp [refLt0] at hr
  | tup a b => simp [refLt0] at hr
theorem refLt1_VR {n : Nat} {x : AV} {c : Value} (h : VR g x c) (hr : refLt1 n x = true) : VR (g.res n) x c := by
  unfold refLt1 at hr
  split at hr
  · cases h with
    | func hl hV => exact .func hl fun i x v hx hv => refLt0_VR (hV i x v hx hv) (List.all_eq_true.1 hr x (List.mem_of_getElem? hx))
  · cases h with
    | meth hl hV => exact .meth hl fun i x v hx hv => refLt0_VR (hV i x v hx hv) (List.all_eq_true.1 hr x (List.mem_of_getElem? hx))
  · exact refLt0_VR h hr
theorem refLt2_VR {n : Nat} {x : AV} {c : Value} (h : VR g x c) (hr : refLt2 n x = true) : VR (g.res n) x c := by
  unfold refLt2 at hr
  split at hr
  · cases h with
    | agg hl hc hV => exact .agg hl hc fun i x v hx hv => refLt1_VR (hV i x v hx hv) (List.all_eq_true.1 hr x (List.mem_of_getElem? hx))
  · exact refLt1_VR h hr
theorem refLt_VR {n : Nat} {x : AV} {c : Value} (h : VR g x c) (hr : refLt n x = true) : VR (g.res n) x c := by
  unfold refLt at hr
  split at hr
  · cases h with
    | tup hl hV => exact .tup hl fun i x v hx hv => refLt2_VR (hV i x v hx hv) (List.all_eq_true.1 hr x (List.mem_of_getElem? hx))
  · exact refLt2_VR h hr
def compRes (P : Program) : ResultVar → Option ARes
  | .tmp t => some (.tmp t)
  | .cell a t => (sizeT P t).bind fun s => (aggT P t).map fun ag => .cell a s ag
def rfOf : Code → Option RCode
  | .rangeFunc _ ps asg b => some ⟨ps, asg, b⟩
  | .seq a b => (rfOf a).or (rfOf b)
  | .cond _ a b => (rfOf a).or (rfOf b)
  | .block _ b => rfOf b
  | .loop b => rfOf b
  | .scope b => rfOf b
  | _ => none
def rcOf (fn : Func) : RCode := (fn.body.bind rfOf).getD ⟨#[], .skip, .skip⟩
structure Pol where
  mt : Bool := false
  mtAt : List Nat := []
  mode : Mode := .pure
  clArgs : Bool := true
  clRes : Bool := true
def Pol.mtOf (p : Pol) (ops : Array Oper) : Bool := p.mt || (!p.mtAt.isEmpty && ops.any fun o => match o.dst with | some d => p.mtAt.contains d | none => false)
def compF (P : Program) (pol : Pol) (fn : Func) : Option AFunc :=
  if fn.name == "runtime.NumGoroutine" then none else
  fn.body.bind fun c => (compC P pol.mtOf fn.ntmps c).bind fun ac => (fn.results.toList.mapM (compRes P)).map fun rs => ⟨fn.ntmps, rs, ac, pol.mode, pol.clArgs, pol.clRes⟩
def resRun (tmps : Array Value) : ResultVar → Sem Value
  | .tmp t => pure (tmps.getD t undef)
  | .cell a t => do loadVar t (← asAddr (tmps.getD a undef))
theorem run_results (h : HR g ow σ w) {ρ : Regs} {a : Act} (hR : RR g ρ a.tmps) : ∀ (l : List ResultVar) (rs : List ARes) (vs : List AV), l.mapM (compRes P) = some rs → resA ρ σ rs = some vs →
    ∃ cs : List Value, (l.mapM (resRun a.tmps)).run P w = .ok cs w ∧ VRs g vs cs
  | [], rs, vs, hc, hv => by
    simp at hc; subst hc
    simp only [resA] at hv; injection hv with hv; subst hv
    exact ⟨[], by simp, rfl, fun i x c hx => by simp at hx⟩
  | r :: l, rs, vs, hc, hv => by
    rw [List.mapM_cons] at hc
    simp only [Option.bind_eq_bind, Option.bind_eq_some_iff, Option.pure_def] at hc
    obtain ⟨ar, har, rs', hrs, e⟩ := hc
    injection e with e; subst e
    have hhead : ∃ v vs' c, vs = v :: vs' ∧ resA ρ σ rs' = some vs' ∧ (resRun a.tmps r).run P w = .ok c w ∧ VR g v c := by
      cases r with
      | tmp t =>
        simp only [compRes] at har; injection har with har; subst har
        simp only [resA] at hv
        obtain ⟨vs', hvs, rfl⟩ := Option.map_eq_some_iff.1 hv
        exact ⟨_, vs', _, rfl, hvs, rfl, hR.val t⟩
      | cell x t =>
        simp only [compRes] at har
        obtain ⟨s, hs, har⟩ := Option.bind_eq_some_iff.1 har
        obtain ⟨ag, hag, rfl⟩ := Option.map_eq_some_iff.1 har
        simp only [resA] at hv
        obtain ⟨v, hl, hv⟩ := Option.bind_eq_some_iff.1 hv
        obtain ⟨vs', hvs, rfl⟩ := Option.map_eq_some_iff.1 hv
        obtain ⟨u, hu, hU⟩ := loadA_sound h hs hag (hR.val x) hl
        refine ⟨v, vs', u, rfl, hvs, ?_, hU⟩
        have hval := hR.val x
        simp only [resRun]
        revert hval hu hl
        generalize a.tmps.getD x undef = cv
        generalize ρ.getD x .undef = av
        intro hl hu hval
        cases hval <;> simp only [loadA] at hl <;> try (cases hl; done)
        · simpa [Instr.loadAt, Instr.sureAddr, asAddr] using hu
        · simpa [Instr.loadAt, Instr.sureAddr, asAddr] using hu
    obtain ⟨v, vs', c, rfl, hvs, hc, hV⟩ := hhead
    obtain ⟨cs, hr, hVs⟩ := run_results h hR l rs' vs' hrs hvs
    refine ⟨c :: cs, ?_, .cons hV hVs⟩
    rw [List.mapM_cons]
    simp only [Sem.run_bind, hc, Result.andThen_ok, hr, Sem.run_pure]
theorem results_eq (fn : Func) (tmps : Array Value) : results fn tmps = (fn.results.mapM (resRun tmps) >>= fun vs => pure (if h : vs.size = 1 then vs[0] else .tuple vs)) := rfl
theorem results_sound (h : HR g ow σ w) {ρ : Regs} {a : Act} (hR : RR g ρ a.tmps) {fn : Func} {rs : List ARes} {vs : List AV} (hc : fn.results.toList.mapM (compRes P) = some rs) (hv : resA ρ σ rs = some vs) :
    ∃ c, (results fn a.tmps).run P w = .ok c w ∧ VR g (res1 vs) c := by
  obtain ⟨cs, hr, hV⟩ := run_results h hR _ _ _ hc hv
  rw [results_eq, Array.mapM_eq_mapM_toList]
  refine ⟨if h : cs.toArray.size = 1 then cs.toArray[0] else .tuple cs.toArray, by simp [hr], ?_⟩
  match vs, cs, hV with
  | [], [], _ => exact .tup rfl fun i x v hx => by simp at hx
  | [v], [c], hV => exact hV.val 0 v c rfl rfl
  | x :: y :: l, c :: d :: l', hV => exact .tup (by have := hV.len; simpa [res1] using this) fun i x v hx hv => hV.val i x v hx (by simpa using hv)
  | [], _ :: _, hV => exact absurd hV.len (by simp)
  | _ :: _, [], hV => exact absurd hV.len (by simp)
  | [_], _ :: _ :: _, hV => exact absurd hV.len (by simp)
  | _ :: _ :: _, [_], hV => exact absurd hV.len (by simp)
def PrimOK (P : Program) (f : Nat) (p : List AV → Nat → Heap → Option (AV × Heap)) : Prop := ∀ args bs σ v σ', p args bs σ = some (v, σ') → bs ≤ σ.length → Enters P f ∧
  ∀ g ow w cargs, HR g ow σ w → Args g args cargs → Calls P f cargs w (CallPost bs g ow σ w v σ')
structure TabOK (P : Program) (T : Tab) : Prop where
  mixed : P.follows .mixedOrders = true
  fn : ∀ f af, T.fn f = some af → ∃ fn pol, P.funcs[f]? = some fn ∧ compF P pol fn = some af
  pr : ∀ f p, T.pr f = some p → PrimOK P f p
  yn : T.pr yno = none ∧ T.fn yno = none := by exact ⟨rfl, rfl⟩
  rd : ∀ rc nt a b, T.rd rc = some (nt, a, b) → ∃ mt, compC P mt nt rc.assign = some a ∧ compC P mt nt rc.body = some b ∧ noRf a = true ∧ noRf b = true := by intro rc nt a b h; cases h
theorem Args.VRs {args : List AV} {cargs : Array Value} (h : Args g args cargs) : VRs g args cargs.toList := ⟨by simpa using h.len, fun i x c hx hc => h.val i x c hx (by simpa using hc)⟩
theorem start_RR {args : List AV} {cargs : Array Value} (h : VRs g args cargs.toList) (n : Nat) : RR g (args ++ List.replicate (n - args.length) .undef) (cargs ++ Array.replicate (n - cargs.size) undef) := by
  have hl : args.length = cargs.size := by simpa using h.len
  refine ⟨by simp [hl], fun t => ?_⟩
  simp only [List.getD_eq_getElem?_getD, Array.getD_eq_getD_getElem?]
  rcases Nat.lt_or_ge t args.length with ht | ht
  · rw [List.getElem?_append_left ht, Array.getElem?_append_left (by omega)]
    have h1 : args[t]? = some args[t] := List.getElem?_eq_getElem ht
    have h2 : cargs[t]? = some (cargs[t]'(by omega)) := Array.getElem?_eq_getElem (by omega)
    rw [h1, h2]
    exact h.val t _ _ h1 (by simp)
  · rw [List.getElem?_append_right ht, Array.getElem?_append_right (by omega), List.getElem?_replicate, Array.getElem?_replicate]
    split <;> (split <;> exact .undef _)
theorem cloC_VR {g g' : Gh} (hg : ∀ b i v, g.M b i = some v → g'.M b i = some v) {x : AV} {v : Value} (h : VR g x v) (hd : x.cloC = true) : VR g' x v := by
  unfold AV.cloC at hd
  split at hd
  · cases h with
    | iptr vs hc hM hV => exact .iptr vs hc (fun i x hx => hg _ _ _ (hM i x hx)) fun i x hx => (hV i x hx).closed hg (hc x (List.mem_of_getElem? hx))
  · exact h.closed hg hd
theorem dat1_VR {g g' : Gh} (hg : ∀ b i v, g.M b i = some v → g'.M b i = some v) {x : AV} {v : Value} (h : VR g x v) (hd : x.dat1 = true) : VR g' x v := by
  cases h with
  | agg hl hc hV => simp [AV.dat1, AV.clo1] at hd
  | func hl hV => exact .func hl fun i y u hy hu => cloC_VR hg (hV i y u hy hu) (List.all_eq_true.1 hd y (List.mem_of_getElem? hy))
  | meth hl hV => exact .meth hl fun i y u hy hu => cloC_VR hg (hV i y u hy hu) (List.all_eq_true.1 hd y (List.mem_of_getElem? hy))
  | undef => simp [AV.dat1, AV.clo1] at hd
  | int k n => exact .int k n
  | bool b => exact .bool b
  | str s => exact .str s
  | nilptr => exact .nilptr
  | nilfunc => exact .nilfunc
  | nilmap => exact .nilmap
  | map hp => simp [AV.dat1, AV.clo1] at hd
  | yld hp => simp [AV.dat1, AV.clo1] at hd
  | ptr hp => simp [AV.dat1, AV.clo1] at hd
  | iptr vs a b c => exact cloC_VR hg (.iptr vs a b c) hd
  | isl vs a b c d e f k => exact VR.closed hg (.isl vs a b c d e f k) hd
  | own vs a b c d e f => simp [AV.dat1, AV.clo1] at hd
  | sl a b c d => simp [AV.dat1, AV.clo1] at hd
  | tup a b => simp [AV.dat1, AV.clo1] at hd
theorem dat_VR {g g' : Gh} (hg : ∀ b i v, g.M b i = some v → g'.M b i = some v) {x : AV} {v : Value} (h : VR g x v) (hd : x.dat = true) : VR g' x v := by
  unfold AV.dat at hd
  split at hd
  · cases h with
    | agg hl hc hV => exact .agg hl hc fun i y u hy hu => dat1_VR hg (hV i y u hy hu) (List.all_eq_true.1 hd y (List.mem_of_getElem? hy))
  · exact dat1_VR hg h hd
theorem datR_VR {g g' : Gh} (hg : ∀ b i v, g.M b i = some v → g'.M b i = some v) {x : AV} {v : Value} (h : VR g x v) (hd : x.datR = true) : VR g' x v := by
  unfold AV.datR at hd
  split at hd
  · cases h with
    | tup hl hV => exact .tup hl fun i y u hy hu => dat_VR hg (hV i y u hy hu) (List.all_eq_true.1 hd y (List.mem_of_getElem? hy))
  · exact dat_VR hg h hd
theorem HR.bare (h : HR g ow σ w) : HR (g.res 0) (fun _ => none) [] w :=
  ⟨h.mem, fun id x hx => by simp [Gh.res] at hx, fun id n x hx => by simp [Gh.res] at hx, fun id cs fz ext hσ => by simp at hσ, fun id n s hσ => by simp at hσ, fun id n s hσ => by simp at hσ, fun id s pos hσ => by simp at hσ, fun id o hsp hσ => by simp at hσ, fun p hp => ⟨(h.pin p hp).1, rfl⟩⟩
theorem HR.back {g' : Gh} {ow' : Nat → Option Nat} {σ' : Heap} {w' : World} (h : HR g ow σ w) (s : St 0 (g.res 0) (fun _ => none) [] w g' ow' σ' w') (h' : HR g' ow' σ' w') :
    HR ⟨g.φ, g.ψ, g'.M⟩ ow σ w' ∧ St bs g ow σ w ⟨g.φ, g.ψ, g'.M⟩ ow σ w' := by
  have hle : g.le ⟨g.φ, g.ψ, g'.M⟩ := ⟨fun _ _ h => h, fun _ _ _ h => h, fun b i v hm => s.gle.M b i v hm⟩
  have hheap : ∀ b, b < w.heap.size → w'.heap[b]? = w.heap[b]? := fun b hb => (s.frame b hb rfl).1
  have hM : ∀ b, b < w.heap.size → ∀ i, g'.M b i = g.M b i := fun b hb i => s.frM b hb rfl i
  refine ⟨⟨h'.mem, fun id x hx => ⟨(h.dom id x hx).1, Nat.lt_of_lt_of_le (h.dom id x hx).2 s.size⟩, h.domψ, ?_, ?_, h.tle, ?_, ?_, h.pin.of fun b hb ho => ⟨hheap b hb, ho⟩⟩, ?_⟩
  · intro id cs fz ext hσ b c hp
    have hb := (h.dom id _ hp).2
    obtain ⟨cv, tag, fr, k0, k1, k2, k3, k4, k5, k6⟩ := h.cel id cs fz ext hσ b c hp
    refine ⟨cv, tag, fr, (hheap b hb).trans k0, k1, k2, k3, fun i x hx => ?_, k5, fun i h1 => ?_⟩
    · obtain ⟨a, v, b', c'⟩ := k4 i x hx; exact ⟨a, v, b', c'.mono hle⟩
    · have := k6 i h1; exact ⟨(hM b hb i).trans this.1, this.2⟩
  · intro id n s' hσ b p c hp
    obtain ⟨cv, tag, fr, k0, k1, k2, k3, k4⟩ := h.tk id n s' hσ b p c hp
    have hb : b < w.heap.size := (Array.getElem?_eq_some_iff.1 k0).1
    exact ⟨cv, tag, fr, (hheap b hb).trans k0, k1, k2, k3, fun i hi => ⟨(hM b hb i).trans (k4 i hi).1, (k4 i hi).2⟩⟩
  · intro id s' pos hσ b c hp
    obtain ⟨k0, k1⟩ := h.it id s' pos hσ b c hp
    exact ⟨(hheap b (h.dom id _ hp).2).trans k0, k1⟩
  · intro id o hsp hσ b c hp
    exact (h.bd id o hsp hσ b c hp).keep (Gh.res_mono hle _) fun b' ho hb' => ⟨hheap b' hb', ho, fun i hi => (hM b' hb' i).trans hi⟩
  · refine ⟨hle, s.os, s.tape, s.output, s.size, fun b hb ho => ⟨hheap b hb, ho⟩, Nat.le_refl _, fun _ _ hh => hh, fun b hb _ i => hM b hb i, fun id _ hl cs fz ext hσ => ⟨cs, fz, ext, hσ, fun i x hx => .inr ⟨hx, fun b c hp => cell_congr (hheap b (h.dom id _ hp).2) i⟩⟩⟩
theorem HR.more {w' : World} (h : HR g ow σ w) (hs : w.heap.size ≤ w'.heap.size) (hheap : ∀ b, b < w.heap.size → w'.heap[b]? = w.heap[b]?) (ho : w'.os = w.os) (ht : w'.tape = w.tape) (hu : w'.output = w.output) :
    HR g ow σ w' ∧ St bs g ow σ w g ow σ w' := by
  refine ⟨⟨fun b i v hm => (cell_congr (hheap b (h.lt hm)) i).trans (h.mem b i v hm), fun id x hx => ⟨(h.dom id x hx).1, Nat.lt_of_lt_of_le (h.dom id x hx).2 hs⟩, h.domψ, ?_, ?_, h.tle, ?_, ?_, h.pin.of fun b hb ho => ⟨hheap b hb, ho⟩⟩, ?_⟩
  · intro id cs fz ext hσ b c hp
    have hb := (h.dom id _ hp).2
    obtain ⟨cv, tag, fr, k0, k1⟩ := h.cel id cs fz ext hσ b c hp
    exact ⟨cv, tag, fr, (hheap b hb).trans k0, k1⟩
  · intro id n s' hσ b p c hp
    obtain ⟨cv, tag, fr, k0, k1⟩ := h.tk id n s' hσ b p c hp
    have hb : b < w.heap.size := (Array.getElem?_eq_some_iff.1 k0).1
    exact ⟨cv, tag, fr, (hheap b hb).trans k0, k1⟩
  · intro id s' pos hσ b c hp
    obtain ⟨k0, k1⟩ := h.it id s' pos hσ b c hp
    exact ⟨(hheap b (h.dom id _ hp).2).trans k0, k1⟩
  · intro id o hsp hσ b c hp
    exact (h.bd id o hsp hσ b c hp).keep (.refl _) fun b' ho hb' => ⟨hheap b' hb', ho, fun i hi => hi⟩
  · exact ⟨.refl g, ho, ht, hu, hs, fun b hb ho => ⟨hheap b hb, ho⟩, Nat.le_refl _, fun _ _ hh => hh, fun _ _ _ _ => rfl, fun id _ hl cs fz ext hσ => ⟨cs, fz, ext, hσ, fun i x hx => .inr ⟨hx, fun b c hp => cell_congr (hheap b (h.dom id _ hp).2) i⟩⟩⟩
theorem scal1_VR {g' : Gh} {x : AV} {v : Value} (h : VR g x v) (hd : x.scal1 = true) : VR g' x v := by
  cases h <;> first | (cases hd; done) | constructor
theorem scal_VR {g' : Gh} {x : AV} {v : Value} (h : VR g x v) (hd : x.scal = true) : VR g' x v := by
  unfold AV.scal at hd
  split at hd
  · cases h with
    | tup hl hV => exact .tup hl fun i y u hy hu => scal1_VR (hV i y u hy hu) (List.all_eq_true.1 hd y (List.mem_of_getElem? hy))
  · exact scal1_VR h hd
theorem HR.put0 {D : Nat} {x : Option (List Deferred)} {o' : Obj} (h : HR g ow σ w) (ho : ow D = none) (hD : w.heap[D]? = some (.deferred x)) : HR g ow σ (w.putObj D o') := by
  have hoth : ∀ b, b ≠ D → (w.putObj D o').heap[b]? = w.heap[b]? := fun b hb => World.putObj_heap_other hb
  have hown : ∀ b id, ow b = some id → b ≠ D := fun b id hb e => by subst e; rw [ho] at hb; cases hb
  have hcell : ∀ b cv t fr, w.heap[b]? = some (.cells cv t fr) → b ≠ D := fun b cv t fr hb e => by subst e; rw [hD] at hb; cases hb
  refine ⟨fun b i v hm => ?_, fun id x hx => ⟨(h.dom id x hx).1, by simpa using (h.dom id x hx).2⟩, h.domψ, ?_, ?_, h.tle, ?_, ?_, fun p hp => ?_⟩
  · have hc := h.mem b i v hm
    have hb : b ≠ D := fun e => by
      subst e
      simp only [World.cell?, hD] at hc
      simp at hc
    exact (cell_congr (hoth b hb) i).trans hc
  · intro id cs fz ext hσ b c hp
    obtain ⟨cv, tag, fr, k0, k1⟩ := h.cel id cs fz ext hσ b c hp
    exact ⟨cv, tag, fr, (hoth b (hcell b _ _ _ k0)).trans k0, k1⟩
  · intro id n s' hσ b p c hp
    obtain ⟨cv, tag, fr, k0, k1⟩ := h.tk id n s' hσ b p c hp
    exact ⟨cv, tag, fr, (hoth b (hcell b _ _ _ k0)).trans k0, k1⟩
  · intro id s' pos hσ b c hp
    obtain ⟨k0, k1⟩ := h.it id s' pos hσ b c hp
    exact ⟨(hoth b (hown b _ k1)).trans k0, k1⟩
  · intro id o2 hsp hσ b c hp
    exact (h.bd id o2 hsp hσ b c hp).keep (.refl _) fun b' hb' _ => ⟨hoth b' (hown b' _ hb'), hb', fun i hi => hi⟩
  · obtain ⟨⟨t, fr, h1⟩, h2⟩ := h.pin p hp
    exact ⟨⟨t, fr, (hoth _ (hcell _ _ _ _ h1)).trans h1⟩, h2⟩
theorem St.put0 {D : Nat} {o' : Obj} {g' : Gh} {ow' : Nat → Option Nat} {σ' : Heap} {w' : World} (s : St bs g ow σ w g' ow' σ' w') (h : HR g ow σ w) (hD : w.heap.size ≤ D) : St bs g ow σ w g' ow' σ' (w'.putObj D o') := by
  have hoth : ∀ b, b < w.heap.size → (w'.putObj D o').heap[b]? = w'.heap[b]? := fun b hb => World.putObj_heap_other (by omega)
  refine ⟨s.gle, s.os, s.tape, s.output, by simpa using s.size, fun b hb ho => ⟨(hoth b hb).trans (s.frame b hb ho).1, (s.frame b hb ho).2⟩, s.len, s.nonew, s.frM, fun id hi hl cs' fz' ext' hσ => ?_⟩
  obtain ⟨cs, fz, ext, h1, h2⟩ := s.disc id hi hl cs' fz' ext' hσ
  refine ⟨cs, fz, ext, h1, fun i x hx => (h2 i x hx).imp (fun h => h) fun hh => ⟨hh.1, fun b c hp => ?_⟩⟩
  exact (cell_congr (hoth b (h.dom id _ hp).2) i).trans (hh.2 b c hp)
def shut : List Nat → World → World
  | [], w => w
  | D :: Ds, w => shut Ds (w.putObj D (.deferred none))
theorem HR.shut {g0 : Gh} {ow0 : Nat → Option Nat} {σ0 : Heap} {w0 : World} (h0 : HR g0 ow0 σ0 w0) : ∀ (Ds : List Nat) {w : World}, NewD w0.heap.size ow w Ds → HR g ow σ w → St bs g0 ow0 σ0 w0 g ow σ w → HR g ow σ (shut Ds w) ∧ St bs g0 ow0 σ0 w0 g ow σ (shut Ds w)
  | [], w, _, h, s => ⟨h, s⟩
  | D :: Ds, w, n, h, s => by
    obtain ⟨n1, n2, n3⟩ := n.pt D (by simp)
    refine HR.shut h0 Ds ⟨(List.nodup_cons.1 n.nd).2, fun D' hD' => ?_⟩ (h.put0 n2 n3) (s.put0 h0 n1)
    obtain ⟨m1, m2, m3⟩ := n.pt D' (by simp [hD'])
    have hne : D' ≠ D := fun e => (List.nodup_cons.1 n.nd).1 (by rw [← e]; exact hD')
    exact ⟨m1, m2, (World.putObj_heap_other hne).trans m3⟩
theorem leaves_all {fn : Func} {tmps : Array Value} {R : Ending → World → Prop} : ∀ (Ds : List Nat) (w : World), Ds.Nodup → (∀ D ∈ Ds, w.heap[D]? = some (.deferred (some []))) → (∃ v, (results fn tmps).run P (shut Ds w) = .ok v (shut Ds w) ∧ R (.returned v) (shut Ds w)) →
    LeavesInM Fence.wide 0 P fn tmps R (Ds.map mkD) .returning w
  | [], w, _, _, h => by simpa only [List.map_nil, LeavesInM, LeavesIn, shut] using h
  | D :: Ds, w, nd, hD, h => by
    simp only [List.map_cons, LeavesInM]
    refine ⟨by simp, .inl ⟨D, _, rfl, run_takeDeferred (hD D (by simp)), leaves_all Ds _ (List.nodup_cons.1 nd).2 (fun D' hD' => ?_) h⟩⟩
    have hne : D' ≠ D := fun e => (List.nodup_cons.1 nd).1 (by rw [← e]; exact hD')
    exact (World.putObj_heap_other hne).trans (hD D' (by simp [hD']))
theorem calls_end {f : Nat} {fn : Func} {c : Code} {args : Array Value} {R : Ending → World → Prop} (hf : P.funcs[f]? = some fn) (hb : fn.body = some c)
    (h : c.wpIn (rnd none) 0 P (bodyPostM Fence.wide 0 P fn R) { tmps := args ++ Array.replicate (fn.ntmps - args.size) undef, defers := [] } w) : Calls P f args w R :=
  callsIn_wide.1 (callsIn_of_wp_marks (F := Fence.wide) (n := 0) hf hb trivial h)
theorem putAll_RR : ∀ (ps : List Nat) (xs : List AV) (cs : List Value) {tm : Regs} {tmps : Array Value}, VRs g xs cs → RR g tm tmps → RR g (putAll ps xs tm) ((ps.zip cs).foldl (fun tmps p => tmps.setIfInBounds p.1 p.2) tmps)
  | [], xs, cs, tm, tmps, _, h => by simpa [putAll] using h
  | p :: ps, xs, cs, tm, tmps, hx, h => by
    cases xs with
    | nil => rw [hx.nil_left]; simpa [putAll] using h
    | cons x xs =>
      obtain ⟨c, cs', rfl, h1, h2⟩ := hx.uncons
      have := putAll_RR ps xs cs' h2 (h.set p h1)
      simpa [putAll] using this
theorem putAll_len : ∀ (ps : List Nat) (xs : List AV) (tm : Regs), (putAll ps xs tm).length = tm.length
  | [], xs, tm => rfl
  | p :: ps, [], tm => by simp [putAll]
  | p :: ps, x :: xs, tm => by
    have := putAll_len ps xs (tm.set p x)
    simpa [putAll] using this
theorem round_sound {T : Tab} (hT : TabOK P T) {call : CallF} {k : Nat} (ih : CallOK P call) {id : Nat} {args : List AV} {v : AV} {σ' : Heap} (hx : roundA T.rd (exec call k bs) (.yld id :: args) σ = some (v, σ')) (hbs : bs ≤ σ.length)
    (h : HR g ow σ w) {l c : Nat} (hp : g.φ id = some (l, c)) {cargs : Array Value} (hA : Args g args cargs) :
    ∃ fn tmps assign body, (Instr.yield l cargs).run P w = .ok (.round l fn tmps assign body) w ∧ RoundIn Fence.wide 0 P l fn tmps assign body w (CallPost bs g ow σ w v σ') := by
  simp only [roundA] at hx
  split at hx
  · rename_i rc tm st pd hσ
    obtain ⟨⟨nt, a, b⟩, hrd, hx⟩ := Option.bind_eq_some_iff.1 hx
    simp only at hx
    split at hx
    · rename_i hcd
      obtain ⟨⟨e1, ρ1, σ1⟩, hex1, hx⟩ := Option.bind_eq_some_iff.1 hx
      unfold bodyA at hx
      split at hx
      · rename_i ρ1' σ1' e0
        injection e0 with e0 e0'; injection e0' with e0' e0''; subst e0 e0' e0''
        obtain ⟨σ2, hbeg, hx⟩ := Option.bind_eq_some_iff.1 hx
        obtain ⟨⟨e3, ρ3, σ3⟩, hex3, hend⟩ := Option.bind_eq_some_iff.1 hx
        obtain ⟨mt, hca, hcb, hna, hnb⟩ := hT.rd rc nt a b hrd
        obtain ⟨rec, k1, ⟨k2, k3, k4, _, _⟩, kR, _⟩ := h.lpTo (bs := bs) hp hσ
        refine ⟨_, _, _, _, run_yield (P := P) k1 (by rw [k2, ← hcd.1]; exact hA.len.symm), roundIn_of_wpIn trivial ?_⟩
        rw [k3, k4]
        have hR0 : RR g (putAll rc.params.toList args tm) ((rec.params.zip cargs).foldl (fun tmps (t, a) => tmps.setIfInBounds t a) rec.tmps) := by
          have := putAll_RR rc.params.toList args cargs.toList hA.VRs ⟨kR.len, fun t => (kR.val t).mono (Gh.res_le _ _)⟩
          rw [k2, ← Array.foldl_toList, Array.toList_zip]
          exact this
        obtain ⟨l1, hwp1⟩ := exec_sound (r0 := some l) (k := k) (bs := bs) hT.mixed ih _ _ hca (.inr hna) _ _ _ hex1 g ow { tmps := (rec.params.zip cargs).foldl (fun tmps (t, a) => tmps.setIfInBounds t a) rec.tmps, defers := [] } w h hbs hR0 (by rw [putAll_len]; exact hcd.2)
        rw [putAll_len] at l1
        refine wpIn_mono hwp1 ?_
        rintro e a1 w1 ⟨he, g1, ow1, Ds1, kR1, _, _, kH1, kS1⟩
        simp only [toExit] at he; subst he
        unfold begLp at hbeg
        split at hbeg
        · rename_i rc1 tm1 pd1 hσ1
          injection hbeg with hbeg; subst hbeg
          have hp1 := kS1.gle.φ _ _ hp
          simp only at kR1 kH1 kS1 l1
          obtain ⟨rec1, m1, ⟨_, _, _, m5, _⟩, _, mto⟩ := kH1.lpTo (bs := bs) hp1 hσ1
          obtain ⟨kH2, kS2⟩ := mto .busy pd1
          have hw2 : w1.putObj l (.loop { rec1 with state := .busy }) = w1.putObj l (.loop { rec1 with state := .busy, pending := pd1 }) := by
            obtain ⟨rec1', n1, ⟨_, _, _, _, n6⟩, _⟩ := kH1.lpTo (bs := bs) hp1 hσ1
            rw [m1] at n1; injection n1 with n1; injection n1 with n1; subst n1
            rw [← n6]
          have hbr := run_beginRound (P := P) m1 m5
          rw [hw2] at hbr
          refine ⟨_, hbr, ?_⟩
          obtain ⟨_, hwp3⟩ := exec_sound (r0 := some l) (k := k) (bs := bs) hT.mixed ih _ _ hcb (.inr hnb) _ _ _ hex3 g1 ow1 a1 _ kH2 (by simpa using Nat.le_trans hbs kS1.len) kR1 (by omega)
          refine wpIn_mono hwp3 ?_
          rintro e a3 w3 ⟨he, g3, ow3, Ds3, kR3, _, _, kH3, kS3⟩
          subst he
          simp only at kH3 kS3
          have hp3 := kS3.gle.φ _ _ hp1
          unfold endRd at hend
          simp only at hend
          split at hend
          · rename_i rc3 tm3 st3 pd3 hσ3
            obtain ⟨rec3, n1, _, _, nto⟩ := kH3.lpTo (bs := bs) hp3 hσ3
            have hall := (kS1.trans kS2).trans kS3
            cases e3 with
            | normal =>
              injection hend with hend; injection hend with e1 e2; subst e1 e2
              obtain ⟨hH4, hS4⟩ := nto .ready none
              have := run_endRound (P := P) none n1
              exact ⟨_, _, this, _, g3, ow3, rfl, .bool _, hH4, hall.trans hS4⟩
            | ret =>
              injection hend with hend; injection hend with e1 e2; subst e1 e2
              obtain ⟨hH4, hS4⟩ := nto .done (some .ret)
              have := run_endRound (P := P) (some .ret) n1
              exact ⟨_, _, this, _, g3, ow3, rfl, .bool _, hH4, hall.trans hS4⟩
            | exit i =>
              simp only at hend
              split at hend
              · rename_i hi
                injection hend with hend; injection hend with e1 e2; subst e1 e2
                obtain ⟨hH4, hS4⟩ := nto .done (some (.exit i))
                have := run_endRound (P := P) (some (.exit i)) n1
                simp only [toExit, if_pos hi]
                exact ⟨_, _, this, _, g3, ow3, rfl, .bool _, hH4, hall.trans hS4⟩
              · cases hend
          · cases hend
        · cases hbeg
      · cases hx
    · cases hx
  · cases hx
theorem eval_sound {T : Tab} (hT : TabOK P T) : ∀ k, CallOK P (evalFn T k)
  | 0 => ⟨fun f args bs σ v σ' _ hx => by simp [evalFn] at hx, fun id args bs σ v σ' hx => by simp [evalFn] at hx⟩
  | k + 1 => by
    have ih := eval_sound hT k
    refine ⟨fun f args bs σ v σ' hne hx hbs => ?_, fun id args bs σ v σ' hx hbs g ow w cargs l c hH hp hA => ?_⟩
    rotate_left
    · simp only [evalFn, hT.yn.1, hT.yn.2, if_true] at hx
      exact round_sound hT ih hx hbs hH hp hA
    simp only [evalFn] at hx
    split at hx
    · rename_i p hp
      exact hT.pr f p hp args bs σ v σ' hx hbs
    split at hx
    · rw [if_neg hne] at hx; cases hx
    · rename_i af haf
      obtain ⟨fn, pol, hfn, hcf⟩ := hT.fn f af haf
      unfold compF at hcf
      split at hcf
      · cases hcf
      · rename_i hname
        obtain ⟨c, hbody, hcf⟩ := Option.bind_eq_some_iff.1 hcf
        obtain ⟨ac, hac, hcf⟩ := Option.bind_eq_some_iff.1 hcf
        obtain ⟨rs, hrs, rfl⟩ := Option.map_eq_some_iff.1 hcf
        refine ⟨⟨fn, hfn, by rw [hbody]; rfl, by simpa using hname⟩, fun g ow w cargs hH hA => calls_end hfn hbody ?_⟩
        split at hx
        · 
          obtain ⟨⟨args', σa⟩, hcl, hx⟩ := Option.bind_eq_some_iff.1 hx
          simp only at hx
          split at hx
          · rename_i hdat
            obtain ⟨u, hx', e⟩ := Option.map_eq_some_iff.1 hx
            injection e with e1 e2; subst e1 e2
            obtain ⟨⟨e, ρ, σb⟩, hex, hfin⟩ := Option.bind_eq_some_iff.1 hx'
            obtain ⟨ga, ⟨hHa, hSa, hla⟩, hVa⟩ := closeT_sound (bs := bs) args hH hA.VRs hcl
            have hV0 : VRs (ga.res 0) args' cargs.toList := ⟨hVa.len, fun i x c hx hc => dat_VR (g := ga) (g' := ga.res 0) (fun _ _ _ h => h) (hVa.val i x c hx hc) (List.all_eq_true.1 hdat x (List.mem_of_getElem? hx))⟩
            have hwp := (exec_sound (P := P) (r0 := none) (mt := pol.mtOf) (nt := fn.ntmps) hT.mixed ih c ac hac (.inl rfl) _ _ _ hex (ga.res 0) (fun _ => none)
              { tmps := cargs ++ Array.replicate (fn.ntmps - cargs.size) undef, defers := [] } w hHa.bare (Nat.le_refl 0) (start_RR hV0 _) (by simp only [startA, List.length_append, List.length_replicate]; omega)).2
            refine wpIn_mono hwp ?_
            rintro ex a' w1 ⟨he, g', ow', Ds, hR', hd', hD', hH1, hS1⟩
            simp only at he hR' hH1 hS1
            obtain ⟨hH', hS'⟩ := HR.shut hHa.bare Ds hD' hH1 hS1
            obtain ⟨w', hw'⟩ : ∃ w', shut Ds w1 = w' := ⟨_, rfl⟩
            rw [hw'] at hH' hS'
            have hgo : ∀ {e'}, finP ⟨fn.ntmps, rs, ac, pol.mode, pol.clArgs, pol.clRes⟩ (e', ρ, σb) = some u → (∀ id, e' ≠ .exit id) →
                ∃ cv, (results fn a'.tmps).run P w' = .ok cv w' ∧ CallPost bs g ow σ w u (if u.scal = true then σ else σa) (.returned cv) w' := by
              intro e' hf hne
              have hf' : ((resA ρ σb rs).bind fun vs => (closeR σb (res1 vs)).bind fun x => if x.1.datR = true then some x.1 else none) = some u := by
                cases e' with
                | exit id => exact absurd rfl (hne id)
                | normal => exact hf
                | ret => exact hf
              obtain ⟨vs, hvs, hf'⟩ := Option.bind_eq_some_iff.1 hf'
              obtain ⟨⟨u', σc⟩, hcr, hdr⟩ := Option.bind_eq_some_iff.1 hf'
              simp only at hdr
              split at hdr
              · rename_i hdu
                injection hdr with hdr; subst hdr
                obtain ⟨cv, hrun, hV⟩ := results_sound hH' hR' hrs hvs
                obtain ⟨gc, ⟨hHc, hSc, hlc⟩, hVc⟩ := closeR_sound (bs := 0) hH' hV hcr
                by_cases hsc : u'.scal = true
                · have hS2 := hS'.trans hSc
                  obtain ⟨hB, hSB⟩ := hH.more (bs := bs) (w' := w') hS2.size (fun b hb => (hS2.frame b hb rfl).1) hS2.os hS2.tape hS2.output
                  rw [if_pos hsc]
                  exact ⟨cv, hrun, cv, g, ow, rfl, scal_VR hVc hsc, hB, hSB⟩
                rw [if_neg hsc]
                obtain ⟨hB, hSB⟩ := HR.back (bs := bs) hHa (hS'.trans hSc) hHc
                exact ⟨cv, hrun, cv, _, ow, rfl, datR_VR (g := gc) (g' := ⟨ga.φ, ga.ψ, gc.M⟩) (fun _ _ _ h => h) hVc hdu, hB, hSa.trans hSB⟩
              · cases hdr
            cases e with
            | exit id => simp [finP] at hfin
            | normal =>
              simp only [toExit] at he; subst he
              obtain ⟨cv, hc1, hc2⟩ := hgo hfin (fun id h => by cases h)
              simp only [List.append_nil] at hd'
              show LeavesInM Fence.wide 0 P fn a'.tmps _ a'.defers .returning w1
              rw [hd']
              exact leaves_all Ds w1 hD'.nd (fun D hD => (hD'.pt D hD).2.2) ⟨cv, by rw [hw']; exact hc1, by rw [hw']; exact hc2⟩
            | ret =>
              simp only [toExit] at he; subst he
              obtain ⟨cv, hc1, hc2⟩ := hgo hfin (fun id h => by cases h)
              simp only [List.append_nil] at hd'
              show LeavesInM Fence.wide 0 P fn a'.tmps _ a'.defers .returning w1
              rw [hd']
              exact leaves_all Ds w1 hD'.nd (fun D hD => (hD'.pt D hD).2.2) ⟨cv, by rw [hw']; exact hc1, by rw [hw']; exact hc2⟩
          · cases hx
        · rename_i hmode
          obtain ⟨⟨args', σa⟩, hcl, hx⟩ := Option.bind_eq_some_iff.1 hx
          obtain ⟨⟨e, ρ, σb⟩, hex, hfin⟩ := Option.bind_eq_some_iff.1 hx
          simp only at hcl hex hfin
          have hca : ∃ ga, ClOut bs g ow σ w σa ga ∧ VRs ga args' cargs.toList := by
            unfold closeArgs at hcl
            split at hcl
            · exact closeT_sound args hH hA.VRs hcl
            · injection hcl with hcl; injection hcl with e1 e2; subst e1 e2; exact ⟨g, .refl hH, hA.VRs⟩
          obtain ⟨ga, ⟨hHa, hSa, hla⟩, hVa⟩ := hca
          have hb : baseA ⟨fn.ntmps, rs, ac, pol.mode, pol.clArgs, pol.clRes⟩ bs σa.length ≤ σa.length := by
            unfold baseA; split
            · omega
            · exact Nat.le_refl _
          have hwp := (exec_sound (P := P) (r0 := none) (mt := pol.mtOf) (nt := fn.ntmps) hT.mixed ih c ac hac (.inl rfl) _ _ _ hex ga ow
            { tmps := cargs ++ Array.replicate (fn.ntmps - cargs.size) undef, defers := [] } w hHa hb (start_RR hVa _) (by simp only [startA, List.length_append, List.length_replicate]; omega)).2
          refine wpIn_mono hwp ?_
          rintro ex a' w1 ⟨he, g', ow', Ds, hR', hd', hD', hH1, hS1⟩
          simp only at he hR' hH1 hS1
          obtain ⟨hH', hS'⟩ := HR.shut hHa Ds hD' hH1 hS1
          obtain ⟨w', hw'⟩ : ∃ w', shut Ds w1 = w' := ⟨_, rfl⟩
          rw [hw'] at hH' hS'
          have hgo : ∀ {e'}, finA ⟨fn.ntmps, rs, ac, pol.mode, pol.clArgs, pol.clRes⟩ σa.length (e', ρ, σb) = some (v, σ') → (∀ id, e' ≠ .exit id) →
              ∃ cv, (results fn a'.tmps).run P w' = .ok cv w' ∧ CallPost bs g ow σ w v σ' (.returned cv) w' := by
            intro e' hf hne
            have hf' : ((resA ρ σb rs).bind fun vs => (closeRes pol.clRes σb (res1 vs)).bind (dropA pol.mode σa.length)) = some (v, σ') := by
              cases e' with
              | exit id => exact absurd rfl (hne id)
              | normal => exact hf
              | ret => exact hf
            obtain ⟨vs, hvs, hf'⟩ := Option.bind_eq_some_iff.1 hf'
            obtain ⟨⟨u, σc⟩, hcr, hdr⟩ := Option.bind_eq_some_iff.1 hf'
            obtain ⟨cv, hrun, hV⟩ := results_sound hH' hR' hrs hvs
            refine ⟨cv, hrun, ?_⟩
            have hcc : ∃ gc, ClOut (baseA ⟨fn.ntmps, rs, ac, pol.mode, pol.clArgs, pol.clRes⟩ bs σa.length) g' ow' σb w' σc gc ∧ VR gc u cv := by
              unfold closeRes at hcr
              split at hcr
              · exact closeR_sound hH' hV hcr
              · injection hcr with hcr; injection hcr with e1 e2; subst e1 e2; exact ⟨g', .refl hH', hV⟩
            obtain ⟨gc, ⟨hHc, hSc, hlc⟩, hVc⟩ := hcc
            have hS2 := hS'.trans hSc
            have hdrop : pol.mode ≠ .raw → dropA pol.mode σa.length (u, σc) = (if refLt σa.length u = true then some (u, σc.take σa.length) else none) := fun h => by
              unfold dropA; split
              · rename_i e; exact absurd e h
              · rfl
            by_cases hm : pol.mode = .raw
            · rw [hm] at hdr
              simp only [dropA] at hdr
              injection hdr with hdr; injection hdr with e1 e2; subst e1 e2
              simp only [baseA, hm] at hS2
              exact ⟨cv, gc, ow', rfl, hVc, hHc, hSa.trans hS2⟩
            · rw [hdrop hm] at hdr
              split at hdr
              · rename_i hlt
                injection hdr with hdr; injection hdr with e1 e2; subst e1 e2
                have hbase : baseA ⟨fn.ntmps, rs, ac, pol.mode, pol.clArgs, pol.clRes⟩ bs σa.length = σa.length := by
                  unfold baseA; split
                  · rename_i e; exact absurd e hm
                  · rfl
                rw [hbase] at hS2
                obtain ⟨hHd, hSd⟩ := hHa.gc hS2 hHc
                exact ⟨cv, _, ow', rfl, refLt_VR hVc hlt, hHd, hSa.trans (hSd.base (by omega))⟩
              · cases hdr
          cases e with
          | exit id => simp [finA] at hfin
          | normal =>
            simp only [toExit] at he; subst he
            obtain ⟨cv, hc1, hc2⟩ := hgo hfin (fun id h => by cases h)
            simp only [List.append_nil] at hd'
            show LeavesInM Fence.wide 0 P fn a'.tmps _ a'.defers .returning w1
            rw [hd']
            exact leaves_all Ds w1 hD'.nd (fun D hD => (hD'.pt D hD).2.2) ⟨cv, by rw [hw']; exact hc1, by rw [hw']; exact hc2⟩
          | ret =>
            simp only [toExit] at he; subst he
            obtain ⟨cv, hc1, hc2⟩ := hgo hfin (fun id h => by cases h)
            simp only [List.append_nil] at hd'
            show LeavesInM Fence.wide 0 P fn a'.tmps _ a'.defers .returning w1
            rw [hd']
            exact leaves_all Ds w1 hD'.nd (fun D hD => (hD'.pt D hD).2.2) ⟨cv, by rw [hw']; exact hc1, by rw [hw']; exact hc2⟩
theorem callT_sound {T : Tab} (hT : TabOK P T) {f : Nat} (hne : f ≠ yno) {args : List AV} {v : AV} {σ' : Heap} (hx : callT T f args bs σ = some (v, σ')) (hbs : bs ≤ σ.length) (hH : HR g ow σ w) {cargs : Array Value} (hA : Args g args cargs) :
    Calls P f cargs w (CallPost bs g ow σ w v σ') := by
  obtain ⟨k, hk⟩ := lim_some hx
  exact ((eval_sound hT k).fn f args bs σ v σ' hne hk hbs).2 g ow w cargs hH hA
end
end Go.Mach
end
