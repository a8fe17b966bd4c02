import Derived.Test.YtpkfkipbemdhmaaGreatDoorC6
import Derived.KernelRfl
section
set_option linter.unusedVariables false
set_option linter.unusedSimpArgs false
set_option linter.unnecessarySimpa false
namespace Go.Proofs.YtpkfkipbemdhmaaGreatDoor
open Go.Mach
def headOK (l : List GT) : Bool := match l with
  | t :: _ => decide (t.kind = 1) || (decide (t.kind = 2) && decide (t.value.kind = 3))
  | [] => false
def argsB (l : List GT) : Bool := decide (1 ≤ l.length ∧ l.length ≤ 8) && l.all (termR 8) && headOK l
def tOK (n : ByteArray) : Bool := decide (n = ⟨#[61, 61]⟩ ∨ n = ⟨#[33, 61]⟩ ∨ n = ⟨#[60]⟩ ∨ n = ⟨#[60, 61]⟩ ∨ n = ⟨#[62]⟩ ∨ n = ⟨#[62, 61]⟩)
def litB (l : GL) : Bool :=
  if l.kind = 1 ∨ l.kind = 2 then relOK l.name && argsB l.args
  else if l.kind = 3 then tOK l.name && decide (l.args.length = 2) && l.args.all (termR 8)
  else if l.kind = 4 then varOK l.name && decide (l.args.length = 1) && l.args.all (termR 8)
  else false
abbrev sMin : ByteArray := ⟨#[109, 105, 110]⟩
abbrev sMax : ByteArray := ⟨#[109, 97, 120]⟩
abbrev sCount : ByteArray := ⟨#[99, 111, 117, 110, 116]⟩
def aggB (r : GR) : Bool :=
  if r.agg = ⟨#[]⟩ then decide (r.pos = 0)
  else decide (r.agg = sMin ∨ r.agg = sMax ∨ r.agg = sCount) && decide (1 ≤ r.pos ∧ r.pos < r.args.length) && decide (((r.args[r.pos.toNat]?).map (·.kind)) = some 1)
def ruleB (r : GR) : Bool := relOK r.label && relOK r.head && argsB r.args && decide (1 ≤ r.body.length ∧ r.body.length ≤ 8) && r.body.all litB && aggB r
def tupB (t : GU) : Bool := relOK t.name && decide (1 ≤ t.args.length ∧ t.args.length ≤ 8) && (match t.args with | v :: _ => decide (v.kind = 3) | [] => false) && t.args.all rightT
def declB (d : GD) : Bool := relOK d.name && decide (1 ≤ d.arity ∧ d.arity ≤ 8)
def progB (p : GP) : Bool := decide (p.decls.length ≤ 64 ∧ p.facts.length ≤ 64 ∧ p.rules.length ≤ 64) && p.facts.all tupB && p.rules.all ruleB && p.decls.all declB
def shAt (agg : List UInt8) (at' : Int) (i : Nat) (t : GT) : List UInt8 := if agg ≠ [] ∧ (i : Int) = at' then agg ++ 60 :: (t.name.data.toList ++ [62]) else shT t
def shAtC (agg : List UInt8) (at' : Int) : Nat → List GT → List UInt8
  | _, [] => []
  | i, x :: l => 44 :: (shAt agg at' i x ++ shAtC agg at' (i + 1) l)
def shAtS (agg : List UInt8) (at' : Int) : Nat → List GT → List UInt8
  | _, [] => []
  | i, x :: l => shAt agg at' i x ++ shAtC agg at' (i + 1) l
def shAtom (name : List UInt8) (l : List GT) (agg : List UInt8) (at' : Int) : List UInt8 := name ++ 40 :: 64 :: (shAtS agg at' 0 l ++ [41])
def shLit (l : GL) : List UInt8 :=
  if l.kind = 3 then shTs (32 :: (l.name.data.toList ++ [32])) l.args
  else if l.kind = 4 then l.name.data.toList ++ 32 :: 58 :: 61 :: 32 :: (match l.args with | t :: _ => shT t | [] => [])
  else if l.kind = 2 then 33 :: shAtom l.name.data.toList l.args [] 0
  else shAtom l.name.data.toList l.args [] 0
def shLitC : List GL → List UInt8
  | [] => []
  | x :: l => 44 :: 32 :: (shLit x ++ shLitC l)
def shLitS : List GL → List UInt8
  | [] => []
  | x :: l => shLit x ++ shLitC l
def shRule (r : GR) : List UInt8 := r.label.data.toList ++ 32 :: (shAtom r.head.data.toList r.args r.agg.data.toList r.pos ++ 32 :: 58 :: 45 :: 32 :: (shLitS r.body ++ [46]))
def shTup (t : GU) : List UInt8 := t.name.data.toList ++ 40 :: 64 :: (prs t.args ++ [41, 46])
def shDecl (d : GD) : List UInt8 := sMat.data.toList ++ 40 :: (d.name.data.toList ++ 44 :: (Lib.itoa d.arity ++ [41, 46, 10]))
def shProg (p : GP) : List UInt8 := p.decls.flatMap shDecl ++ (p.facts.flatMap (fun t => shTup t ++ [10]) ++ p.rules.flatMap (fun r => shRule r ++ [10]))
def stopA (r : List UInt8) : Prop := ∃ x, r = 44 :: x ∨ r = 41 :: x
theorem stopA_var {r : List UInt8} (h : stopA r) : stopP varC r := by
  obtain ⟨x, rfl | rfl⟩ := h <;> exact stop_of (by decide)
theorem rel_name {s : ByteArray} (h : relOK s = true) : nameOK s = true ∧ arityOf s < 0 ∧ s ≠ sMat := by
  simpa [relOK, and_assoc] using h
theorem name_span {a b : ByteArray} {r s : List UInt8} (ha : nameOK a = true) (hb : nameOK b = true) (hr : stopP innC r) (hs : stopP innC s) (h : a.data.toList ++ r = b.data.toList ++ s) : a = b ∧ r = s := by
  obtain ⟨x1, m1, q1, _, i1⟩ := name_list ha
  obtain ⟨x2, m2, q2, _, i2⟩ := name_list hb
  obtain ⟨h1, h2⟩ := span_eq innC _ _ _ _ (by rw [q1]; exact i1) (by rw [q2]; exact i2) hr hs h
  exact ⟨bytes_ext h1, h2⟩
theorem var_span {a b : ByteArray} {r s : List UInt8} (ha : varOK a = true) (hb : varOK b = true) (hr : stopP varC r) (hs : stopP varC s) (h : a.data.toList ++ r = b.data.toList ++ s) : a = b ∧ r = s := by
  obtain ⟨x1, m1, q1, _, i1⟩ := var_list ha
  obtain ⟨x2, m2, q2, _, i2⟩ := var_list hb
  obtain ⟨h1, h2⟩ := span_eq varC _ _ _ _ (by rw [q1]; exact i1) (by rw [q2]; exact i2) hr hs h
  exact ⟨bytes_ext h1, h2⟩
theorem t_letter {d : Nat} {t : GT} {c : UInt8} {l : List UInt8} (h : termR d t = true) (e : shT t = c :: l) (hc : letterB c.toNat = true) :
    (∃ n, nameOK n = true ∧ shT t = n.data.toList) ∨ (∃ n m, nameOK n = true ∧ 0 ≤ arityOf n ∧ shT t = n.data.toList ++ 40 :: m) := by
  obtain ⟨_, ⟨n, rfl, hn⟩ | ⟨v, rfl, hv, _⟩ | ⟨n, l, rfl, hn, _⟩ | ⟨n, l, rfl, _⟩⟩ := term_cases h
  · exfalso
    obtain ⟨c1, l1, e1, h1, _⟩ := var_list hn
    have p1 : shT (.mk 1 n nil0 []) = n.data.toList := by simp [shT]
    rw [p1, e1] at e
    simp only [List.cons.injEq] at e
    rw [e.1] at h1
    simp [upB, letterB] at h1 hc; omega
  · have p1 : shT (.mk 2 ⟨#[]⟩ v []) = pr v := by simp [shT]
    rw [p1] at e
    obtain ⟨t, rfl, ht⟩ := pr_letter hv e hc
    exact .inl ⟨t, ht, by rw [p1]; simp [pr]⟩
  · exact .inr ⟨n, _, fn_name (by omega), by omega, by simp [shT]; rfl⟩
  · exfalso
    have p1 : ∃ m, shT (.mk 4 n nil0 l) = 40 :: m := ⟨_, by simp [shT]; rfl⟩
    obtain ⟨m, p1⟩ := p1
    rw [p1] at e
    simp only [List.cons.injEq] at e
    rw [← e.1] at hc; revert hc; decide
def aggL (a : List UInt8) : Prop := a = [] ∨ a = sMin.data.toList ∨ a = sMax.data.toList ∨ a = sCount.data.toList
theorem agg_name {a : List UInt8} (h : aggL a) (h0 : a ≠ []) : ∃ n : ByteArray, nameOK n = true ∧ a = n.data.toList := by
  rcases h with h | h | h | h
  · exact absurd h h0
  · exact ⟨sMin, by decide +kernel, h⟩
  · exact ⟨sMax, by decide +kernel, h⟩
  · exact ⟨sCount, by decide +kernel, h⟩
def atVar (agg : List UInt8) (at' : Int) (i : Nat) (t : GT) : Prop := agg ≠ [] ∧ (i : Int) = at' → t.kind = 1
theorem at_plain {d : Nat} {x : List UInt8} {a : List UInt8} {t : GT} {r s : List UInt8} (ha : aggL a) (h0 : a ≠ []) (ht : termR d t = true) (hs : stopA s) (h : a ++ 60 :: r = shT t ++ s) : False := by
  obtain ⟨n, hn, rfl⟩ := agg_name ha h0
  obtain ⟨c, l, e, hc, _⟩ := name_list hn
  obtain ⟨c2, l2, e2, _⟩ := th_head ht
  have hcc : c = c2 := by rw [e, e2] at h; simp only [List.cons_append, List.cons.injEq] at h; exact h.1
  subst hcc
  rcases t_letter ht e2 hc with ⟨m, hm, e3⟩ | ⟨m, k, hm, _, e3⟩
  · rw [e3] at h
    obtain ⟨_, h2⟩ := name_span hn hm (stop_of (by decide)) (stop_inn (stopA_var hs)) h
    obtain ⟨x, rfl | rfl⟩ := hs <;> simp at h2
  · rw [e3, List.append_assoc] at h
    obtain ⟨_, h2⟩ := name_span hn hm (stop_of (by decide)) (stop_of (by decide)) h
    simp at h2
theorem kind1 {d : Nat} {t : GT} (h : termR d t = true) (hk : t.kind = 1) : ∃ n, t = .mk 1 n nil0 [] ∧ varOK n = true := by
  obtain ⟨_, ⟨n, rfl, hn⟩ | ⟨v, rfl, hv, _⟩ | ⟨n, l, rfl, hn, _⟩ | ⟨n, l, rfl, _⟩⟩ := term_cases h
  · exact ⟨n, rfl, hn⟩
  · simp [GT.kind] at hk
  · simp [GT.kind] at hk
  · simp [GT.kind] at hk
theorem el_split {d e : Nat} {a1 a2 : List UInt8} {p1 p2 : Int} {i : Nat} {t u : GT} {r s : List UInt8} (ha1 : aggL a1) (ha2 : aggL a2) (ht : termR d t = true) (hu : termR e u = true) (h1 : atVar a1 p1 i t) (h2 : atVar a2 p2 i u)
    (hr : stopA r) (hs : stopA s) (h : shAt a1 p1 i t ++ r = shAt a2 p2 i u ++ s) : t = u ∧ r = s ∧ ((a1 ≠ [] ∧ (i : Int) = p1) ↔ (a2 ≠ [] ∧ (i : Int) = p2)) ∧ (a1 ≠ [] ∧ (i : Int) = p1 → a1 = a2) := by
  unfold shAt at h
  split at h <;> split at h
  · rename_i c1 c2
    obtain ⟨n1, hn1, rfl⟩ := agg_name ha1 c1.1
    obtain ⟨n2, hn2, rfl⟩ := agg_name ha2 c2.1
    obtain ⟨m1, rfl, hm1⟩ := kind1 ht (h1 c1)
    obtain ⟨m2, rfl, hm2⟩ := kind1 hu (h2 c2)
    simp only [List.append_assoc, List.cons_append, List.nil_append] at h
    obtain ⟨rfl, h3⟩ := name_span hn1 hn2 (stop_of (by decide)) (stop_of (by decide)) h
    simp only [List.cons.injEq, true_and] at h3
    have h3 : m1.data.toList ++ 62 :: r = m2.data.toList ++ 62 :: s := h3
    obtain ⟨rfl, h4⟩ := var_span hm1 hm2 (stop_of (by decide)) (stop_of (by decide)) h3
    simp only [List.cons.injEq, true_and] at h4
    exact ⟨rfl, h4, ⟨fun _ => c2, fun _ => c1⟩, fun _ => rfl⟩
  · rename_i c1 c2
    exfalso
    simp only [List.append_assoc, List.cons_append, List.nil_append] at h
    exact at_plain (x := []) ha1 c1.1 hu hs h
  · rename_i c1 c2
    exfalso
    simp only [List.append_assoc, List.cons_append, List.nil_append] at h
    exact at_plain (x := []) ha2 c2.1 ht hr h.symm
  · rename_i c1 c2
    obtain ⟨h3, h4⟩ := t_split t u d e r s ht hu (stopA_var hr) (stopA_var hs) h
    exact ⟨h3, h4, ⟨fun x => absurd x c1, fun x => absurd x c2⟩, fun x => absurd x c1⟩
theorem stop_ac (a : List UInt8) (p : Int) (i : Nat) (l : List GT) (r : List UInt8) : stopA (shAtC a p i l ++ 41 :: r) := by
  cases l with
  | nil => exact ⟨r, .inr rfl⟩
  | cons x l => exact ⟨_, .inl (by simp [shAtC]; rfl)⟩
def agree (a1 a2 : List UInt8) (p1 p2 : Int) (i n : Nat) : Prop := ∀ j : Nat, i ≤ j → j < i + n → ((a1 ≠ [] ∧ (j : Int) = p1) ↔ (a2 ≠ [] ∧ (j : Int) = p2)) ∧ (a1 ≠ [] ∧ (j : Int) = p1 → a1 = a2)
def atVars (agg : List UInt8) (at' : Int) : Nat → List GT → Prop
  | _, [] => True
  | i, x :: l => atVar agg at' i x ∧ atVars agg at' (i + 1) l
theorem agree_cons {a1 a2 : List UInt8} {p1 p2 : Int} {i n : Nat} (h : ((a1 ≠ [] ∧ (i : Int) = p1) ↔ (a2 ≠ [] ∧ (i : Int) = p2)) ∧ (a1 ≠ [] ∧ (i : Int) = p1 → a1 = a2)) (hn : agree a1 a2 p1 p2 (i + 1) n) : agree a1 a2 p1 p2 i (n + 1) := fun j hj hk => by
  by_cases e : j = i
  · subst e; exact h
  · exact hn j (by omega) (by omega)
theorem ac_split {d e : Nat} {a1 a2 : List UInt8} {p1 p2 : Int} (ha1 : aggL a1) (ha2 : aggL a2) : ∀ (i : Nat) (a b : List GT) (r s : List UInt8), (∀ x ∈ a, termR d x = true) → (∀ x ∈ b, termR e x = true) → atVars a1 p1 i a → atVars a2 p2 i b →
    shAtC a1 p1 i a ++ 41 :: r = shAtC a2 p2 i b ++ 41 :: s → a = b ∧ r = s ∧ agree a1 a2 p1 p2 i a.length
  | i, [], [], r, s, _, _, _, _, h => ⟨rfl, by simpa [shAtC] using h, fun j h1 h2 => by simp at h2; omega⟩
  | i, [], y :: b, r, s, _, _, _, _, h => by simp [shAtC] at h
  | i, x :: a, [], r, s, _, _, _, _, h => by simp [shAtC] at h
  | i, x :: a, y :: b, r, s, ha, hb, v1, v2, h => by
    simp only [shAtC, List.cons_append, List.cons.injEq, true_and, List.append_assoc] at h
    obtain ⟨rfl, h1, h2⟩ := el_split ha1 ha2 (ha x (by simp)) (hb y (by simp)) v1.1 v2.1 (stop_ac ..) (stop_ac ..) h
    obtain ⟨rfl, h3, h4⟩ := ac_split ha1 ha2 (i + 1) a b r s (fun z hz => ha z (by simp [hz])) (fun z hz => hb z (by simp [hz])) v1.2 v2.2 h1
    exact ⟨rfl, h3, agree_cons h2 h4⟩
theorem sh_at_not41 {d : Nat} {a : List UInt8} {p : Int} {i : Nat} {t : GT} (ha : aggL a) (ht : termR d t = true) (r s : List UInt8) : ¬ (shAt a p i t ++ r = 41 :: s) := by
  intro h
  unfold shAt at h
  split at h
  · rename_i c
    obtain ⟨n, hn, rfl⟩ := agg_name ha c.1
    obtain ⟨c, l, e, hc, _⟩ := name_list hn
    rw [e] at h
    simp only [List.cons_append, List.cons.injEq] at h
    rw [h.1] at hc; revert hc; decide
  · exact th_not41 ht _ _ h
theorem as_split {d e : Nat} {a1 a2 : List UInt8} {p1 p2 : Int} (ha1 : aggL a1) (ha2 : aggL a2) (i : Nat) (a b : List GT) (r s : List UInt8) (ha : ∀ x ∈ a, termR d x = true) (hb : ∀ x ∈ b, termR e x = true) (v1 : atVars a1 p1 i a) (v2 : atVars a2 p2 i b)
    (h : shAtS a1 p1 i a ++ 41 :: r = shAtS a2 p2 i b ++ 41 :: s) : a = b ∧ r = s ∧ agree a1 a2 p1 p2 i a.length := by
  match a, b with
  | [], [] => exact ⟨rfl, by simpa [shAtS] using h, fun j h1 h2 => by simp at h2; omega⟩
  | [], y :: b =>
    exfalso
    simp only [shAtS, List.nil_append, List.append_assoc] at h
    exact sh_at_not41 ha2 (hb y (by simp)) _ _ h.symm
  | x :: a, [] =>
    exfalso
    simp only [shAtS, List.nil_append, List.append_assoc] at h
    exact sh_at_not41 ha1 (ha x (by simp)) _ _ h
  | x :: a, y :: b =>
    simp only [shAtS, List.append_assoc] at h
    obtain ⟨rfl, h1, h2⟩ := el_split ha1 ha2 (ha x (by simp)) (hb y (by simp)) v1.1 v2.1 (stop_ac ..) (stop_ac ..) h
    obtain ⟨rfl, h3, h4⟩ := ac_split ha1 ha2 (i + 1) a b r s (fun z hz => ha z (by simp [hz])) (fun z hz => hb z (by simp [hz])) v1.2 v2.2 h1
    exact ⟨rfl, h3, agree_cons h2 h4⟩
theorem atVars_nil (p : Int) : ∀ (i : Nat) (l : List GT), atVars [] p i l
  | _, [] => trivial
  | i, x :: l => ⟨fun h => absurd rfl h.1, atVars_nil p (i + 1) l⟩
end Go.Proofs.YtpkfkipbemdhmaaGreatDoor
end
section
set_option linter.unusedVariables false
set_option linter.unusedSimpArgs false
set_option linter.unnecessarySimpa false
namespace Go.Proofs.YtpkfkipbemdhmaaGreatDoor
open Go.Mach
theorem args_all {l : List GT} (h : argsB l = true) : ∀ x ∈ l, termR 8 x = true := by
  simp only [argsB, Bool.and_eq_true, List.all_eq_true] at h; exact h.1.2
theorem atom_split {a b : ByteArray} {l m : List GT} {a1 a2 : List UInt8} {p1 p2 : Int} {r s : List UInt8} (ha : nameOK a = true) (hb : nameOK b = true) (ha1 : aggL a1) (ha2 : aggL a2) (hl : ∀ x ∈ l, termR 8 x = true) (hm : ∀ x ∈ m, termR 8 x = true) (v1 : atVars a1 p1 0 l) (v2 : atVars a2 p2 0 m)
    (h : shAtom a.data.toList l a1 p1 ++ r = shAtom b.data.toList m a2 p2 ++ s) : a = b ∧ l = m ∧ r = s ∧ agree a1 a2 p1 p2 0 l.length := by
  simp only [shAtom, List.append_assoc, List.cons_append] at h
  obtain ⟨h1, h2⟩ := name_span ha hb (stop_of (by decide)) (stop_of (by decide)) h
  simp only [List.cons.injEq, true_and, List.append_assoc, List.nil_append] at h2
  obtain ⟨h3, h4, h5⟩ := as_split ha1 ha2 0 l m r s hl hm v1 v2 h2
  exact ⟨h1, h3, h4, h5⟩
theorem lit_cases {l : GL} (h : litB l = true) : ((l.kind = 1 ∨ l.kind = 2) ∧ relOK l.name = true ∧ argsB l.args = true) ∨ (l.kind = 3 ∧ tOK l.name = true ∧ ∃ x y, l.args = [x, y] ∧ termR 8 x = true ∧ termR 8 y = true) ∨ (l.kind = 4 ∧ varOK l.name = true ∧ ∃ x, l.args = [x] ∧ termR 8 x = true) := by
  unfold litB at h
  split at h
  · rename_i hk
    rw [Bool.and_eq_true] at h
    exact .inl ⟨hk, h.1, h.2⟩
  split at h
  · rename_i hk
    simp only [Bool.and_eq_true, decide_eq_true_eq, List.all_eq_true] at h
    match hl : l.args, h.1.2, h.2 with
    | [x, y], _, h2 => exact .inr (.inl ⟨hk, h.1.1, x, y, rfl, h2 x (by simp), h2 y (by simp)⟩)
  split at h
  · rename_i hk
    simp only [Bool.and_eq_true, decide_eq_true_eq, List.all_eq_true] at h
    match hl : l.args, h.1.2, h.2 with
    | [x], _, h2 => exact .inr (.inr ⟨hk, h.1.1, x, rfl, h2 x (by simp)⟩)
  · cases h
def stopL (r : List UInt8) : Prop := ∃ x, r = 44 :: x ∨ r = 46 :: x
theorem op_list {n : ByteArray} (h : tOK n = true) : ∃ c l, n.data.toList = c :: l ∧ c ≠ 58 ∧ ∀ x ∈ c :: l, (x != 32) = true := by
  rcases of_decide_eq_true h with rfl | rfl | rfl | rfl | rfl | rfl
  all_goals exact ⟨_, _, rfl, by decide, by decide⟩
theorem gl_ext {a b : GL} (h1 : a.kind = b.kind) (h2 : a.name = b.name) (h3 : a.args = b.args) : a = b := by
  cases a; cases b; simp_all
theorem sh1 {l : GL} (h : l.kind = 1) : shLit l = shAtom l.name.data.toList l.args [] 0 := by simp [shLit, h]
theorem sh2 {l : GL} (h : l.kind = 2) : shLit l = 33 :: shAtom l.name.data.toList l.args [] 0 := by simp [shLit, h]
theorem sh3 {l : GL} {x y : GT} (h : l.kind = 3) (e : l.args = [x, y]) : shLit l = shT x ++ 32 :: (l.name.data.toList ++ 32 :: shT y) := by simp [shLit, h, e, shTs, shTc]
theorem sh4 {l : GL} {x : GT} (h : l.kind = 4) (e : l.args = [x]) : shLit l = l.name.data.toList ++ 32 :: 58 :: 61 :: 32 :: shT x := by simp [shLit, h, e]
theorem up_inn {c : UInt8} (h : upB c.toNat = true) : innC c = false := by
  have h : 65 ≤ c.toNat ∧ c.toNat ≤ 90 := by simpa [upB] using h
  rw [Bool.eq_false_iff]; intro hh
  simp only [innC, innerB, letterB, Bool.or_eq_true, Bool.and_eq_true, decide_eq_true_eq] at hh; omega
theorem no13 {a b : GL} {x y : GT} {r s : List UInt8} (ha : relOK a.name = true) (hka : a.kind = 1) (hb : b.kind = 3) (e : b.args = [x, y]) (hx : termR 8 x = true) (h : shLit a ++ r = shLit b ++ s) : False := by
  rw [sh1 hka, sh3 hb e] at h
  obtain ⟨hn, har, _⟩ := rel_name ha
  obtain ⟨c, m, e1, hc, _⟩ := name_list hn
  obtain ⟨c2, m2, e2, _⟩ := th_head hx
  simp only [shAtom, List.append_assoc, List.cons_append] at h
  have hcc : c = c2 := by rw [e1, e2] at h; simp only [List.cons_append, List.cons.injEq] at h; exact h.1
  subst hcc
  rcases t_letter hx e2 hc with ⟨n, hn2, e3⟩ | ⟨n, k, hn2, har2, e3⟩
  · rw [e3] at h
    obtain ⟨_, h2⟩ := name_span hn hn2 (stop_of (by decide)) (stop_of (by decide)) h
    simp at h2
  · rw [e3, List.append_assoc] at h
    obtain ⟨h1, h2⟩ := name_span hn hn2 (stop_of (by decide)) (stop_of (by decide)) h
    rw [h1] at har; omega
theorem no14 {a b : GL} {x : GT} {r s : List UInt8} (ha : relOK a.name = true) (hka : a.kind = 1) (hb : b.kind = 4) (hbn : varOK b.name = true) (e : b.args = [x]) (h : shLit a ++ r = shLit b ++ s) : False := by
  rw [sh1 hka, sh4 hb e] at h
  obtain ⟨c, m, e1, hc, hall⟩ := name_list (rel_name ha).1
  obtain ⟨c2, m2, e2, hc2, _⟩ := var_list hbn
  simp only [shAtom, e1, e2, List.append_assoc, List.cons_append, List.cons.injEq] at h
  have h1 := hall c (by simp)
  rw [h.1, up_inn hc2] at h1; cases h1
theorem no2 {a b : GL} {r s : List UInt8} (hka : a.kind = 2) (hb : litB b = true) (hkb : b.kind ≠ 2) (h : shLit a ++ r = shLit b ++ s) : False := by
  rw [sh2 hka] at h
  have key : ∀ c m, shLit b = c :: m → c = 33 := fun c m e => by
    rw [e] at h; simp only [List.cons_append, List.cons.injEq] at h; exact h.1.symm
  rcases lit_cases hb with ⟨hk, h1, h2⟩ | ⟨hk, h1, x, y, e, hx, hy⟩ | ⟨hk, h1, x, e, hx⟩
  · obtain ⟨c, m, e, hc, _⟩ := name_list (rel_name h1).1
    rcases hk with hk | hk
    · have := key c _ (by rw [sh1 hk, shAtom, e]; rfl)
      subst this; revert hc; decide
    · exact hkb hk
  · obtain ⟨c, m, e2, k⟩ := th_head hx
    have := key c _ (by rw [sh3 hk e, e2]; rfl)
    subst this
    rcases k with ⟨_, k⟩ | ⟨_, k⟩ | ⟨_, k⟩ | ⟨_, k⟩
    · revert k; decide
    · rcases k with k | k | k | k <;> revert k <;> decide
    · revert k; decide
    · revert k; decide
  · obtain ⟨c, m, e2, hc, _⟩ := var_list h1
    have := key c _ (by rw [sh4 hk e, e2]; rfl)
    subst this; revert hc; decide
theorem no34 {a b : GL} {x y z : GT} {r s : List UInt8} (hka : a.kind = 3) (han : tOK a.name = true) (ea : a.args = [x, y]) (hx : termR 8 x = true) (hb : b.kind = 4) (hbn : varOK b.name = true) (e : b.args = [z]) (h : shLit a ++ r = shLit b ++ s) : False := by
  rw [sh3 hka ea, sh4 hb e] at h
  obtain ⟨c, m, e1, k⟩ := th_head hx
  obtain ⟨c2, m2, e2, hc2, _⟩ := var_list hbn
  have hcc : c = c2 := by rw [e1, e2] at h; simp only [List.cons_append, List.cons.injEq] at h; exact h.1
  subst hcc
  have hk := th_apart k (.inl ⟨rfl, hc2⟩ : ((1 : Int) = 1 ∧ upB c.toNat = true) ∨ ((1 : Int) = 2 ∧ (numB c = true ∨ c = 34 ∨ letterB c.toNat = true ∨ c = 91)) ∨ ((1 : Int) = 3 ∧ letterB c.toNat = true) ∨ ((1 : Int) = 4 ∧ c = 40))
  have hk : x.kind = 1 := by
    rcases hk with hk | ⟨⟨_, hk⟩ | ⟨_, hk⟩, _⟩
    · exact hk
    · exact absurd hk (by decide)
    · exact absurd hk (by decide)
  obtain ⟨n, rfl, hn⟩ := kind1 hx hk
  have p1 : shT (.mk 1 n nil0 []) = n.data.toList := by simp [shT]
  rw [p1] at h
  simp only [List.append_assoc, List.cons_append] at h
  obtain ⟨_, h2⟩ := var_span hn hbn (stop_of (by decide)) (stop_of (by decide)) h
  obtain ⟨o, ol, e3, hne, _⟩ := op_list han
  simp only [e3, List.cons_append, List.cons.injEq, true_and] at h2
  exact hne h2.1
theorem lit_split {a b : GL} {r s : List UInt8} (ha : litB a = true) (hb : litB b = true) (hr : stopP varC r) (hs : stopP varC s) (h : shLit a ++ r = shLit b ++ s) : a = b ∧ r = s := by
  by_cases k2 : a.kind = 2
  · by_cases k3 : b.kind = 2
    · rw [sh2 k2, sh2 k3] at h
      simp only [List.cons_append, List.cons.injEq, true_and] at h
      rcases lit_cases ha with ⟨_, h1, h2⟩ | ⟨hk, _⟩ | ⟨hk, _⟩
      · rcases lit_cases hb with ⟨_, h3, h4⟩ | ⟨hk, _⟩ | ⟨hk, _⟩
        · obtain ⟨e1, e2, e3, _⟩ := atom_split (rel_name h1).1 (rel_name h3).1 (.inl rfl) (.inl rfl) (args_all h2) (args_all h4) (atVars_nil ..) (atVars_nil ..) h
          exact ⟨gl_ext (by rw [k2, k3]) e1 e2, e3⟩
        · omega
        · omega
      · omega
      · omega
    · exact (no2 k2 hb k3 h).elim
  by_cases k3 : b.kind = 2
  · exact (no2 k3 ha k2 h.symm).elim
  rcases lit_cases ha with ⟨hk, h1, h2⟩ | ⟨hk, h1, x, y, e, hx, hy⟩ | ⟨hk, h1, x, e, hx⟩ <;> rcases lit_cases hb with ⟨hk', h1', h2'⟩ | ⟨hk', h1', x', y', e', hx', hy'⟩ | ⟨hk', h1', x', e', hx'⟩
  · have hk : a.kind = 1 := by omega
    have hk' : b.kind = 1 := by omega
    rw [sh1 hk, sh1 hk'] at h
    obtain ⟨e1, e2, e3, _⟩ := atom_split (rel_name h1).1 (rel_name h1').1 (.inl rfl) (.inl rfl) (args_all h2) (args_all h2') (atVars_nil ..) (atVars_nil ..) h
    exact ⟨gl_ext (by rw [hk, hk']) e1 e2, e3⟩
  · exact (no13 h1 (by omega) hk' e' hx' h).elim
  · exact (no14 h1 (by omega) hk' h1' e' h).elim
  · exact (no13 h1' (by omega) hk e hx h.symm).elim
  · rw [sh3 hk e, sh3 hk' e'] at h
    simp only [List.append_assoc, List.cons_append] at h
    obtain ⟨f1, f2⟩ := t_split x x' 8 8 _ _ hx hx' (stop_of (by decide)) (stop_of (by decide)) h
    simp only [List.cons.injEq, true_and] at f2
    obtain ⟨o, ol, e3, _, ho⟩ := op_list h1
    obtain ⟨o', ol', e4, _, ho'⟩ := op_list h1'
    obtain ⟨f3, f4⟩ := span_eq (fun c => c != 32) _ _ _ _ (by rw [e3]; exact ho) (by rw [e4]; exact ho') (stop_of (by decide)) (stop_of (by decide)) f2
    simp only [List.cons.injEq, true_and] at f4
    obtain ⟨f5, f6⟩ := t_split y y' 8 8 _ _ hy hy' hr hs f4
    exact ⟨gl_ext (by rw [hk, hk']) (bytes_ext f3) (by rw [e, e', f1, f5]), f6⟩
  · exact (no34 hk h1 e hx hk' h1' e' h).elim
  · exact (no14 h1' (by omega) hk h1 e h.symm).elim
  · exact (no34 hk' h1' e' hx' hk h1 e h.symm).elim
  · rw [sh4 hk e, sh4 hk' e'] at h
    simp only [List.append_assoc, List.cons_append] at h
    obtain ⟨f1, f2⟩ := var_span h1 h1' (stop_of (by decide)) (stop_of (by decide)) h
    simp only [List.cons.injEq, true_and] at f2
    obtain ⟨f5, f6⟩ := t_split x x' 8 8 _ _ hx hx' hr hs f2
    exact ⟨gl_ext (by rw [hk, hk']) f1 (by rw [e, e', f5]), f6⟩
theorem stop_lc (l : List GL) (r : List UInt8) : stopP varC (shLitC l ++ 46 :: r) := by
  cases l with
  | nil => exact stop_of (by decide)
  | cons x l => exact stop_of (by decide)
theorem lc_split : ∀ (a b : List GL) (r s : List UInt8), (∀ x ∈ a, litB x = true) → (∀ x ∈ b, litB x = true) → shLitC a ++ 46 :: r = shLitC b ++ 46 :: s → a = b ∧ r = s
  | [], [], r, s, _, _, h => ⟨rfl, by simpa [shLitC] using h⟩
  | [], y :: b, r, s, _, _, h => by simp [shLitC] at h
  | x :: a, [], r, s, _, _, h => by simp [shLitC] at h
  | x :: a, y :: b, r, s, ha, hb, h => by
    simp only [shLitC, List.cons_append, List.cons.injEq, true_and, List.append_assoc] at h
    obtain ⟨rfl, h1⟩ := lit_split (ha x (by simp)) (hb y (by simp)) (stop_lc _ _) (stop_lc _ _) h
    obtain ⟨rfl, h2⟩ := lc_split a b r s (fun z hz => ha z (by simp [hz])) (fun z hz => hb z (by simp [hz])) h1
    exact ⟨rfl, h2⟩
theorem ls_split {a b : List GL} {r s : List UInt8} (ha : ∀ x ∈ a, litB x = true) (hb : ∀ x ∈ b, litB x = true) (la : 1 ≤ a.length) (lb : 1 ≤ b.length) (h : shLitS a ++ 46 :: r = shLitS b ++ 46 :: s) : a = b ∧ r = s := by
  match a, b, la, lb with
  | x :: a, y :: b, _, _ =>
    simp only [shLitS, List.append_assoc] at h
    obtain ⟨rfl, h1⟩ := lit_split (ha x (by simp)) (hb y (by simp)) (stop_lc _ _) (stop_lc _ _) h
    obtain ⟨rfl, h2⟩ := lc_split a b r s (fun z hz => ha z (by simp [hz])) (fun z hz => hb z (by simp [hz])) h1
    exact ⟨rfl, h2⟩
theorem atVars_of {agg : List UInt8} {p : Int} : ∀ (i : Nat) (l : List GT), (∀ j : Nat, (hj : j < l.length) → agg ≠ [] → ((i + j : Nat) : Int) = p → (l[j]).kind = 1) → atVars agg p i l
  | _, [], _ => trivial
  | i, x :: l, h => ⟨fun hc => h 0 (by simp) hc.1 (by simpa using hc.2), atVars_of (i + 1) l fun j hj h1 h2 => by
      have := h (j + 1) (by simpa using hj) h1 (by rw [← h2]; congr 1; omega)
      simpa using this⟩
theorem ba_list_nil {t : ByteArray} : t.data.toList = [] ↔ t = ⟨#[]⟩ := ⟨fun h => bytes_ext (by rw [h]), fun h => by rw [h]⟩
theorem agg_L {r : GR} (h : aggB r = true) : aggL r.agg.data.toList ∧ atVars r.agg.data.toList r.pos 0 r.args ∧ (r.agg = ⟨#[]⟩ → r.pos = 0) ∧ (r.agg ≠ ⟨#[]⟩ → 1 ≤ r.pos ∧ r.pos < r.args.length) := by
  unfold aggB at h
  split at h
  · rename_i e
    exact ⟨.inl (by rw [e]), by rw [e]; exact atVars_nil .., fun _ => of_decide_eq_true h, fun h => absurd e h⟩
  · rename_i e
    simp only [Bool.and_eq_true, decide_eq_true_eq] at h
    refine ⟨?_, ?_, fun h => absurd h e, fun _ => h.1.2⟩
    · rcases h.1.1 with e | e | e
      · exact .inr (.inl (by rw [e]))
      · exact .inr (.inr (.inl (by rw [e])))
      · exact .inr (.inr (.inr (by rw [e])))
    · refine atVars_of 0 _ fun j hj _ hp => ?_
      have h2 := h.2
      have : r.pos.toNat = j := by omega
      rw [this, List.getElem?_eq_getElem hj] at h2
      simpa using h2
theorem gr_ext {a b : GR} (h1 : a.label = b.label) (h2 : a.head = b.head) (h3 : a.args = b.args) (h4 : a.agg = b.agg) (h5 : a.pos = b.pos) (h6 : a.body = b.body) : a = b := by
  cases a; cases b; simp_all
theorem rule_split {a b : GR} {r s : List UInt8} (ha : ruleB a = true) (hb : ruleB b = true) (h : shRule a ++ r = shRule b ++ s) : a = b ∧ r = s := by
  simp only [ruleB, Bool.and_eq_true, decide_eq_true_eq, List.all_eq_true] at ha hb
  obtain ⟨⟨⟨⟨⟨a1, a2⟩, a3⟩, a4⟩, a5⟩, a6⟩ := ha
  obtain ⟨⟨⟨⟨⟨b1, b2⟩, b3⟩, b4⟩, b5⟩, b6⟩ := hb
  simp only [shRule, List.append_assoc, List.cons_append] at h
  obtain ⟨e1, h⟩ := name_span (rel_name a1).1 (rel_name b1).1 (stop_of (by decide)) (stop_of (by decide)) h
  simp only [List.cons.injEq, true_and] at h
  obtain ⟨g1, g2, g3, g4⟩ := agg_L a6
  obtain ⟨k1, k2, k3, k4⟩ := agg_L b6
  obtain ⟨e2, e3, h, hag⟩ := atom_split (rel_name a2).1 (rel_name b2).1 g1 k1 (args_all a3) (args_all b3) g2 k2 h
  simp only [List.cons.injEq, true_and, List.append_assoc, List.cons_append, List.nil_append] at h
  obtain ⟨e4, h⟩ := ls_split a5 b5 a4.1 b4.1 h
  have key : a.agg = b.agg ∧ a.pos = b.pos := by
    by_cases c1 : a.agg = ⟨#[]⟩
    · by_cases c2 : b.agg = ⟨#[]⟩
      · exact ⟨by rw [c1, c2], by rw [g3 c1, k3 c2]⟩
      · exfalso
        obtain ⟨q1, q2⟩ := k4 c2
        have hh := hag b.pos.toNat (Nat.zero_le _) (by rw [e3]; omega)
        exact (hh.1.2 ⟨fun e => c2 (ba_list_nil.1 e), by omega⟩).1 (by rw [c1])
    · obtain ⟨q1, q2⟩ := g4 c1
      have hh := hag a.pos.toNat (Nat.zero_le _) (by omega)
      have hc : a.agg.data.toList ≠ [] ∧ ((a.pos.toNat : Nat) : Int) = a.pos := ⟨fun e => c1 (ba_list_nil.1 e), by omega⟩
      have h2 := hh.1.1 hc
      exact ⟨bytes_ext (hh.2 hc), by omega⟩
  exact ⟨gr_ext e1 e2 e3 key.1 key.2 e4, h⟩
theorem pc_split : ∀ (a b : List GV) (r s : List UInt8), (∀ x ∈ a, rightT x = true) → (∀ x ∈ b, rightT x = true) → prc a ++ 41 :: r = prc b ++ 41 :: s → a = b ∧ r = s
  | [], [], r, s, _, _, h => ⟨rfl, by simpa [prc] using h⟩
  | [], y :: b, r, s, _, _, h => by simp [prc] at h
  | x :: a, [], r, s, _, _, h => by simp [prc] at h
  | x :: a, y :: b, r, s, ha, hb, h => by
    simp only [prc, List.cons_append, List.cons.injEq, true_and, List.append_assoc] at h
    have st : ∀ (l : List GV) (r : List UInt8), stopP innC (prc l ++ 41 :: r) := fun l r => by
      cases l with
      | nil => exact stop_of (by decide)
      | cons x l => exact stop_of (by decide)
    obtain ⟨rfl, h1⟩ := v_split (ha x (by simp)) (hb y (by simp)) (st _ _) (st _ _) h
    obtain ⟨rfl, h2⟩ := pc_split a b r s (fun z hz => ha z (by simp [hz])) (fun z hz => hb z (by simp [hz])) h1
    exact ⟨rfl, h2⟩
theorem gu_ext {a b : GU} (h1 : a.name = b.name) (h2 : a.args = b.args) : a = b := by cases a; cases b; simp_all
theorem gd_ext {a b : GD} (h1 : a.name = b.name) (h2 : a.arity = b.arity) : a = b := by cases a; cases b; simp_all
theorem tup_split {a b : GU} {r s : List UInt8} (ha : tupB a = true) (hb : tupB b = true) (h : shTup a ++ r = shTup b ++ s) : a = b ∧ r = s := by
  simp only [tupB, Bool.and_eq_true, decide_eq_true_eq, List.all_eq_true] at ha hb
  obtain ⟨⟨⟨a1, a2⟩, a3⟩, a4⟩ := ha
  obtain ⟨⟨⟨b1, b2⟩, b3⟩, b4⟩ := hb
  simp only [shTup, List.append_assoc, List.cons_append] at h
  obtain ⟨e1, h⟩ := name_span (rel_name a1).1 (rel_name b1).1 (stop_of (by decide)) (stop_of (by decide)) h
  simp only [List.cons.injEq, true_and, List.append_assoc, List.cons_append, List.nil_append] at h
  have st : ∀ (l : List GV) (r : List UInt8), stopP innC (prc l ++ 41 :: r) := fun l r => by
    cases l with
    | nil => exact stop_of (by decide)
    | cons x l => exact stop_of (by decide)
  match hx : a.args, hy : b.args, a2.1, b2.1 with
  | x :: l, y :: m, _, _ =>
    rw [hx] at a4; rw [hy] at b4
    rw [hx, hy] at h
    simp only [prs, List.append_assoc] at h
    obtain ⟨e2, h2⟩ := v_split (a4 x (by simp)) (b4 y (by simp)) (st _ _) (st _ _) h
    obtain ⟨e3, h3⟩ := pc_split l m _ _ (fun z hz => a4 z (by simp [hz])) (fun z hz => b4 z (by simp [hz])) h2
    simp only [List.cons.injEq, true_and] at h3
    exact ⟨gu_ext e1 (by rw [hx, hy, e2, e3]), h3⟩
theorem decl_split {a b : GD} {r s : List UInt8} (ha : declB a = true) (hb : declB b = true) (h : shDecl a ++ r = shDecl b ++ s) : a = b ∧ r = s := by
  simp only [declB, Bool.and_eq_true, decide_eq_true_eq] at ha hb
  simp only [shDecl, List.append_assoc, List.cons_append] at h
  have h := List.append_cancel_left h
  simp only [List.cons.injEq, true_and] at h
  obtain ⟨e1, h⟩ := name_span (rel_name ha.1).1 (rel_name hb.1).1 (stop_of (by decide)) (stop_of (by decide)) h
  simp only [List.cons.injEq, true_and] at h
  obtain ⟨e2, h⟩ := itoa_split (stop_of (by decide)) (stop_of (by decide)) h
  simp only [List.cons.injEq, true_and] at h
  exact ⟨gd_ext e1 e2, by simpa using h⟩
inductive Ln where
  | d (x : GD) | u (x : GU) | r (x : GR)
def Ln.ok : Ln → Bool
  | .d x => declB x | .u x => tupB x | .r x => ruleB x
def Ln.sh : Ln → List UInt8
  | .d x => shDecl x | .u x => shTup x ++ [10] | .r x => shRule x ++ [10]
theorem mat_name : nameOK sMat = true := by decide +kernel
theorem ln_apart {a b : ByteArray} {c c' : UInt8} {r s : List UInt8} (ha : nameOK a = true) (hb : nameOK b = true) (hc : innC c = false) (hc' : innC c' = false) (hn : a ≠ b ∨ c ≠ c') (h : a.data.toList ++ c :: r = b.data.toList ++ c' :: s) : False := by
  obtain ⟨h1, h2⟩ := name_span ha hb (stop_of hc) (stop_of hc') h
  simp only [List.cons.injEq] at h2
  rcases hn with hn | hn
  · exact hn h1
  · exact hn h2.1
theorem ln_split : ∀ {a b : Ln} {r s : List UInt8}, a.ok = true → b.ok = true → a.sh ++ r = b.sh ++ s → a = b ∧ r = s := by
  have du : ∀ {x : GD} {y : GU} {r s : List UInt8}, tupB y = true → ¬ (shDecl x ++ r = (shTup y ++ [10]) ++ s) := fun {x y r s} hy h => by
    simp only [tupB, Bool.and_eq_true] at hy
    obtain ⟨h1, _, h3⟩ := rel_name hy.1.1.1
    simp only [shDecl, shTup, List.append_assoc, List.cons_append] at h
    exact ln_apart mat_name h1 (by decide) (by decide) (.inl (Ne.symm h3)) h
  have dr : ∀ {x : GD} {y : GR} {r s : List UInt8}, ruleB y = true → ¬ (shDecl x ++ r = (shRule y ++ [10]) ++ s) := fun {x y r s} hy h => by
    simp only [ruleB, Bool.and_eq_true] at hy
    obtain ⟨h1, _, h3⟩ := rel_name hy.1.1.1.1.1
    simp only [shDecl, shRule, List.append_assoc, List.cons_append] at h
    exact ln_apart mat_name h1 (by decide) (by decide) (.inr (by decide)) h
  have ur : ∀ {x : GU} {y : GR} {r s : List UInt8}, tupB x = true → ruleB y = true → ¬ ((shTup x ++ [10]) ++ r = (shRule y ++ [10]) ++ s) := fun {x y r s} hx hy h => by
    simp only [ruleB, Bool.and_eq_true] at hy
    simp only [tupB, Bool.and_eq_true] at hx
    simp only [shTup, shRule, List.append_assoc, List.cons_append] at h
    exact ln_apart (rel_name hx.1.1.1).1 (rel_name hy.1.1.1.1.1).1 (by decide) (by decide) (.inr (by decide)) h
  intro a b r s ha hb h
  cases a <;> cases b
  · obtain ⟨e, h2⟩ := decl_split ha hb h; exact ⟨by rw [e], h2⟩
  · exact (du hb h).elim
  · exact (dr hb h).elim
  · exact (du ha h.symm).elim
  · simp only [Ln.sh, List.append_assoc] at h
    obtain ⟨e, h2⟩ := tup_split ha hb h; exact ⟨by rw [e], by simpa using h2⟩
  · exact (ur ha hb h).elim
  · exact (dr ha h.symm).elim
  · exact (ur hb ha h.symm).elim
  · simp only [Ln.sh, List.append_assoc] at h
    obtain ⟨e, h2⟩ := rule_split ha hb h; exact ⟨by rw [e], by simpa using h2⟩
theorem ln_ne {a : Ln} (ha : a.ok = true) : a.sh ≠ [] := by
  cases a <;> simp [Ln.sh, shDecl]
theorem lns_split : ∀ {a b : List Ln}, (∀ x ∈ a, x.ok = true) → (∀ x ∈ b, x.ok = true) → a.flatMap Ln.sh = b.flatMap Ln.sh → a = b
  | [], [], _, _, _ => rfl
  | [], y :: b, _, hb, h => by
    exfalso; simp only [List.flatMap_nil, List.flatMap_cons] at h
    exact ln_ne (hb y (by simp)) (List.append_eq_nil_iff.1 h.symm).1
  | x :: a, [], ha, _, h => by
    exfalso; simp only [List.flatMap_nil, List.flatMap_cons] at h
    exact ln_ne (ha x (by simp)) (List.append_eq_nil_iff.1 h).1
  | x :: a, y :: b, ha, hb, h => by
    simp only [List.flatMap_cons] at h
    obtain ⟨e, h2⟩ := ln_split (ha x (by simp)) (hb y (by simp)) h
    rw [e, lns_split (fun z hz => ha z (by simp [hz])) (fun z hz => hb z (by simp [hz])) h2]
def lnsOf (p : GP) : List Ln := p.decls.map .d ++ (p.facts.map .u ++ p.rules.map .r)
theorem sh_lns (p : GP) : shProg p = (lnsOf p).flatMap Ln.sh := by
  simp only [shProg, lnsOf, List.flatMap_append, List.flatMap_map]; rfl
theorem gp_ext {a b : GP} (h1 : a.decls = b.decls) (h2 : a.facts = b.facts) (h3 : a.rules = b.rules) : a = b := by cases a; cases b; simp_all
def Ln.D : Ln → Option GD | .d x => some x | _ => none
def Ln.U : Ln → Option GU | .u x => some x | _ => none
def Ln.R : Ln → Option GR | .r x => some x | _ => none
theorem fm_some {α β γ : Type} (f : β → Option γ) (g : α → β) (k : α → γ) (h : ∀ x, f (g x) = some (k x)) (l : List α) : (l.map g).filterMap f = l.map k := by
  induction l with
  | nil => rfl
  | cons x l ih => simp [List.filterMap_cons, h, ih]
theorem fm_none {α β γ : Type} (f : β → Option γ) (g : α → β) (h : ∀ x, f (g x) = none) (l : List α) : (l.map g).filterMap f = [] := by
  induction l with
  | nil => rfl
  | cons x l ih => simp [List.filterMap_cons, h]
theorem lns_inj {a b : GP} (h : lnsOf a = lnsOf b) : a = b := by
  have key : ∀ p : GP, (lnsOf p).filterMap Ln.D = p.decls ∧ (lnsOf p).filterMap Ln.U = p.facts ∧ (lnsOf p).filterMap Ln.R = p.rules := fun p => by
    simp only [lnsOf, List.filterMap_append]
    refine ⟨?_, ?_, ?_⟩
    · rw [fm_some Ln.D Ln.d id (fun _ => rfl), fm_none Ln.D Ln.u (fun _ => rfl), fm_none Ln.D Ln.r (fun _ => rfl)]; simp
    · rw [fm_none Ln.U Ln.d (fun _ => rfl), fm_some Ln.U Ln.u id (fun _ => rfl), fm_none Ln.U Ln.r (fun _ => rfl)]; simp
    · rw [fm_none Ln.R Ln.d (fun _ => rfl), fm_none Ln.R Ln.u (fun _ => rfl), fm_some Ln.R Ln.r id (fun _ => rfl)]; simp
  obtain ⟨a1, a2, a3⟩ := key a
  obtain ⟨b1, b2, b3⟩ := key b
  exact gp_ext (by rw [← a1, ← b1, h]) (by rw [← a2, ← b2, h]) (by rw [← a3, ← b3, h])
theorem prog_lns {p : GP} (h : progB p = true) : ∀ x ∈ lnsOf p, x.ok = true := by
  simp only [progB, Bool.and_eq_true, List.all_eq_true] at h
  intro x hx
  simp only [lnsOf, List.mem_append, List.mem_map] at hx
  rcases hx with ⟨y, hy, rfl⟩ | ⟨y, hy, rfl⟩ | ⟨y, hy, rfl⟩
  · exact h.2 y hy
  · exact h.1.1.2 y hy
  · exact h.1.2 y hy
theorem prog_inj {a b : GP} (ha : progB a = true) (hb : progB b = true) : shProg a = shProg b ↔ a = b :=
  ⟨fun h => lns_inj (lns_split (prog_lns ha) (prog_lns hb) (by rw [← sh_lns, ← sh_lns, h])), fun h => by rw [h]⟩
end Go.Proofs.YtpkfkipbemdhmaaGreatDoor
end
section
set_option linter.unusedVariables false
set_option linter.unusedSimpArgs false
set_option linter.unnecessarySimpa false
namespace Go.Proofs.YtpkfkipbemdhmaaGreatDoor
open Go.Mach
def varG (s : ByteArray) (i : Nat) : Bool := upB (bt s i) || (decide (i ≠ 0) && innerB (bt s i))
theorem varG_iff (s : ByteArray) (i : Nat) : varG s i = true ↔ (65 ≤ bt s i ∧ bt s i ≤ 90) ∨ (i ≠ 0 ∧ ((97 ≤ bt s i ∧ bt s i ≤ 122) ∨ bt s i = 95 ∨ (48 ≤ bt s i ∧ bt s i ≤ 57))) := by
  simp only [varG, upB, innerB, letterB, Bool.or_eq_true, Bool.and_eq_true, decide_eq_true_eq]; omega
theorem varOK_iff (t : ByteArray) : varOK t = true ↔ (∀ i, i < t.size → varG t i = true) ∧ t.size ≠ 0 ∧ t.size ≤ 16 := by
  have hs : t.data.toList.length = t.size := by simp
  simp only [varOK, Bool.and_eq_true, decide_eq_true_eq]
  match hl : t.data.toList with
  | [] =>
    rw [hl] at hs; simp at hs
    simp only [varL, Bool.false_eq_true, false_and, false_iff]; omega
  | c :: l =>
    rw [hl] at hs; simp at hs
    have hb : ∀ i, bt t i = (((c :: l)[i]?).getD 0).toNat := fun i => by simp only [bt, hl]
    simp only [varL, Bool.and_eq_true, List.all_eq_true]
    constructor
    · rintro ⟨⟨h1, h2⟩, h3⟩
      refine ⟨fun i hi => ?_, by omega, h3⟩
      unfold varG
      cases i with
      | zero => simp [hb, h1]
      | succ i =>
        have hi' : i < l.length := by omega
        have := h2 l[i] (List.getElem_mem hi')
        simpa [hb, List.getElem?_eq_getElem hi'] using this
    · rintro ⟨h1, h2, h3⟩
      refine ⟨⟨?_, fun x hx => ?_⟩, h3⟩
      · have := h1 0 (by omega)
        simpa [varG, hb] using this
      · obtain ⟨i, hi, rfl⟩ := List.getElem_of_mem hx
        have := h1 (i + 1) (by omega)
        simpa [varG, hb, List.getElem?_eq_getElem hi] using this
theorem varOK_no {t : ByteArray} {i : Nat} (h : i < t.size) (hp : ¬ ((65 ≤ bt t i ∧ bt t i ≤ 90) ∨ (i ≠ 0 ∧ ((97 ≤ bt t i ∧ bt t i ≤ 122) ∨ bt t i = 95 ∨ (48 ≤ bt t i ∧ bt t i ≤ 57))))) : varOK t = false := by
  rw [← varG_iff] at hp
  rw [Bool.eq_false_iff, Ne, varOK_iff]; intro hh; exact hp (hh.1 i h)
theorem var_ok (t : ByteArray) (ht : t.size ≤ 100000000000) : pureT T c99 [.str t] = some (.bool (varOK t)) := by
  apply pure_enter (by simp [c99])
  simp [c99]
  refine W_for T 0 52 t.size (fun i f σ => f 0 = .str t ∧ f 7 = .ptr 0 0 ∧ σ = [.iter t i] ∧ ∀ j, j < i → varG t j = true) ?_ _ _ ?_
  · rintro i f σ hi ⟨h0, h6, rfl, hall⟩
    by_cases hlt : i < t.size
    · have hno := @varOK_no t i hlt
      have hyes : _ → ∀ j, j < i + 1 → varG t j = true := fun h j hj => by
        by_cases e : j = i
        · subst e; exact (varG_iff t j).2 h
        · exact hall j (by omega)
      by_cases hlo : bt t i < 128
      · simp [h0, h6, hlt, dec_lo hlt hlo]
        repeat' (first | apply And.intro | intro _)
        all_goals first | exact hno (by omega) | exact hyes (by omega) _ (by assumption)
      · have := dec_hi hlt (by omega)
        simp [h0, h6, hlt]
        repeat' (first | apply And.intro | intro _)
        all_goals first | exact hno (by omega) | omega
    · have he : i = t.size := by omega
      subst he
      have hb : (varOK t = true) ↔ t.size ≠ 0 ∧ t.size ≤ 16 := by rw [varOK_iff]; exact ⟨fun h => h.2, fun h => ⟨fun i hi => hall i hi, h⟩⟩
      simp [h0, h6, ba_empty, ba_nil, -ByteArray.size_eq_zero_iff]
      refine ⟨fun h => ⟨fun h2 => hb.2 ⟨h, by omega⟩, fun h2 => ?_⟩, fun h => ?_⟩
      all_goals (refine Bool.eq_false_iff.2 fun hh => ?_; have := hb.1 hh; omega)
  · simp
theorem callVar (t : ByteArray) (ht : t.size ≤ 100000000000) (bs : Nat) (σ : Heap) : callT T 99 [.str t] bs σ = some (.bool (sym (varOK t)), σ) := call_clean rfl rfl rfl rfl (var_ok t ht)
theorem rel_ok (t : ByteArray) (ht : t.size ≤ 100000000000) : pureT T c39 [.str t] = some (.bool (relOK t)) := by
  have h1 := name_call t ht
  have h2 := bArity t
  apply pure_enter (by simp [c39])
  unfold relOK sMat
  generalize nameOK t = b at *
  cases b
  · simp [c39, h1, h2]
  · by_cases h3 : arityOf t < 0
    · by_cases h4 : t = ⟨#[109, 97, 116, 101, 114, 105, 97, 108, 105, 122, 101]⟩
      · simp [c39, h1, h2, h3, ← h4]
      · simp [c39, h1, h2, h3, h4]
    · simp [c39, h1, h2, h3]
theorem callRel (t : ByteArray) (ht : t.size ≤ 100000000000) (bs : Nat) (σ : Heap) : callT T 39 [.str t] bs σ = some (.bool (sym (relOK t)), σ) := call_clean rfl rfl rfl rfl (rel_ok t ht)
theorem pterm_ok : ∀ (d : Nat) (t : GT), d ≤ 100 → t.size ≤ 100000000000 → pureT T c94 [t.enc, .int .i64 (d : Int)] = some (.bool (termR d t)) := by
  intro d
  induction d with
  | zero =>
    intro t hd hs
    obtain ⟨k, n, ⟨vk, vn, vt, vl⟩, l⟩ := t
    simp only [GT.size, GV.size] at hs
    have hvar := callVar n (by omega)
    have hval := valRight (.mk vk vn vt vl) (by simp only [GV.size]; omega)
    have har1 := bArity vt
    have har2 := bArity n
    apply pure_enter (by simp [c94])
    by_cases h1 : k = 1
    · subst h1
      simp [c94, GT.enc_eq, GT.kind, GT.name, GT.value, GT.args, GV.kind, GV.num, GV.text, GV.items, hvar, hval, har1, har2, enc_mk, setRun, termR, termB, bareV, opOK]
      repeat' (first | apply And.intro | intro _)
      all_goals first | (simp_all; done) | grind
    by_cases h2 : k = 2
    · subst h2
      simp [c94, GT.enc_eq, GT.kind, GT.name, GT.value, GT.args, GV.kind, GV.num, GV.text, GV.items, hvar, hval, har1, har2, enc_mk, setRun, termR, termB, bareV, opOK]
      repeat' (first | apply And.intro | intro _)
      all_goals first | (simp_all; done) | grind
    by_cases h3 : k = 3
    · subst h3
      simp [c94, GT.enc_eq, GT.kind, GT.name, GT.value, GT.args, GV.kind, GV.num, GV.text, GV.items, hvar, hval, har1, har2, enc_mk, setRun, termR, termB, bareV, opOK]
      repeat' (first | apply And.intro | intro _)
      all_goals first | (simp_all; done) | grind
    by_cases h4 : k = 4
    · subst h4
      simp [c94, GT.enc_eq, GT.kind, GT.name, GT.value, GT.args, GV.kind, GV.num, GV.text, GV.items, hvar, hval, har1, har2, enc_mk, setRun, termR, termB, bareV, opOK]
      repeat' (first | apply And.intro | intro _)
      all_goals first | (simp_all; done) | grind
    simp [c94, GT.enc_eq, GT.kind, GT.name, GT.value, GT.args, GV.kind, GV.num, GV.text, GV.items, hvar, hval, har1, har2, enc_mk, setRun, termR, termB, bareV, opOK, h1, h2, h3, h4]
  | succ d ih =>
    intro t hd hs
    obtain ⟨k, n, ⟨vk, vn, vt, vl⟩, l⟩ := t
    simp only [GT.size, GV.size] at hs
    have hlen := GT.len_sizes l
    have hw : IntKind.i64.wrap (d : Int) = (d : Int) := wr64 (by omega) (by omega)
    have hall : ∀ bs A C, callT T 98 [.isl (GT.encs l) false, .func 123 [.ptr 1 0]] bs [A, .cells [.int .i64 ((d : Int) + 1)] 0 false, C] = some (.bool (sym (l.all (termR d))), [A, .cells [.int .i64 ((d : Int) + 1)] 0 false, C]) := fun bs A C =>
      allTerm (termR d) l 123 [.ptr 1 0] (by omega) _ (fun x hx τ bs => by
        have hr : ∀ bs σ, callT T 94 [x.enc, .int .i64 d] bs σ = some (.bool (termR d x), σ) := fun bs σ => call_clean rfl rfl rfl (by simp) (ih x (by omega) (by have := (GT.sizes_mem hx).1; omega))
        refine heap_enter (af := c123) (args' := [x.enc, .ptr 1 0]) rfl rfl (by simp [c123]) (by simp [c123]) rfl ?_
        simp [c123, baseA, hr, hw, ← GT.enc_eq, setRun, dropA_gc, refLt, res1, refLt2_bool]) bs
    have hvar := callVar n (by omega)
    have hval := valRight (.mk vk vn vt vl) (by simp only [GV.size]; omega)
    have har1 := bArity vt
    have har2 := bArity n
    apply pure_enter (by simp [c94])
    by_cases h1 : k = 1
    · subst h1
      simp [c94, GT.enc_eq, GT.kind, GT.name, GT.value, GT.args, GV.kind, GV.num, GV.text, GV.items, hvar, hval, har1, har2, enc_mk, setRun, termR, termB, bareV, opOK, hall]
      repeat' (first | apply And.intro | intro _)
      all_goals first | (simp_all; done) | grind
    by_cases h2 : k = 2
    · subst h2
      simp [c94, GT.enc_eq, GT.kind, GT.name, GT.value, GT.args, GV.kind, GV.num, GV.text, GV.items, hvar, hval, har1, har2, enc_mk, setRun, termR, termB, bareV, opOK, hall]
      repeat' (first | apply And.intro | intro _)
      all_goals first | (simp_all; done) | grind
    by_cases h3 : k = 3
    · subst h3
      simp [c94, GT.enc_eq, GT.kind, GT.name, GT.value, GT.args, GV.kind, GV.num, GV.text, GV.items, hvar, hval, har1, har2, enc_mk, setRun, termR, termB, bareV, opOK, hall]
      repeat' (first | apply And.intro | intro _)
      all_goals first | (simp_all; done) | grind
    by_cases h4 : k = 4
    · subst h4
      simp [c94, GT.enc_eq, GT.kind, GT.name, GT.value, GT.args, GV.kind, GV.num, GV.text, GV.items, hvar, hval, har1, har2, enc_mk, setRun, termR, termB, bareV, opOK, hall]
      repeat' (first | apply And.intro | intro _)
      all_goals first | (simp_all; done) | grind
    simp [c94, GT.enc_eq, GT.kind, GT.name, GT.value, GT.args, GV.kind, GV.num, GV.text, GV.items, hvar, hval, har1, har2, enc_mk, setRun, termR, termB, bareV, opOK, h1, h2, h3, h4]
end Go.Proofs.YtpkfkipbemdhmaaGreatDoor
end
section
set_option linter.unusedVariables false
set_option linter.unusedSimpArgs false
set_option linter.unnecessarySimpa false
namespace Go.Proofs.YtpkfkipbemdhmaaGreatDoor
open Go.Mach
theorem idxS_ok (l : List ByteArray) (s : ByteArray) (hl : l.length ≤ 100000000000) :
    pureT T c124 [.isl (l.map .str) false, .str s] = some (.int .i64 (idxG (fun x => decide (s = x)) l)) := by
  apply pure_enter (by simp [c124])
  simp [c124]
  refine W_for T 0 19 l.length (fun i f σ => f 0 = .isl (l.map .str) false ∧ f 1 = .str s ∧ f 7 = .int .i64 (l.length : Int) ∧ f 8 = .int .i64 (i : Int) ∧ ∀ j, (hj : j < l.length) → j < i → decide (s = l[j]) = false) ?_ _ _ ?_
  · rintro i f σ hi ⟨h0, h1, h7, h8, hall⟩
    by_cases hlt : i < l.length
    · have e1 : l[i]? = some l[i] := List.getElem?_eq_getElem hlt
      by_cases hp : s = l[i]
      · simp [h0, h1, h7, h8, hlt, ← hp]
        simp [idxG, idxG_drop (fun x => decide (s = x)) l i hlt hall (by simp [← hp])]
      · simp [h0, h1, h7, h8, hlt, hp]
        refine ⟨wr64 (by omega) (by omega), fun j hj hji => ?_⟩
        by_cases e : j = i
        · subst e; exact hp
        · simpa using hall j hj (by omega)
    · have he : i = l.length := by omega
      subst he
      have hn : l.findIdx? (fun x => decide (s = x)) = none := by
        rw [List.findIdx?_eq_none_iff]
        intro x hx
        obtain ⟨j, hj, rfl⟩ := List.getElem_of_mem hx
        exact hall j hj hj
      simp [h0, h1, h7, h8, idxG, hn]
  · simp
theorem conS_ok (l : List ByteArray) (s : ByteArray) (hl : l.length ≤ 100000000000) :
    pureT T c97 [.isl (l.map .str) false, .str s] = some (.bool (l.any (fun x => decide (s = x)))) := by
  have h1 : ∀ bs σ, callT T 124 [.isl (l.map .str) false, .str s] bs σ = some (.int .i64 (idxG (fun x => decide (s = x)) l), σ) := fun bs σ => call_clean rfl rfl rfl (by simp) (idxS_ok l s hl)
  have h2 := idxG_any (fun x => decide (s = x)) l
  apply pure_enter (by simp [c97])
  simp [c97, h1]
  refine ⟨fun h => by simpa using h2.1 h, fun h x hx e => ?_⟩
  have := h2.2 (by simp; exact e ▸ hx)
  omega
def six : List ByteArray := [⟨#[61, 61]⟩, ⟨#[33, 61]⟩, ⟨#[60]⟩, ⟨#[60, 61]⟩, ⟨#[62]⟩, ⟨#[62, 61]⟩]
theorem six_any (s : ByteArray) : six.any (fun x => decide (s = x)) = tOK s := by
  rw [Bool.eq_iff_iff]; simp [six, tOK]
theorem conSix (s : ByteArray) (o : AObj) (bs : Nat) : callT T 97 [.sl 1 0 6 1 false, .str s] bs [o, .cells [.str ⟨#[61, 61]⟩, .str ⟨#[33, 61]⟩, .str ⟨#[60]⟩, .str ⟨#[60, 61]⟩, .str ⟨#[62]⟩, .str ⟨#[62, 61]⟩] 0 false] =
    some (.bool (sym (tOK s)), [o, .cells [.str ⟨#[61, 61]⟩, .str ⟨#[33, 61]⟩, .str ⟨#[60]⟩, .str ⟨#[60, 61]⟩, .str ⟨#[62]⟩, .str ⟨#[62, 61]⟩] 0 false]) := by
  have h := conS_ok six s (by decide)
  rw [six_any] at h
  exact call_scal rfl rfl rfl h rfl (by simp) rfl
theorem fine_ok (t : GT) (hs : t.size ≤ 100000000000) : pureT T c52 [t.enc] = some (.bool (termR 8 t)) := by
  have h : ∀ bs σ, callT T 94 [t.enc, .int .i64 8] bs σ = some (.bool (sym (termR 8 t)), σ) := fun bs σ => call_clean rfl rfl rfl (by simp) (pterm_ok 8 t (by omega) hs)
  apply pure_enter (by simp [c52])
  simp [c52, h, ← GT.enc_eq]
theorem callFine (t : GT) (hs : t.size ≤ 100000000000) (bs : Nat) (σ : Heap) : callT T 52 [t.enc] bs σ = some (.bool (sym (termR 8 t)), σ) := call_clean rfl rfl rfl (by simp) (fine_ok t hs)
theorem allFine (l : List GT) (hs : GT.sizes l ≤ 10000000000) (bs : Nat) (σ : Heap) : callT T 98 [.isl (GT.encs l) false, .func 52 []] bs σ = some (.bool (sym (l.all (termR 8))), σ) :=
  allTerm (termR 8) l 52 [] (by have := GT.len_sizes l; omega) σ (fun x hx τ bs => callFine x (by have := (GT.sizes_mem hx).1; omega) bs _) bs
theorem pargs_ok (l : List GT) (hs : GT.sizes l ≤ 10000000000) : pureT T c78 [.isl (GT.encs l) false] = some (.bool (argsB l)) := by
  have hall := allFine l hs
  have hlen := GT.len_sizes l
  apply pure_enter (by simp [c78])
  unfold argsB headOK
  generalize l.all (termR 8) = b at *
  match l with
  | [] => simp [c78]
  | x :: l =>
    simp only [List.length_cons] at *
    by_cases h8 : l.length + 1 ≤ 8
    · have h8' : ¬ (8 < (l.length : Int) + 1) := by omega
      have h1' : ¬ ((l.length : Int) + 1 < 1) := by omega
      cases b
      · simp [c78, hall, h8, h8', h1']
      · simp [c78, hall, h8, h8', h1']
        repeat' (first | apply And.intro | intro _)
        all_goals first | (simp_all; done) | grind
    · have h8' : 8 < (l.length : Int) + 1 := by omega
      have h1' : ¬ ((l.length : Int) + 1 < 1) := by omega
      simp [c78, hall, h8, h8', h1']
theorem callArgs (l : List GT) (hs : GT.sizes l ≤ 10000000000) (bs : Nat) (σ : Heap) : callT T 78 [.isl (GT.encs l) false] bs σ = some (.bool (sym (argsB l)), σ) := call_clean rfl rfl rfl (by simp) (pargs_ok l hs)
theorem plit_ok (x : GL) (hs : x.size ≤ 10000000000) : pureT T c56 [x.enc] = some (.bool (litB x)) := by
  have h1 := x.name_le
  have h2 := x.args_le
  obtain ⟨k, n, l⟩ := x
  simp only at h1 h2
  have hrel := callRel n (by omega)
  have hvar := callVar n (by omega)
  have hargs := callArgs l (by omega)
  have hall := allFine l (by omega)
  have hcon := conSix n
  apply pure_enter (by simp [c56])
  unfold litB
  by_cases k1 : k = 1
  · subst k1
    simp [c56, GL.enc_eq, hrel, hargs]
    cases relOK n <;> simp
  by_cases k2 : k = 2
  · subst k2
    simp [c56, GL.enc_eq, hrel, hargs]
    cases relOK n <;> simp
  by_cases k3 : k = 3
  · subst k3
    generalize l.all (termR 8) = b at *
    simp [c56, GL.enc_eq, hcon, hall]
    repeat' (first | apply And.intro | intro _)
    all_goals first | (simp_all; done) | omega | grind
  by_cases k4 : k = 4
  · subst k4
    generalize l.all (termR 8) = b at *
    simp [c56, GL.enc_eq, hvar, hall]
    repeat' (first | apply And.intro | intro _)
    all_goals first | (simp_all; done) | omega | grind
  simp [c56, GL.enc_eq, k1, k2, k3, k4]
theorem callPLit (x : GL) (hs : x.size ≤ 10000000000) (bs : Nat) (σ : Heap) : callT T 56 [x.enc] bs σ = some (.bool (sym (litB x)), σ) := call_clean rfl rfl rfl (by simp) (plit_ok x hs)
theorem ptup_ok (x : GU) (hs : x.size ≤ 10000000000) : pureT T c34 [x.enc] = some (.bool (tupB x)) := by
  have h1 := x.name_le
  have h2 := x.args_le
  obtain ⟨n, l⟩ := x
  simp only at h1 h2
  have hrel := callRel n (by omega)
  have hlen := len_sizes l
  have hall : ∀ bs σ, callT T 74 [.isl (GV.encs l) false, .func 75 []] bs σ = some (.bool (sym (l.all rightT)), σ) := fun bs σ =>
    allValue rightT l 75 [] (by omega) σ (fun x hx τ bs => valRight x (by have := (sizes_mem hx).1; omega) bs _) bs
  apply pure_enter (by simp [c34])
  unfold tupB
  generalize l.all rightT = b at *
  match l with
  | [] =>
    simp [c34, GU.enc_eq, hrel]
  | x :: l =>
    simp only [List.length_cons] at *
    simp [c34, GU.enc_eq, hrel, hall]
    repeat' (first | apply And.intro | intro _)
    all_goals first | (simp_all; done) | omega | grind
theorem callPTup (x : GU) (hs : x.size ≤ 10000000000) (bs : Nat) (σ : Heap) : callT T 34 [x.enc] bs σ = some (.bool (sym (tupB x)), σ) := call_clean rfl rfl rfl (by simp) (ptup_ok x hs)
theorem pdecl_ok (x : GD) (hs : x.size ≤ 10000000000) : pureT T c38 [x.enc] = some (.bool (declB x)) := by
  have h1 := x.name_le
  obtain ⟨n, l⟩ := x
  simp only at h1
  have hrel := callRel n (by omega)
  apply pure_enter (by simp [c38])
  unfold declB
  simp [c38, GD.enc_eq, hrel]
  repeat' (first | apply And.intro | intro _)
  all_goals first | (simp_all; done) | omega | grind
theorem callPDecl (x : GD) (hs : x.size ≤ 10000000000) (bs : Nat) (σ : Heap) : callT T 38 [x.enc] bs σ = some (.bool (sym (declB x)), σ) := call_clean rfl rfl rfl (by simp) (pdecl_ok x hs)
end Go.Proofs.YtpkfkipbemdhmaaGreatDoor
end
section
set_option linter.unusedVariables false
set_option linter.unusedSimpArgs false
set_option linter.unnecessarySimpa false
namespace Go.Proofs.YtpkfkipbemdhmaaGreatDoor
open Go.Mach
theorem prule_ok (x : GR) (hs : x.size ≤ 10000000000) : pureT T c36 [x.enc] = some (.bool (ruleB x)) := by
  have h1 := x.label_le
  have h2 := x.head_le
  have h3 := x.args_le
  have h4 := x.agg_le
  have h5 := x.body_len
  have h6 := fun y hy => x.body_mem (y := y) hy
  obtain ⟨lab, hd, l, agg, at', body⟩ := x
  simp only at h1 h2 h3 h4 h5 h6
  have hlen := GT.len_sizes l
  have hr1 := callRel lab (by omega)
  have hr2 := callRel hd (by omega)
  have hargs := callArgs l (by omega)
  have hall : ∀ bs σ, callT T 79 [.isl (body.map GL.enc) false, .func 56 []] bs σ = some (.bool (sym (body.all litB)), σ) := fun bs σ =>
    allLiteral litB body 56 [] (by omega) σ (fun y hy τ bs => callPLit y (by have := h6 y hy; omega) bs _) bs
  apply pure_enter (by simp [c36])
  unfold ruleB
  simp only
  generalize body.all litB = b at *
  generalize relOK lab = b1 at *
  generalize relOK hd = b2 at *
  generalize argsB l = b3 at *
  cases b1
  · simp [c36, GR.enc_eq, hr1]
  cases b2
  · simp [c36, GR.enc_eq, hr1, hr2]
  cases b3
  · simp [c36, GR.enc_eq, hr1, hr2, hargs]
  by_cases c1 : body.length < 1
  · have c1' : (body.length : Int) < 1 := by omega
    simp [c36, GR.enc_eq, hr1, hr2, hargs, c1']
    omega
  by_cases c2 : 8 < body.length
  · have c1' : ¬ (body.length : Int) < 1 := by omega
    have c2' : 8 < (body.length : Int) := by omega
    simp [c36, GR.enc_eq, hr1, hr2, hargs, c1', c2']
    omega
  have c1' : ¬ (body.length : Int) < 1 := by omega
  have c2' : ¬ 8 < (body.length : Int) := by omega
  cases b
  · simp [c36, GR.enc_eq, hr1, hr2, hargs, c1', c2', hall]
  have c3 : 1 ≤ body.length ∧ body.length ≤ 8 := by omega
  unfold aggB
  simp only [c3, and_self, decide_true, Bool.and_true, Bool.true_and]
  by_cases g0 : agg = ⟨#[]⟩
  · subst g0
    simp [c36, GR.enc_eq, hr1, hr2, hargs, c1', c2', hall]
    done
  rw [if_neg g0]
  by_cases g1 : agg = sMin ∨ agg = sMax ∨ agg = sCount
  · have hat : ∀ h : 1 ≤ at' ∧ at' < l.length, at'.toNat < l.length := fun h => by omega
    by_cases g2 : 1 ≤ at' ∧ at' < (l.length : Int)
    · obtain ⟨t, ht⟩ : ∃ t, l[at'.toNat]? = some t := ⟨_, List.getElem?_eq_getElem (hat g2)⟩
      have g3 : 0 ≤ at' := by omega
      rcases g1 with rfl | rfl | rfl
      all_goals
        simp [c36, GR.enc_eq, hr1, hr2, hargs, c1', c2', hall, g2, g3, ht]
    · rcases g1 with rfl | rfl | rfl
      all_goals
        simp [c36, GR.enc_eq, hr1, hr2, hargs, c1', c2', hall, g2]
        try grind
  · have g1' := not_or.1 g1
    have g2' := not_or.1 g1'.2
    simp [c36, GR.enc_eq, hr1, hr2, hargs, c1', c2', hall, g0, g1'.1, g2'.1, g2'.2]
theorem callPRule (x : GR) (hs : x.size ≤ 10000000000) (bs : Nat) (σ : Heap) : callT T 36 [x.enc] bs σ = some (.bool (sym (ruleB x)), σ) := call_clean rfl rfl rfl (by simp) (prule_ok x hs)
theorem pright_ok (x : GP) (hs : x.size ≤ 10000000000) : pureT T c11 [x.enc] = some (.bool (progB x)) := by
  have h1 := x.decls_len
  have h2 := x.facts_len
  have h3 := x.rules_len
  have m1 := fun y hy => x.decls_mem (y := y) hy
  have m2 := fun y hy => x.facts_mem (y := y) hy
  have m3 := fun y hy => x.rules_mem (y := y) hy
  obtain ⟨ds, us, rs⟩ := x
  simp only at h1 h2 h3 m1 m2 m3
  have a1 : ∀ bs σ, callT T 37 [.isl (ds.map GD.enc) false, .func 38 []] bs σ = some (.bool (sym (ds.all declB)), σ) := fun bs σ =>
    allDecl declB ds 38 [] (by omega) σ (fun y hy τ bs => callPDecl y (by have := m1 y hy; omega) bs _) bs
  have a2 : ∀ bs σ, callT T 33 [.isl (us.map GU.enc) false, .func 34 []] bs σ = some (.bool (sym (us.all tupB)), σ) := fun bs σ =>
    allTuple tupB us 34 [] (by omega) σ (fun y hy τ bs => callPTup y (by have := m2 y hy; omega) bs _) bs
  have a3 : ∀ bs σ, callT T 35 [.isl (rs.map GR.enc) false, .func 36 []] bs σ = some (.bool (sym (rs.all ruleB)), σ) := fun bs σ =>
    allRule ruleB rs 36 [] (by omega) σ (fun y hy τ bs => callPRule y (by have := m3 y hy; omega) bs _) bs
  apply pure_enter (by simp [c11])
  unfold progB
  simp only
  generalize ds.all declB = b1 at *
  generalize us.all tupB = b2 at *
  generalize rs.all ruleB = b3 at *
  simp [c11, GP.enc_eq, a1, a2, a3]
  repeat' (first | apply And.intro | intro _)
  all_goals first | (simp_all; done) | omega | grind
theorem callPRight (x : GP) (hs : x.size ≤ 10000000000) (bs : Nat) (σ : Heap) : callT T 11 [x.enc] bs σ = some (.bool (sym (progB x)), σ) := call_clean rfl rfl rfl (by simp) (pright_ok x hs)
end Go.Proofs.YtpkfkipbemdhmaaGreatDoor
end
section
set_option linter.unusedVariables false
set_option linter.unusedSimpArgs false
set_option linter.unnecessarySimpa false
namespace Go.Proofs.YtpkfkipbemdhmaaGreatDoor
open Go.Mach
def joinF {α : Type} (f : Nat → α → List UInt8) (sep : List UInt8) : Nat → List α → List UInt8
  | _, [] => []
  | i, x :: l => (if i = 0 then [] else sep) ++ (f i x ++ joinF f sep (i + 1) l)
theorem joinF_snoc {α : Type} (f : Nat → α → List UInt8) (sep : List UInt8) : ∀ (i : Nat) (l : List α) (x : α), joinF f sep i (l ++ [x]) = joinF f sep i l ++ ((if i + l.length = 0 then [] else sep) ++ f (i + l.length) x)
  | i, [], x => by simp [joinF]
  | i, y :: l, x => by
    have e : i + 1 + l.length = i + (l.length + 1) := by omega
    simp only [List.cons_append, joinF, joinF_snoc f sep (i + 1) l x, List.append_assoc, List.length_cons, e]
    try simp
theorem joinF_take {α : Type} (f : Nat → α → List UInt8) (sep : List UInt8) (l : List α) (i : Nat) (h : i < l.length) : joinF f sep 0 (l.take (i + 1)) = joinF f sep 0 (l.take i) ++ ((if i = 0 then [] else sep) ++ f i l[i]) := by
  have e : l.take (i + 1) = l.take i ++ [l[i]] := by rw [List.take_add_one, List.getElem?_eq_getElem h]; rfl
  have e2 : 0 + (l.take i).length = i := by simp; omega
  rw [e, joinF_snoc, e2]
theorem joinF_app {α : Type} (f : Nat → α → List UInt8) (sep : List UInt8) : ∀ (i : Nat) (l m : List α), joinF f sep i (l ++ m) = joinF f sep i l ++ joinF f sep (i + l.length) m
  | i, [], m => by simp [joinF]
  | i, x :: l, m => by
    have e : i + 1 + l.length = i + (l.length + 1) := by omega
    simp only [List.cons_append, joinF, joinF_app f sep (i + 1) l m, List.append_assoc, List.length_cons, e]
theorem joinF_le {α : Type} (f : Nat → α → List UInt8) (sep : List UInt8) (l : List α) (i : Nat) : (joinF f sep 0 (l.take i)).length ≤ (joinF f sep 0 l).length := by
  have := joinF_app f sep 0 (l.take i) (l.drop i)
  rw [List.take_append_drop] at this
  rw [this, List.length_append]; omega
theorem bld_app {σ τ : Heap} {id : Nat} {o : AObj} (h : id < σ.length) : (σ.set id o ++ τ)[id]? = some o := by
  rw [List.getElem?_append_left (by simpa using h)]; simp [h]
theorem set_app {σ τ : Heap} {id : Nat} {o o' : AObj} (h : id < σ.length) : (σ.set id o ++ τ).set id o' = σ.set id o' ++ τ := by
  rw [List.set_append_left _ _ (by simpa using h), List.set_set]
theorem take_app2 {σ τ ρ : Heap} {id : Nat} {o : AObj} : (σ.set id o ++ (τ ++ ρ)).take (σ.length + τ.length) = σ.set id o ++ τ := by
  rw [← List.append_assoc, List.take_append_of_le_length (by simp), List.take_of_length_le (by simp)]
theorem ws_at {σ τ : Heap} {id t : Nat} {l : List UInt8} {s : ByteArray} (bs : Nat) (h : id < σ.length) (ht : t ∈ bldTs) (hl : l.length + s.size ≤ 70368744177664) :
    callT T 42 [.ptr id 0, .str s] bs (σ.set id (.bld t 5 l) ++ τ) = some (.undef, σ.set id (.bld t 5 (l ++ s.data.toList)) ++ τ) := by
  rw [callWS bs (bld_app h) ht hl, set_app h]
theorem wb_at {σ τ : Heap} {id t : Nat} {l : List UInt8} {n : Int} (bs : Nat) (h : id < σ.length) (ht : t ∈ bldTs) (hl : l.length + 1 ≤ 70368744177664) (h0 : 0 ≤ n) (h1 : n < 256) :
    callT T 45 [.ptr id 0, .int .u8 n] bs (σ.set id (.bld t 5 l) ++ τ) = some (.undef, σ.set id (.bld t 5 (l ++ [UInt8.ofNat n.toNat])) ++ τ) := by
  rw [callWB bs (bld_app h) ht hl h0 h1, set_app h]
theorem listTerm (w : Nat → GT → List UInt8) (s : ByteArray) (l : List GT) (g : Nat) (caps : List AV) (σ : Heap) (id t : Nat) (c0 : List UInt8) (τ : Heap) (hid : id < σ.length) (ht : t ∈ bldTs) (hl : l.length ≤ 100000000000) (hL : c0.length + (joinF w s.data.toList 0 l).length ≤ 70368744177664)
    (hc : ∀ (i : Nat) (hi : i < l.length) (cur : List UInt8) ρ bs, cur.length + (w i l[i]).length ≤ 70368744177664 → callT T g (.int .i64 (i : Int) :: l[i].enc :: caps) bs (σ.set id (.bld t 5 cur) ++ (τ ++ ρ)) = some (.tup [], σ.set id (.bld t 5 (cur ++ w i l[i])) ++ (τ ++ ρ))) (bs : Nat) :
    callT T 95 [.ptr id 0, .isl (GT.encs l) false, .str s, .func g caps] bs (σ.set id (.bld t 5 c0) ++ τ) = some (.tup [], σ.set id (.bld t 5 (c0 ++ joinF w s.data.toList 0 l)) ++ τ) := by
  have hsl : (σ.set id (.bld t 5 c0) ++ τ).length = σ.length + τ.length := by simp
  refine heap_enter (af := c95) (args' := [.ptr id 0, .isl (GT.encs l) false, .str s, .func g caps]) (σ1 := σ.set id (.bld t 5 c0) ++ τ) rfl rfl (by simp [c95]) (by simp [c95]) rfl ?_
  simp [c95, baseA]
  refine W_for T _ 29 l.length (fun i f ρ => f 0 = .ptr id 0 ∧ f 2 = .str s ∧ f 3 = .func g caps ∧ f 10 = .isl (GT.encs l) false ∧ f 11 = .int .i64 (l.length : Int) ∧ f 12 = .int .i64 (i : Int) ∧ ∃ rest, ρ = σ.set id (.bld t 5 (c0 ++ joinF w s.data.toList 0 (l.take i))) ++ (τ ++ rest)) ?_ _ _ ?_
  · rintro i f ρ hi ⟨g0, g2, g3, g10, g11, g12, rest, rfl⟩
    by_cases hlt : i < l.length
    · have e1 : l[i]? = some l[i] := List.getElem?_eq_getElem hlt
      have hw : IntKind.i64.wrap ((i : Int) + 1) = (i : Int) + 1 := wr64 (by omega) (by omega)
      have hj := joinF_take w s.data.toList l i hlt
      have hle := joinF_le w s.data.toList l (i + 1)
      rw [hj] at hle ⊢
      generalize joinF w s.data.toList 0 (l.take i) = cur at *
      have hss : s.data.toList.length = s.size := by simp
      by_cases h0 : i = 0
      · have h0' : ¬ (0 < i) := by omega
        simp only [h0, if_true, List.nil_append, List.length_append] at hle
        have hcl := fun r bs => hc i hlt (c0 ++ cur) (rest ++ r) bs (by simp only [List.length_append]; subst h0; omega)
        simp [g0, g2, g3, g10, g11, g12, hlt, hcl, hw, h0', ← GT.enc_eq]
        exact ⟨_, by rw [if_pos h0]; rfl⟩
      · have h0' : 0 < i := by omega
        simp only [h0, if_false, List.length_append] at hle
        have hws := fun r bs => ws_at (σ := σ) (τ := τ ++ (rest ++ r)) (s := s) (l := c0 ++ cur) bs hid ht (by simp only [List.length_append]; omega)
        have hcl := fun r bs => hc i hlt (c0 ++ cur ++ s.data.toList) (rest ++ r) bs (by simp only [List.length_append]; omega)
        simp only [List.append_assoc] at hws hcl
        simp [g0, g2, g3, g10, g11, g12, hlt, hws, hcl, hw, h0', ← GT.enc_eq]
        exact ⟨_, by rw [if_neg h0]⟩
    · have he : i = l.length := by omega
      subst he
      simp [g0, g2, g3, g10, g11, g12, dropA_gc, refLt, res1]
      exact take_app2
  · simp [joinF]
theorem listLiteral (w : Nat → GL → List UInt8) (s : ByteArray) (l : List GL) (g : Nat) (caps : List AV) (σ : Heap) (id t : Nat) (c0 : List UInt8) (τ : Heap) (hid : id < σ.length) (ht : t ∈ bldTs) (hl : l.length ≤ 100000000000) (hL : c0.length + (joinF w s.data.toList 0 l).length ≤ 70368744177664)
    (hc : ∀ (i : Nat) (hi : i < l.length) (cur : List UInt8) ρ bs, cur.length + (w i l[i]).length ≤ 70368744177664 → callT T g (.int .i64 (i : Int) :: l[i].enc :: caps) bs (σ.set id (.bld t 5 cur) ++ (τ ++ ρ)) = some (.tup [], σ.set id (.bld t 5 (cur ++ w i l[i])) ++ (τ ++ ρ))) (bs : Nat) :
    callT T 91 [.ptr id 0, .isl (l.map GL.enc) false, .str s, .func g caps] bs (σ.set id (.bld t 5 c0) ++ τ) = some (.tup [], σ.set id (.bld t 5 (c0 ++ joinF w s.data.toList 0 l)) ++ τ) := by
  have hsl : (σ.set id (.bld t 5 c0) ++ τ).length = σ.length + τ.length := by simp
  refine heap_enter (af := c91) (args' := [.ptr id 0, .isl (l.map GL.enc) false, .str s, .func g caps]) (σ1 := σ.set id (.bld t 5 c0) ++ τ) rfl rfl (by simp [c91]) (by simp [c91]) rfl ?_
  simp [c91, baseA]
  refine W_for T _ 29 l.length (fun i f ρ => f 0 = .ptr id 0 ∧ f 2 = .str s ∧ f 3 = .func g caps ∧ f 10 = .isl (l.map GL.enc) false ∧ f 11 = .int .i64 (l.length : Int) ∧ f 12 = .int .i64 (i : Int) ∧ ∃ rest, ρ = σ.set id (.bld t 5 (c0 ++ joinF w s.data.toList 0 (l.take i))) ++ (τ ++ rest)) ?_ _ _ ?_
  · rintro i f ρ hi ⟨g0, g2, g3, g10, g11, g12, rest, rfl⟩
    by_cases hlt : i < l.length
    · have e1 : l[i]? = some l[i] := List.getElem?_eq_getElem hlt
      have hw : IntKind.i64.wrap ((i : Int) + 1) = (i : Int) + 1 := wr64 (by omega) (by omega)
      have hj := joinF_take w s.data.toList l i hlt
      have hle := joinF_le w s.data.toList l (i + 1)
      rw [hj] at hle ⊢
      generalize joinF w s.data.toList 0 (l.take i) = cur at *
      have hss : s.data.toList.length = s.size := by simp
      by_cases h0 : i = 0
      · have h0' : ¬ (0 < i) := by omega
        simp only [h0, if_true, List.nil_append, List.length_append] at hle
        have hcl := fun r bs => hc i hlt (c0 ++ cur) (rest ++ r) bs (by simp only [List.length_append]; subst h0; omega)
        simp [g0, g2, g3, g10, g11, g12, hlt, hcl, hw, h0', ← GL.enc_eq]
        exact ⟨_, by rw [if_pos h0]; rfl⟩
      · have h0' : 0 < i := by omega
        simp only [h0, if_false, List.length_append] at hle
        have hws := fun r bs => ws_at (σ := σ) (τ := τ ++ (rest ++ r)) (s := s) (l := c0 ++ cur) bs hid ht (by simp only [List.length_append]; omega)
        have hcl := fun r bs => hc i hlt (c0 ++ cur ++ s.data.toList) (rest ++ r) bs (by simp only [List.length_append]; omega)
        simp only [List.append_assoc] at hws hcl
        simp [g0, g2, g3, g10, g11, g12, hlt, hws, hcl, hw, h0', ← GL.enc_eq]
        exact ⟨_, by rw [if_neg h0]⟩
    · have he : i = l.length := by omega
      subst he
      simp [g0, g2, g3, g10, g11, g12, dropA_gc, refLt, res1]
      exact take_app2
  · simp [joinF]
theorem listValue (w : Nat → GV → List UInt8) (s : ByteArray) (l : List GV) (g : Nat) (caps : List AV) (σ : Heap) (id t : Nat) (c0 : List UInt8) (τ : Heap) (hid : id < σ.length) (ht : t ∈ bldTs) (hl : l.length ≤ 100000000000) (hL : c0.length + (joinF w s.data.toList 0 l).length ≤ 70368744177664)
    (hc : ∀ (i : Nat) (hi : i < l.length) (cur : List UInt8) ρ bs, cur.length + (w i l[i]).length ≤ 70368744177664 → callT T g (.int .i64 (i : Int) :: l[i].enc :: caps) bs (σ.set id (.bld t 5 cur) ++ (τ ++ ρ)) = some (.tup [], σ.set id (.bld t 5 (cur ++ w i l[i])) ++ (τ ++ ρ))) (bs : Nat) :
    callT T 87 [.ptr id 0, .isl (GV.encs l) false, .str s, .func g caps] bs (σ.set id (.bld t 5 c0) ++ τ) = some (.tup [], σ.set id (.bld t 5 (c0 ++ joinF w s.data.toList 0 l)) ++ τ) := by
  have hsl : (σ.set id (.bld t 5 c0) ++ τ).length = σ.length + τ.length := by simp
  refine heap_enter (af := c87) (args' := [.ptr id 0, .isl (GV.encs l) false, .str s, .func g caps]) (σ1 := σ.set id (.bld t 5 c0) ++ τ) rfl rfl (by simp [c87]) (by simp [c87]) rfl ?_
  simp [c87, baseA]
  refine W_for T _ 29 l.length (fun i f ρ => f 0 = .ptr id 0 ∧ f 2 = .str s ∧ f 3 = .func g caps ∧ f 10 = .isl (GV.encs l) false ∧ f 11 = .int .i64 (l.length : Int) ∧ f 12 = .int .i64 (i : Int) ∧ ∃ rest, ρ = σ.set id (.bld t 5 (c0 ++ joinF w s.data.toList 0 (l.take i))) ++ (τ ++ rest)) ?_ _ _ ?_
  · rintro i f ρ hi ⟨g0, g2, g3, g10, g11, g12, rest, rfl⟩
    by_cases hlt : i < l.length
    · have e1 : l[i]? = some l[i] := List.getElem?_eq_getElem hlt
      have hw : IntKind.i64.wrap ((i : Int) + 1) = (i : Int) + 1 := wr64 (by omega) (by omega)
      have hj := joinF_take w s.data.toList l i hlt
      have hle := joinF_le w s.data.toList l (i + 1)
      rw [hj] at hle ⊢
      generalize joinF w s.data.toList 0 (l.take i) = cur at *
      have hss : s.data.toList.length = s.size := by simp
      by_cases h0 : i = 0
      · have h0' : ¬ (0 < i) := by omega
        simp only [h0, if_true, List.nil_append, List.length_append] at hle
        have hcl := fun r bs => hc i hlt (c0 ++ cur) (rest ++ r) bs (by simp only [List.length_append]; subst h0; omega)
        simp [g0, g2, g3, g10, g11, g12, hlt, hcl, hw, h0', ← GV.enc_eq]
        exact ⟨_, by rw [if_pos h0]; rfl⟩
      · have h0' : 0 < i := by omega
        simp only [h0, if_false, List.length_append] at hle
        have hws := fun r bs => ws_at (σ := σ) (τ := τ ++ (rest ++ r)) (s := s) (l := c0 ++ cur) bs hid ht (by simp only [List.length_append]; omega)
        have hcl := fun r bs => hc i hlt (c0 ++ cur ++ s.data.toList) (rest ++ r) bs (by simp only [List.length_append]; omega)
        simp only [List.append_assoc] at hws hcl
        simp [g0, g2, g3, g10, g11, g12, hlt, hws, hcl, hw, h0', ← GV.enc_eq]
        exact ⟨_, by rw [if_neg h0]⟩
    · have he : i = l.length := by omega
      subst he
      simp [g0, g2, g3, g10, g11, g12, dropA_gc, refLt, res1]
      exact take_app2
  · simp [joinF]
end Go.Proofs.YtpkfkipbemdhmaaGreatDoor
end
section
set_option linter.unusedVariables false
set_option linter.unusedSimpArgs false
set_option linter.unnecessarySimpa false
namespace Go.Proofs.YtpkfkipbemdhmaaGreatDoor
open Go.Mach
theorem tc_join (sep : List UInt8) : ∀ (i : Nat) (l : List GT), joinF (fun _ => shT) sep (i + 1) l = shTc sep l
  | _, [] => rfl
  | i, x :: l => by simp only [joinF, shTc, tc_join sep (i + 1) l]; simp
theorem ts_join (sep : List UInt8) (l : List GT) : joinF (fun _ => shT) sep 0 l = shTs sep l := by
  cases l with
  | nil => rfl
  | cons x l => simp only [joinF, shTs, tc_join]; simp
theorem term_value {d : Nat} {k : Int} {n : ByteArray} {v : GV} {l : List GT} (h : termR d (.mk k n v l) = true) (hk : k = 2) : rightT v = true := by
  obtain ⟨_, ⟨n', e, hn⟩ | ⟨v', e, hv, _⟩ | ⟨n', l', e, hn, _⟩ | ⟨n', l', e, _⟩⟩ := term_cases h <;> injection e with e1 e2 e3 e4 <;> subst e1
  · omega
  · rw [e3]; exact hv
  · omega
  · omega
theorem term_args {d : Nat} {k : Int} {n : ByteArray} {v : GV} {l : List GT} (h : termR d (.mk k n v l) = true) : ∀ x ∈ l, ∃ e, termR e x = true := by
  intro x hx
  obtain ⟨_, ⟨n', e, hn⟩ | ⟨v', e, hv, _⟩ | ⟨n', l', e, hn, hl⟩ | ⟨n', l', e, _, _, hl⟩⟩ := term_cases h <;> injection e with e1 e2 e3 e4 <;> subst e4
  · cases hx
  · cases hx
  · exact ⟨_, hl x hx⟩
  · exact ⟨_, hl x hx⟩
theorem take_eq {L A : Heap} (B : Heap) {n : Nat} (h1 : L = A ++ B) (h2 : n = A.length) : L.take n = A := by rw [h1, h2]; simp
theorem printV_list {v : GV} (h : rightT v = true) : (printV v).data.toList = pr v := by simp [printV, h, S]
theorem printV_size {v : GV} (h : rightT v = true) : (printV v).size = (pr v).length := by simp only [printV, h, if_true]; rfl
theorem wterm_ok : ∀ (m : Nat) (t : GT), t.size ≤ m → m ≤ 10000000000 → (∃ d, termR d t = true) → ∀ (σ : Heap) (id tt : Nat) (c0 : List UInt8) (τ : Heap) (bs : Nat), id < σ.length → tt ∈ bldTs → c0.length + (shT t).length ≤ 70368744177664 →
    callT T 53 [.ptr id 0, t.enc] bs (σ.set id (.bld tt 5 c0) ++ τ) = some (.tup [], σ.set id (.bld tt 5 (c0 ++ shT t)) ++ τ) := by
  intro m
  induction m with
  | zero => intro t h; obtain ⟨k, n, ⟨vk, vn, vt, vl⟩, l⟩ := t; simp [GT.size] at h
  | succ m ih =>
    intro t hs hm hd σ id tt c0 τ bs hid ht hlen
    obtain ⟨d, hd⟩ := hd
    obtain ⟨k, n, v, l⟩ := t
    simp only [GT.size] at hs
    have hsl : ∀ o : AObj, (σ.set id o ++ τ).length = σ.length + τ.length := fun o => by simp
    have hns : n.data.toList.length = n.size := by simp
    refine heap_enter (af := c53) (args' := [.ptr id 0, (GT.mk k n v l).enc]) (σ1 := σ.set id (.bld tt 5 c0) ++ τ) rfl rfl (by simp [c53]) (by simp [c53]) rfl ?_
    by_cases h1 : k = 1
    · subst h1
      have hp : shT (.mk 1 n v l) = n.data.toList := by simp [shT]
      rw [hp] at hlen ⊢
      have hws := fun r bs => ws_at (σ := σ) (τ := τ ++ r) (s := n) (l := c0) bs hid ht (by omega)
      simp [c53, baseA, GT.enc_eq, GT.kind, GT.name, GT.value, GT.args, hws, dropA_gc, refLt, res1]
      exact take_app2
    by_cases h2 : k = 2
    · subst h2
      have hv := term_value hd rfl
      have hp : shT (.mk 2 n v l) = pr v := by simp [shT]
      rw [hp] at hlen ⊢
      have hpv := valPrint v (right_okV _ _ hv) (by have := rightT_size hv; omega)
      have hws := fun r bs => ws_at (σ := σ) (τ := τ ++ r) (s := printV v) (l := c0) bs hid ht (by rw [printV_size hv]; exact hlen)
      rw [printV_list hv] at hws
      simp [c53, baseA, GT.enc_eq, GT.kind, GT.name, GT.value, GT.args, hws, hpv, dropA_gc, refLt, res1]
      exact take_app2
    have hlist : ∀ (sep : ByteArray) (cur : List UInt8) (o : AObj) (bs : Nat), cur.length + (shTs sep.data.toList l).length ≤ 70368744177664 →
        callT T 95 [.ptr id 0, .isl (GT.encs l) false, .str sep, .func 96 [.ptr (σ.length + τ.length) 0]] bs (σ.set id (.bld tt 5 cur) ++ (τ ++ [.cells [.ptr id 0] 0 false, o])) =
          some (.tup [], σ.set id (.bld tt 5 (cur ++ shTs sep.data.toList l)) ++ (τ ++ [.cells [.ptr id 0] 0 false, o])) := fun sep cur o bs hb => by
      rw [← ts_join] at hb ⊢
      refine listTerm (fun _ => shT) sep l 96 [.ptr (σ.length + τ.length) 0] σ id tt cur (τ ++ [.cells [.ptr id 0] 0 false, o]) hid ht (by have := GT.len_sizes l; omega) hb (fun i hi cur ρ bs hb2 => ?_) bs
      have hx := List.getElem_mem hi
      have hw := fun r bs => ih l[i] (by have := (GT.sizes_mem hx).1; omega) (by omega) (term_args hd _ hx) σ id tt cur (τ ++ r) bs hid ht hb2
      have hk : ∀ r : Heap, (σ.set id (.bld tt 5 cur) ++ (τ ++ .cells [.ptr id 0] 0 false :: r))[σ.length + τ.length]? = some (.cells [.ptr id 0] 0 false) := fun r => by
        rw [← List.append_assoc, List.getElem?_append_right (by simp)]; simp
      refine heap_enter (af := c96) (args' := [.int .i64 (i : Int), l[i].enc, .ptr (σ.length + τ.length) 0]) rfl rfl (by simp [c96]) (by simp [c96]) rfl ?_
      simp [c96, baseA, hk, hw, ← GT.enc_eq, dropA_gc, refLt, res1]
      exact take_eq [_] (by simp; rfl) (by simp)
    by_cases h3 : k = 3
    · subst h3
      have hp : shT (.mk 3 n v l) = n.data.toList ++ 40 :: (shTs [44] l ++ [41]) := by simp [shT]
      rw [hp] at hlen ⊢
      simp only [List.length_append, List.length_cons, List.length_nil, hns] at hlen
      have hws := fun r bs => ws_at (σ := σ) (τ := τ ++ r) (s := n) (l := c0) bs hid ht (by omega)
      have hwb := fun r bs => wb_at (σ := σ) (τ := τ ++ r) (n := 40) (l := c0 ++ n.data.toList) bs hid ht (by simp only [List.length_append, hns]; omega) (by decide) (by decide)
      have hli := fun o bs => hlist ⟨#[44]⟩ (c0 ++ n.data.toList ++ [40]) o bs (by simp only [List.length_append, List.length_cons, List.length_nil, hns]; show _ + (shTs [44] l).length ≤ _; omega)
      have hwe := fun r bs => wb_at (σ := σ) (τ := τ ++ r) (n := 41) (l := c0 ++ n.data.toList ++ [40] ++ shTs [44] l) bs hid ht (by simp only [List.length_append, List.length_cons, List.length_nil, hns]; omega) (by decide) (by decide)
      simp [-List.append_assoc] at hws hwb hli hwe
      simp only [List.append_assoc, List.cons_append, List.nil_append] at hws hwb hli hwe
      simp [c53, baseA, GT.enc_eq, GT.kind, GT.name, GT.value, GT.args, hws, hwb, hli, hwe, dropA_gc, refLt, res1]
      exact take_app2
    have hp : shT (.mk k n v l) = 40 :: (shTs n.data.toList l ++ [41]) := by simp [shT, h1, h2, h3]
    rw [hp] at hlen ⊢
    simp only [List.length_append, List.length_cons, List.length_nil] at hlen
    have hwb := fun r bs => wb_at (σ := σ) (τ := τ ++ r) (n := 40) (l := c0) bs hid ht (by omega) (by decide) (by decide)
    have hli := fun o bs => hlist n (c0 ++ [40]) o bs (by simp only [List.length_append, List.length_cons, List.length_nil]; omega)
    have hwe := fun r bs => wb_at (σ := σ) (τ := τ ++ r) (n := 41) (l := c0 ++ [40] ++ shTs n.data.toList l) bs hid ht (by simp only [List.length_append, List.length_cons, List.length_nil]; omega) (by decide) (by decide)
    simp [-List.append_assoc] at hwb hli hwe
    simp only [List.append_assoc, List.cons_append, List.nil_append] at hwb hli hwe
    simp [c53, baseA, GT.enc_eq, GT.kind, GT.name, GT.value, GT.args, hwb, hli, hwe, dropA_gc, refLt, res1, h1, h2, h3]
    exact take_app2
theorem callWTerm (t : GT) (hs : t.size ≤ 10000000000) (hd : ∃ d, termR d t = true) (σ : Heap) (id tt : Nat) (c0 : List UInt8) (τ : Heap) (bs : Nat) (hid : id < σ.length) (ht : tt ∈ bldTs) (hl : c0.length + (shT t).length ≤ 70368744177664) :
    callT T 53 [.ptr id 0, t.enc] bs (σ.set id (.bld tt 5 c0) ++ τ) = some (.tup [], σ.set id (.bld tt 5 (c0 ++ shT t)) ++ τ) := wterm_ok t.size t (Nat.le_refl _) hs hd σ id tt c0 τ bs hid ht hl
end Go.Proofs.YtpkfkipbemdhmaaGreatDoor
end
section
set_option linter.unusedVariables false
set_option linter.unusedSimpArgs false
set_option linter.unnecessarySimpa false
namespace Go.Proofs.YtpkfkipbemdhmaaGreatDoor
open Go.Mach
theorem at_join (agg : List UInt8) (p : Int) : ∀ (i : Nat) (l : List GT), joinF (shAt agg p) [44] (i + 1) l = shAtC agg p (i + 1) l
  | _, [] => rfl
  | i, x :: l => by simp only [joinF, shAtC, at_join agg p (i + 1) l]; simp
theorem ats_join (agg : List UInt8) (p : Int) (l : List GT) : joinF (shAt agg p) [44] 0 l = shAtS agg p 0 l := by
  cases l with
  | nil => rfl
  | cons x l => simp only [joinF, shAtS, at_join]; simp
theorem watom (name agg : ByteArray) (at' : Int) (l : List GT) (hn : name.size ≤ 10000000000) (hg : agg.size ≤ 10000000000) (hs : GT.sizes l ≤ 10000000000) (hd : ∀ x ∈ l, ∃ d, termR d x = true) (σ : Heap) (id tt : Nat) (c0 : List UInt8) (τ : Heap) (bs : Nat) (hid : id < σ.length) (ht : tt ∈ bldTs)
    (hl : c0.length + (shAtom name.data.toList l agg.data.toList at').length ≤ 70368744177664) :
    callT T 90 [.ptr id 0, .str name, .isl (GT.encs l) false, .str agg, .int .i64 at'] bs (σ.set id (.bld tt 5 c0) ++ τ) = some (.tup [], σ.set id (.bld tt 5 (c0 ++ shAtom name.data.toList l agg.data.toList at')) ++ τ) := by
  have hlen := GT.len_sizes l
  have hnn : name.data.toList.length = name.size := by simp
  have hgg : agg.data.toList.length = agg.size := by simp
  have hsl : ∀ o : AObj, (σ.set id o ++ τ).length = σ.length + τ.length := fun o => by simp
  simp only [shAtom, List.length_append, List.length_cons, List.length_nil, hnn] at hl
  have hlist : ∀ (cur : List UInt8) (bs : Nat), cur.length + (shAtS agg.data.toList at' 0 l).length ≤ 70368744177664 →
      callT T 95 [.ptr id 0, .isl (GT.encs l) false, .str ⟨#[44]⟩, .func 122 [.ptr (σ.length + τ.length + 1) 0, .ptr (σ.length + τ.length + 2) 0, .ptr (σ.length + τ.length) 0]] bs
        (σ.set id (.bld tt 5 cur) ++ (τ ++ [.cells [.ptr id 0] 0 false, .cells [.str agg] 0 false, .cells [.int .i64 at'] 0 false])) =
      some (.tup [], σ.set id (.bld tt 5 (cur ++ shAtS agg.data.toList at' 0 l)) ++ (τ ++ [.cells [.ptr id 0] 0 false, .cells [.str agg] 0 false, .cells [.int .i64 at'] 0 false])) := fun cur bs hb => by
    rw [← ats_join] at hb ⊢
    refine listTerm (shAt agg.data.toList at') ⟨#[44]⟩ l 122 _ σ id tt cur (τ ++ [.cells [.ptr id 0] 0 false, .cells [.str agg] 0 false, .cells [.int .i64 at'] 0 false]) hid ht (by omega) hb (fun i hi cur ρ bs hb2 => ?_) bs
    have hx := List.getElem_mem hi
    have hxs := (GT.sizes_mem hx).1
    have hxn := GT.name_le l[i]
    have hk : ∀ (j : Nat) (o : AObj) (r : Heap), ([AObj.cells [.ptr id 0] 0 false, .cells [.str agg] 0 false, .cells [.int .i64 at'] 0 false] : Heap)[j]? = some o → (σ.set id (.bld tt 5 cur) ++ (τ ++ .cells [.ptr id 0] 0 false :: .cells [.str agg] 0 false :: .cells [.int .i64 at'] 0 false :: r))[σ.length + τ.length + j]? = some o := fun j o r h => by
      rw [← List.append_assoc, List.getElem?_append_right (by simp)]
      have e : σ.length + τ.length + j - (σ.set id (.bld tt 5 cur) ++ τ).length = j := by rw [hsl]; omega
      rw [e]
      have hj : j < 3 := by have := (List.getElem?_eq_some_iff.1 h).1; simpa using this
      rw [← h]
      have : j = 0 ∨ j = 1 ∨ j = 2 := by omega
      rcases this with rfl | rfl | rfl <;> simp
    have hk0 := fun r => hk 0 _ r rfl
    have hk1 := fun r => hk 1 _ r rfl
    have hk2 := fun r => hk 2 _ r rfl
    rw [Nat.add_zero] at hk0
    refine heap_enter (af := c122) (args' := [.int .i64 (i : Int), l[i].enc, .ptr (σ.length + τ.length + 1) 0, .ptr (σ.length + τ.length + 2) 0, .ptr (σ.length + τ.length) 0]) rfl rfl (by simp [c122]) (by simp [c122]) rfl ?_
    by_cases hc : agg.data.toList ≠ [] ∧ (i : Int) = at'
    · have hag : agg ≠ ⟨#[]⟩ := fun e => hc.1 (ba_list_nil.2 e)
      have hsh : shAt agg.data.toList at' i l[i] = agg.data.toList ++ 60 :: (l[i].name.data.toList ++ [62]) := by rw [shAt, if_pos hc]
      rw [hsh] at hb2 ⊢
      have hnx : l[i].name.data.toList.length = l[i].name.size := by simp
      simp only [List.length_append, List.length_cons, List.length_nil, hgg, hnx] at hb2
      have hws := fun r bs => ws_at (σ := σ) (τ := τ ++ r) (s := ((agg ++ ⟨#[60]⟩) ++ l[i].name) ++ ⟨#[62]⟩) (l := cur) bs hid ht (by have e1 : (ByteArray.mk #[60]).size = 1 := rfl; have e2 : (ByteArray.mk #[62]).size = 1 := rfl; simp only [ByteArray.size_append, e1, e2]; omega)
      have z1 : (ByteArray.mk #[60]).size = 1 := rfl
      have z2 : (ByteArray.mk #[62]).size = 1 := rfl
      have q1 : (agg.size : Int) + 1 ≤ 9223372036854775807 := by omega
      have q2 : (agg.size : Int) + 1 + (l[i].name.size : Int) ≤ 9223372036854775807 := by omega
      have q3 : (agg.size : Int) + 1 + (l[i].name.size : Int) + 1 ≤ 9223372036854775807 := by omega
      simp at hws
      simp [c122, baseA, hk0, hk1, hk2, hws, hag, hc.2, ← GT.enc_eq, dropA_gc, refLt, res1, z1, z2, q1, q2, q3, ByteArray.size_append]
      exact take_eq [_] (by simp; rfl) (by simp)
    · have hsh : shAt agg.data.toList at' i l[i] = shT l[i] := by rw [shAt, if_neg hc]
      rw [hsh] at hb2 ⊢
      have hw := fun r bs => callWTerm l[i] (by omega) (hd _ hx) σ id tt cur (τ ++ r) bs hid ht hb2
      by_cases hag : agg = ⟨#[]⟩
      · subst hag
        simp [c122, baseA, hk0, hk1, hk2, hw, ← GT.enc_eq, dropA_gc, refLt, res1]
        exact take_eq [_] (by simp; rfl) (by simp)
      · have hat : ¬ ((i : Int) = at') := fun e => hc ⟨fun h => hag (ba_list_nil.1 h), e⟩
        simp [c122, baseA, hk0, hk1, hk2, hw, hag, hat, ← GT.enc_eq, dropA_gc, refLt, res1]
        exact take_eq [_] (by simp; rfl) (by simp)
  have z1 : (ByteArray.mk #[40, 64]).size = 2 := rfl
  have q1 : (name.size : Int) + 2 ≤ 9223372036854775807 := by omega
  have hws := fun r bs => ws_at (σ := σ) (τ := τ ++ r) (s := name ++ ⟨#[40, 64]⟩) (l := c0) bs hid ht (by simp only [ByteArray.size_append, z1]; omega)
  have hn2 : (name ++ ⟨#[40, 64]⟩).data.toList.length = name.size + 2 := by simp
  have b1 : (c0 ++ (name ++ ⟨#[40, 64]⟩).data.toList).length + (shAtS agg.data.toList at' 0 l).length ≤ 70368744177664 := by rw [List.length_append, hn2]; omega
  have hli := fun bs => hlist (c0 ++ (name ++ ⟨#[40, 64]⟩).data.toList) bs b1
  have b2 : (c0 ++ (name ++ ⟨#[40, 64]⟩).data.toList ++ shAtS agg.data.toList at' 0 l).length + 1 ≤ 70368744177664 := by rw [List.length_append, List.length_append, hn2]; omega
  have hwe := fun r bs => wb_at (σ := σ) (τ := τ ++ r) (n := 41) (l := c0 ++ (name ++ ⟨#[40, 64]⟩).data.toList ++ shAtS agg.data.toList at' 0 l) bs hid ht b2 (by decide) (by decide)
  simp [Nat.add_assoc] at hws hli hwe
  refine heap_enter (af := c90) (args' := [.ptr id 0, .str name, .isl (GT.encs l) false, .str agg, .int .i64 at']) (σ1 := σ.set id (.bld tt 5 c0) ++ τ) rfl rfl (by simp [c90]) (by simp [c90]) rfl ?_
  simp [c90, baseA, hws, hli, hwe, z1, q1, dropA_gc, refLt, res1, shAtom]
  exact take_app2
end Go.Proofs.YtpkfkipbemdhmaaGreatDoor
end
section
set_option linter.unusedVariables false
set_option linter.unusedSimpArgs false
set_option linter.unnecessarySimpa false
namespace Go.Proofs.YtpkfkipbemdhmaaGreatDoor
open Go.Mach
theorem key_at {σ τ r : Heap} {id : Nat} {o a : AObj} : (σ.set id o ++ (τ ++ a :: r))[σ.length + τ.length]? = some a := by
  rw [← List.append_assoc, List.getElem?_append_right (by simp)]; simp
theorem args_ex {l : List GT} (h : ∀ x ∈ l, termR 8 x = true) : ∀ x ∈ l, ∃ d, termR d x = true := fun x hx => ⟨8, h x hx⟩
theorem rel_size {s : ByteArray} (h : relOK s = true) : s.size ≤ 16 := ((nameOK_iff s).1 (rel_name h).1).2.2
theorem var_size {s : ByteArray} (h : varOK s = true) : s.size ≤ 16 := ((varOK_iff s).1 h).2.2
theorem test_size {s : ByteArray} (h : tOK s = true) : s.size ≤ 2 := by
  rcases of_decide_eq_true h with rfl | rfl | rfl | rfl | rfl | rfl <;> decide
theorem wlit_ok (x : GL) (hx : litB x = true) (hs : x.size ≤ 10000000000) (σ : Heap) (id tt : Nat) (c0 : List UInt8) (τ : Heap) (bs : Nat) (hid : id < σ.length) (ht : tt ∈ bldTs) (hl : c0.length + (shLit x).length ≤ 70368744177664) :
    callT T 57 [.ptr id 0, x.enc] bs (σ.set id (.bld tt 5 c0) ++ τ) = some (.tup [], σ.set id (.bld tt 5 (c0 ++ shLit x)) ++ τ) := by
  have hal := x.args_le
  have hsl : ∀ o : AObj, (σ.set id o ++ τ).length = σ.length + τ.length := fun o => by simp
  refine heap_enter (af := c57) (args' := [.ptr id 0, x.enc]) (σ1 := σ.set id (.bld tt 5 c0) ++ τ) rfl rfl (by simp [c57]) (by simp [c57]) rfl ?_
  have z0 : (ByteArray.mk #[32]).size = 1 := rfl
  have z4 : (ByteArray.mk #[32, 58, 61, 32]).size = 4 := rfl
  rcases lit_cases hx with ⟨hk, h1, h2⟩ | ⟨hk, h1, y, z, e, hy, hz⟩ | ⟨hk, h1, y, e, hy⟩
  · have hn := rel_size h1
    rcases hk with hk | hk
    · rw [sh1 hk] at hl ⊢
      have hat := fun r bs => watom x.name ⟨#[]⟩ 0 x.args (by omega) (by decide) (by omega) (args_ex (args_all h2)) σ id tt c0 (τ ++ r) bs hid ht hl
      simp at hat
      simp [c57, baseA, GL.enc_eq, hk, hat, dropA_gc, refLt, res1]
      exact take_app2
    · rw [sh2 hk] at hl ⊢
      simp only [List.length_cons] at hl
      have hwb := fun r bs => wb_at (σ := σ) (τ := τ ++ r) (n := 33) (l := c0) bs hid ht (by omega) (by decide) (by decide)
      have hat := fun r bs => watom x.name ⟨#[]⟩ 0 x.args (by omega) (by decide) (by omega) (args_ex (args_all h2)) σ id tt (c0 ++ [33]) (τ ++ r) bs hid ht (by simp only [List.length_append, List.length_cons, List.length_nil]; show _ + (shAtom x.name.data.toList x.args [] 0).length ≤ _; omega)
      simp at hat hwb
      simp [c57, baseA, GL.enc_eq, hk, hat, hwb, dropA_gc, refLt, res1]
      exact take_app2
  · have hn := test_size h1
    have hp : shLit x = shTs (32 :: (x.name.data.toList ++ [32])) x.args := by simp [shLit, hk]
    rw [hp] at hl ⊢
    have hsep : ((⟨#[32]⟩ ++ x.name) ++ ⟨#[32]⟩ : ByteArray).data.toList = 32 :: (x.name.data.toList ++ [32]) := by simp
    have hli : ∀ (o : AObj) (bs : Nat), callT T 95 [.ptr id 0, .isl (GT.encs x.args) false, .str ((⟨#[32]⟩ ++ x.name) ++ ⟨#[32]⟩), .func 100 [.ptr (σ.length + τ.length) 0]] bs (σ.set id (.bld tt 5 c0) ++ (τ ++ [.cells [.ptr id 0] 0 false, o])) =
          some (.tup [], σ.set id (.bld tt 5 (c0 ++ shTs (32 :: (x.name.data.toList ++ [32])) x.args)) ++ (τ ++ [.cells [.ptr id 0] 0 false, o])) := fun o bs => by
      rw [← hsep, ← ts_join] at hl ⊢
      refine listTerm (fun _ => shT) _ x.args 100 [.ptr (σ.length + τ.length) 0] σ id tt c0 (τ ++ [.cells [.ptr id 0] 0 false, o]) hid ht (by have := GT.len_sizes x.args; omega) hl (fun i hi cur ρ bs hb2 => ?_) bs
      have hm := List.getElem_mem hi
      have hex : ∃ d, termR d x.args[i] = true := by
        refine args_ex (l := x.args) (fun w hw => ?_) _ hm
        rw [e] at hw; simp at hw; rcases hw with rfl | rfl; exact hy; exact hz
      have hw := fun r bs => callWTerm x.args[i] (by have := (GT.sizes_mem hm).1; omega) hex σ id tt cur (τ ++ r) bs hid ht hb2
      refine heap_enter (af := c100) (args' := [.int .i64 (i : Int), x.args[i].enc, .ptr (σ.length + τ.length) 0]) rfl rfl (by simp [c100]) (by simp [c100]) rfl ?_
      simp [c100, baseA, key_at, hw, ← GT.enc_eq, dropA_gc, refLt, res1]
      exact take_eq [_] (by simp; rfl) (by simp)
    have q1 : (1 : Int) + (x.name.size : Int) ≤ 9223372036854775807 := by omega
    have q2 : (1 : Int) + (x.name.size : Int) + 1 ≤ 9223372036854775807 := by omega
    simp [c57, baseA, GL.enc_eq, hk, hli, z0, q1, q2, dropA_gc, refLt, res1, ByteArray.size_append]
    exact take_app2
  · have hn := var_size h1
    have hns : x.name.data.toList.length = x.name.size := by simp
    rw [sh4 hk e] at hl ⊢
    simp only [List.length_append, List.length_cons, hns] at hl
    have hy8 : y.size ≤ 10000000000 := by have := (GT.sizes_mem (l := x.args) (x := y) (by simp [e])).1; omega
    have b1 : (x.name ++ ⟨#[32, 58, 61, 32]⟩).data.toList.length = x.name.size + 4 := by simp
    have hws := fun r bs => ws_at (σ := σ) (τ := τ ++ r) (s := x.name ++ ⟨#[32, 58, 61, 32]⟩) (l := c0) bs hid ht (by simp only [ByteArray.size_append, z4]; omega)
    have hw := fun r bs => callWTerm y hy8 ⟨8, hy⟩ σ id tt (c0 ++ (x.name ++ ⟨#[32, 58, 61, 32]⟩).data.toList) (τ ++ r) bs hid ht (by rw [List.length_append, b1]; omega)
    have q1 : (x.name.size : Int) + 4 ≤ 9223372036854775807 := by omega
    simp at hws hw
    simp [c57, baseA, GL.enc_eq, hk, hws, hw, z4, q1, e, ← GT.enc_eq, dropA_gc, refLt, res1]
    exact take_app2
end Go.Proofs.YtpkfkipbemdhmaaGreatDoor
end
section
set_option linter.unusedVariables false
set_option linter.unusedSimpArgs false
set_option linter.unnecessarySimpa false
namespace Go.Proofs.YtpkfkipbemdhmaaGreatDoor
open Go.Mach
mutual
theorem sh_len : ∀ (t : GT) (d : Nat), termR d t = true → (shT t).length + 1 ≤ 27 * t.size
  | .mk k n v l, d, h => by
    obtain ⟨hd, h'⟩ := term_cases h
    rcases h' with ⟨n', e, hn⟩ | ⟨v', e, hv, _⟩ | ⟨n', l', e, hn, hl⟩ | ⟨n', l', e, ho, h2, hl⟩ <;> injection e with e1 e2 e3 e4 <;> subst e1 e2 e3 e4
    · have : n.data.toList.length = n.size := by simp
      simp only [shT, if_true, this, GT.size, GV.size, GT.sizes, GV.sizes]; omega
    · have := pr_len v (right_okV _ _ hv)
      have hp : shT (.mk 2 ⟨#[]⟩ v []) = pr v := by simp [shT]
      rw [hp]
      simp only [GT.size]; omega
    · have hp : shT (.mk 3 n nil0 l) = n.data.toList ++ 40 :: (shTs [44] l ++ [41]) := by simp [shT]
      have hh := shs_len l [44] (d - 1) (by simp) hl
      have : n.data.toList.length = n.size := by simp
      rw [hp]
      simp only [List.length_append, List.length_cons, List.length_nil, this, GT.size, GV.size, GV.sizes]; omega
    · have hp : shT (.mk 4 n nil0 l) = 40 :: (shTs n.data.toList l ++ [41]) := by simp [shT]
      obtain ⟨c, q1, _⟩ := op_char ho
      have hh := shs_len l n.data.toList (d - 1) (by rw [q1]; simp) hl
      rw [hp]
      simp only [List.length_append, List.length_cons, List.length_nil, GT.size, GV.size, GV.sizes]; omega
theorem shs_len : ∀ (l : List GT) (sep : List UInt8) (d : Nat), sep.length ≤ 1 → (∀ x ∈ l, termR d x = true) → (shTs sep l).length ≤ 27 * GT.sizes l
  | [], sep, d, _, _ => by simp [shTs]
  | x :: l, sep, d, hs, h => by
    have h1 := sh_len x d (h x (by simp))
    have h2 := shc_len l sep d hs fun y hy => h y (by simp [hy])
    simp only [shTs, List.length_append, GT.sizes]; omega
theorem shc_len : ∀ (l : List GT) (sep : List UInt8) (d : Nat), sep.length ≤ 1 → (∀ x ∈ l, termR d x = true) → (shTc sep l).length ≤ 27 * GT.sizes l
  | [], sep, d, _, _ => by simp [shTc]
  | x :: l, sep, d, hs, h => by
    have h1 := sh_len x d (h x (by simp))
    have h2 := shc_len l sep d hs fun y hy => h y (by simp [hy])
    simp only [shTc, List.length_append, GT.sizes]; omega
end
theorem at_len {agg : List UInt8} {p : Int} {i d : Nat} {t : GT} (ha : agg.length ≤ 5) (h : termR d t = true) : (shAt agg p i t).length + 1 ≤ 28 * t.size := by
  have h1 := sh_len t d h
  have : t.name.data.toList.length = t.name.size := by simp
  have h3 : t.name.size + 3 ≤ t.size := by obtain ⟨k, n, ⟨vk, vn, vt, vl⟩, l⟩ := t; simp only [GT.size, GT.name, GV.size]; omega
  unfold shAt
  split
  · simp only [List.length_append, List.length_cons, List.length_nil, this]; omega
  · omega
theorem atc_len {agg : List UInt8} {p : Int} {d : Nat} (ha : agg.length ≤ 5) : ∀ (i : Nat) (l : List GT), (∀ x ∈ l, termR d x = true) → (shAtC agg p i l).length ≤ 28 * GT.sizes l
  | _, [], _ => by simp [shAtC]
  | i, x :: l, h => by
    have h1 := at_len (p := p) (i := i) ha (h x (by simp))
    have h2 := atc_len ha (p := p) (i + 1) l fun y hy => h y (by simp [hy])
    simp only [shAtC, List.length_append, List.length_cons, GT.sizes]; omega
theorem ats_len {agg : List UInt8} {p : Int} {d : Nat} (ha : agg.length ≤ 5) (i : Nat) (l : List GT) (h : ∀ x ∈ l, termR d x = true) : (shAtS agg p i l).length ≤ 28 * GT.sizes l := by
  cases l with
  | nil => simp [shAtS]
  | cons x l =>
    have h1 := at_len (p := p) (i := i) ha (h x (by simp))
    have h2 := atc_len ha (p := p) (i + 1) l fun y hy => h y (by simp [hy])
    simp only [shAtS, List.length_append, GT.sizes]; omega
theorem lit_len {x : GL} (h : litB x = true) : (shLit x).length + 2 ≤ 28 * x.size := by
  have hsz : x.size = x.name.size + GT.sizes x.args + 4 := by simp only [GL.size, GL.enc, bulkA, bulkAs, GT.bulk_encs]; omega
  have hn : x.name.data.toList.length = x.name.size := by simp
  rw [hsz]
  rcases lit_cases h with ⟨hk, h1, h2⟩ | ⟨hk, h1, y, z, e, hy, hz⟩ | ⟨hk, h1, y, e, hy⟩
  · have hh := ats_len (agg := []) (p := 0) (by simp) 0 x.args (args_all h2)
    rcases hk with hk | hk
    · rw [sh1 hk]; simp only [shAtom, List.length_append, List.length_cons, List.length_nil, hn]; omega
    · rw [sh2 hk]; simp only [shAtom, List.length_append, List.length_cons, List.length_nil, hn]; omega
  · rw [sh3 hk e, e]
    have h2 := sh_len y 8 hy
    have h3 := sh_len z 8 hz
    simp only [List.length_append, List.length_cons, hn, GT.sizes]; omega
  · rw [sh4 hk e, e]
    have h2 := sh_len y 8 hy
    simp only [List.length_append, List.length_cons, hn, GT.sizes]; omega
theorem litc_len : ∀ l : List GL, (∀ x ∈ l, litB x = true) → (shLitC l).length ≤ 28 * bulkAs (l.map GL.enc)
  | [], _ => by simp [shLitC]
  | x :: l, h => by
    have h1 := lit_len (h x (by simp))
    have h2 := litc_len l fun y hy => h y (by simp [hy])
    have e : bulkA x.enc = x.size := rfl
    simp only [shLitC, List.length_append, List.length_cons, List.map_cons, bulkAs, e]; omega
theorem lits_len (l : List GL) (h : ∀ x ∈ l, litB x = true) : (shLitS l).length ≤ 28 * bulkAs (l.map GL.enc) := by
  cases l with
  | nil => simp [shLitS]
  | cons x l =>
    have h1 := lit_len (h x (by simp))
    have h2 := litc_len l fun y hy => h y (by simp [hy])
    have e : bulkA x.enc = x.size := rfl
    simp only [shLitS, List.length_append, List.map_cons, bulkAs, e]; omega
theorem agg_len {r : GR} (h : aggB r = true) : r.agg.size ≤ 5 := by
  have hn : r.agg.data.toList.length = r.agg.size := by simp
  rcases (agg_L h).1 with e | e | e | e <;> (rw [← hn, e]; decide)
theorem rule_len {x : GR} (h : ruleB x = true) : (shRule x).length + 1 ≤ 28 * x.size := by
  have hsz : x.size = x.label.size + x.head.size + GT.sizes x.args + x.agg.size + bulkAs (x.body.map GL.enc) + 7 := by simp only [GR.size, GR.enc, bulkA, bulkAs, GT.bulk_encs]; omega
  have hn : x.label.data.toList.length = x.label.size := by simp
  have hn2 : x.head.data.toList.length = x.head.size := by simp
  have hn3 : x.agg.data.toList.length = x.agg.size := by simp
  simp only [ruleB, Bool.and_eq_true, decide_eq_true_eq, List.all_eq_true] at h
  obtain ⟨⟨⟨⟨⟨a1, a2⟩, a3⟩, a4⟩, a5⟩, a6⟩ := h
  have h1 := ats_len (agg := x.agg.data.toList) (p := x.pos) (by rw [hn3]; exact agg_len a6) 0 x.args (args_all a3)
  have h2 := lits_len x.body a5
  rw [hsz]
  simp only [shRule, shAtom, List.length_append, List.length_cons, List.length_nil, hn, hn2]; omega
theorem tup_len {x : GU} (h : tupB x = true) : (shTup x).length + 1 ≤ 28 * x.size := by
  have hsz : x.size = x.name.size + GV.sizes x.args + 3 := by simp only [GU.size, GU.enc, bulkA, bulkAs, GV.bulk_encs]; omega
  have hn : x.name.data.toList.length = x.name.size := by simp
  simp only [tupB, Bool.and_eq_true, decide_eq_true_eq, List.all_eq_true] at h
  have hok : GV.oks x.args := (GV.oks_iff _).2 fun y hy => right_okV _ _ (h.2 y hy)
  have h1 := prc_len x.args hok
  have h2 : (prs x.args).length ≤ (prc x.args).length := by cases x.args <;> simp [prs, prc]
  rw [hsz]
  simp only [shTup, List.length_append, List.length_cons, List.length_nil, hn]; omega
theorem decl_len {x : GD} (h : declB x = true) : (shDecl x).length ≤ 28 * x.size := by
  have hsz : x.size = x.name.size + 3 := by simp only [GD.size, GD.enc, bulkA, bulkAs]
  have hn : x.name.data.toList.length = x.name.size := by simp
  simp only [declB, Bool.and_eq_true, decide_eq_true_eq] at h
  have hi := Lib.itoa_length_le x.arity (by omega) (by omega)
  have hm : sMat.data.toList.length = 11 := rfl
  rw [hsz]
  simp only [shDecl, List.length_append, List.length_cons, List.length_nil, hn, hm]; omega
theorem flat_len {α : Type} (f : α → List UInt8) (enc : α → AV) (l : List α) (h : ∀ x ∈ l, (f x).length ≤ 28 * bulkA (enc x)) : (l.flatMap f).length ≤ 28 * bulkAs (l.map enc) := by
  induction l with
  | nil => simp
  | cons x l ih =>
    have h1 := h x (by simp)
    have h2 := ih fun y hy => h y (by simp [hy])
    simp only [List.flatMap_cons, List.length_append, List.map_cons, bulkAs]; omega
theorem prog_len {p : GP} (h : progB p = true) : (shProg p).length ≤ 28 * p.size := by
  simp only [progB, Bool.and_eq_true, List.all_eq_true] at h
  have h1 := flat_len shDecl GD.enc p.decls fun x hx => decl_len (h.2 x hx)
  have h2 := flat_len (fun t => shTup t ++ [10]) GU.enc p.facts fun x hx => by have := tup_len (h.1.1.2 x hx); simp only [List.length_append, List.length_cons, List.length_nil]; exact this
  have h3 := flat_len (fun r => shRule r ++ [10]) GR.enc p.rules fun x hx => by have := rule_len (h.1.2 x hx); simp only [List.length_append, List.length_cons, List.length_nil]; exact this
  have hsz : p.size = bulkAs (p.decls.map GD.enc) + bulkAs (p.facts.map GU.enc) + bulkAs (p.rules.map GR.enc) + 4 := by simp only [GP.size, GP.enc, bulkA, bulkAs]; omega
  rw [hsz]
  simp only [shProg, List.length_append]; omega
end Go.Proofs.YtpkfkipbemdhmaaGreatDoor
end
section
set_option linter.unusedVariables false
set_option linter.unusedSimpArgs false
set_option linter.unnecessarySimpa false
namespace Go.Proofs.YtpkfkipbemdhmaaGreatDoor
open Go.Mach
theorem lc_join : ∀ (i : Nat) (l : List GL), joinF (fun _ => shLit) [44, 32] (i + 1) l = shLitC l
  | _, [] => rfl
  | i, x :: l => by simp only [joinF, shLitC, lc_join (i + 1) l]; simp
theorem ls_join (l : List GL) : joinF (fun _ => shLit) [44, 32] 0 l = shLitS l := by
  cases l with
  | nil => rfl
  | cons x l => simp only [joinF, shLitS, lc_join]; simp
theorem pc_join : ∀ (i : Nat) (l : List GV), joinF (fun _ => pr) [44] (i + 1) l = prc l
  | _, [] => rfl
  | i, x :: l => by simp only [joinF, prc, pc_join (i + 1) l]; simp
theorem ps_join (l : List GV) : joinF (fun _ => pr) [44] 0 l = prs l := by
  cases l with
  | nil => rfl
  | cons x l => simp only [joinF, prs, pc_join]; simp
theorem wrule_ok (x : GR) (hx : ruleB x = true) (hs : x.size ≤ 10000000000) (σ : Heap) (id tt : Nat) (c0 : List UInt8) (τ : Heap) (bs : Nat) (hid : id < σ.length) (ht : tt ∈ bldTs) (hl : c0.length + (shRule x).length ≤ 70368744177664) :
    callT T 46 [.ptr id 0, x.enc] bs (σ.set id (.bld tt 5 c0) ++ τ) = some (.tup [], σ.set id (.bld tt 5 (c0 ++ shRule x)) ++ τ) := by
  have hal := x.args_le
  have hbl := x.body_len
  have hbm := fun y hy => x.body_mem (y := y) hy
  simp only [ruleB, Bool.and_eq_true, decide_eq_true_eq, List.all_eq_true] at hx
  obtain ⟨⟨⟨⟨⟨a1, a2⟩, a3⟩, a4⟩, a5⟩, a6⟩ := hx
  have n1 := rel_size a1
  have n2 := rel_size a2
  have n3 := agg_len a6
  have e1 : x.label.data.toList.length = x.label.size := by simp
  have z1 : (ByteArray.mk #[32]).size = 1 := rfl
  have z2 : (ByteArray.mk #[32, 58, 45, 32]).size = 4 := rfl
  have q1 : (x.label.size : Int) + 1 ≤ 9223372036854775807 := by omega
  have hsl : ∀ o : AObj, (σ.set id o ++ τ).length = σ.length + τ.length := fun o => by simp
  generalize hA : shAtom x.head.data.toList x.args x.agg.data.toList x.pos = A at *
  have hR : shRule x = x.label.data.toList ++ 32 :: (A ++ 32 :: 58 :: 45 :: 32 :: (shLitS x.body ++ [46])) := by rw [← hA]; rfl
  rw [hR] at hl ⊢
  simp only [List.length_append, List.length_cons, List.length_nil, e1] at hl
  have s1 := fun r bs => ws_at (σ := σ) (τ := τ ++ r) (s := x.label ++ ⟨#[32]⟩) (l := c0) bs hid ht (by simp only [ByteArray.size_append, z1]; omega)
  have d1 : (x.label ++ ⟨#[32]⟩).data.toList = x.label.data.toList ++ [32] := by simp
  rw [d1] at s1
  have s2 := fun r bs => watom x.head x.agg x.pos x.args (by omega) (by omega) (by omega) (args_ex (args_all a3)) σ id tt (c0 ++ (x.label.data.toList ++ [32])) (τ ++ r) bs hid ht (by rw [hA]; simp only [List.length_append, List.length_cons, List.length_nil, e1]; omega)
  rw [hA] at s2
  have s3 := fun r bs => ws_at (σ := σ) (τ := τ ++ r) (s := ⟨#[32, 58, 45, 32]⟩) (l := c0 ++ (x.label.data.toList ++ [32]) ++ A) bs hid ht (by simp only [List.length_append, List.length_cons, List.length_nil, e1, z2]; omega)
  have s4 : ∀ (o : AObj) (bs : Nat), callT T 91 [.ptr id 0, .isl (x.body.map GL.enc) false, .str ⟨#[44, 32]⟩, .func 92 [.ptr (σ.length + τ.length) 0]] bs (σ.set id (.bld tt 5 (c0 ++ (x.label.data.toList ++ [32]) ++ A ++ [32, 58, 45, 32])) ++ (τ ++ [.cells [.ptr id 0] 0 false, o])) =
      some (.tup [], σ.set id (.bld tt 5 (c0 ++ (x.label.data.toList ++ [32]) ++ A ++ [32, 58, 45, 32] ++ shLitS x.body)) ++ (τ ++ [.cells [.ptr id 0] 0 false, o])) := fun o bs => by
    rw [← ls_join]
    refine listLiteral (fun _ => shLit) ⟨#[44, 32]⟩ x.body 92 [.ptr (σ.length + τ.length) 0] σ id tt _ (τ ++ [.cells [.ptr id 0] 0 false, o]) hid ht (by omega) (by show _ + (joinF (fun _ => shLit) [44, 32] 0 x.body).length ≤ _; rw [ls_join]; simp only [List.length_append, List.length_cons, List.length_nil, e1]; omega) (fun i hi cur ρ bs hb2 => ?_) bs
    have hm := List.getElem_mem hi
    have hw := fun r bs => wlit_ok x.body[i] (a5 _ hm) (by have := hbm _ hm; omega) σ id tt cur (τ ++ r) bs hid ht hb2
    refine heap_enter (af := c92) (args' := [.int .i64 (i : Int), x.body[i].enc, .ptr (σ.length + τ.length) 0]) rfl rfl (by simp [c92]) (by simp [c92]) rfl ?_
    simp [c92, baseA, key_at, hw, ← GL.enc_eq, dropA_gc, refLt, res1]
    exact take_eq [_] (by simp; rfl) (by simp)
  have s5 := fun r bs => wb_at (σ := σ) (τ := τ ++ r) (n := 46) (l := c0 ++ (x.label.data.toList ++ [32]) ++ A ++ [32, 58, 45, 32] ++ shLitS x.body) bs hid ht (by simp only [List.length_append, List.length_cons, List.length_nil, e1]; omega) (by decide) (by decide)
  simp at s1 s2 s3 s4 s5
  refine heap_enter (af := c46) (args' := [.ptr id 0, x.enc]) (σ1 := σ.set id (.bld tt 5 c0) ++ τ) rfl rfl (by simp [c46]) (by simp [c46]) rfl ?_
  simp [c46, baseA, GR.enc_eq, s1, s2, s3, s4, s5, z1, q1, dropA_gc, refLt, res1]
  exact take_app2
theorem wtup_ok (x : GU) (hx : tupB x = true) (hs : x.size ≤ 10000000000) (σ : Heap) (id tt : Nat) (c0 : List UInt8) (τ : Heap) (bs : Nat) (hid : id < σ.length) (ht : tt ∈ bldTs) (hl : c0.length + (shTup x).length ≤ 70368744177664) :
    callT T 44 [.ptr id 0, x.enc] bs (σ.set id (.bld tt 5 c0) ++ τ) = some (.tup [], σ.set id (.bld tt 5 (c0 ++ shTup x)) ++ τ) := by
  have hal := x.args_le
  have hlen := len_sizes x.args
  simp only [tupB, Bool.and_eq_true, decide_eq_true_eq, List.all_eq_true] at hx
  obtain ⟨⟨⟨a1, a2⟩, a3⟩, a4⟩ := hx
  have n1 := rel_size a1
  have e1 : x.name.data.toList.length = x.name.size := by simp
  have z1 : (ByteArray.mk #[40, 64]).size = 2 := rfl
  have z2 : (ByteArray.mk #[41, 46]).size = 2 := rfl
  have q1 : (x.name.size : Int) + 2 ≤ 9223372036854775807 := by omega
  have hsl : ∀ o : AObj, (σ.set id o ++ τ).length = σ.length + τ.length := fun o => by simp
  have hR : shTup x = x.name.data.toList ++ 40 :: 64 :: (prs x.args ++ [41, 46]) := rfl
  rw [hR] at hl ⊢
  simp only [List.length_append, List.length_cons, List.length_nil, e1] at hl
  have s1 := fun r bs => ws_at (σ := σ) (τ := τ ++ r) (s := x.name ++ ⟨#[40, 64]⟩) (l := c0) bs hid ht (by simp only [ByteArray.size_append, z1]; omega)
  have d1 : (x.name ++ ⟨#[40, 64]⟩).data.toList = x.name.data.toList ++ [40, 64] := by simp
  rw [d1] at s1
  have s4 : ∀ (o : AObj) (bs : Nat), callT T 87 [.ptr id 0, .isl (GV.encs x.args) false, .str ⟨#[44]⟩, .func 88 [.ptr (σ.length + τ.length) 0]] bs (σ.set id (.bld tt 5 (c0 ++ (x.name.data.toList ++ [40, 64]))) ++ (τ ++ [.cells [.ptr id 0] 0 false, o])) =
      some (.tup [], σ.set id (.bld tt 5 (c0 ++ (x.name.data.toList ++ [40, 64]) ++ prs x.args)) ++ (τ ++ [.cells [.ptr id 0] 0 false, o])) := fun o bs => by
    rw [← ps_join]
    refine listValue (fun _ => pr) ⟨#[44]⟩ x.args 88 [.ptr (σ.length + τ.length) 0] σ id tt _ (τ ++ [.cells [.ptr id 0] 0 false, o]) hid ht (by omega) (by show _ + (joinF (fun _ => pr) [44] 0 x.args).length ≤ _; rw [ps_join]; simp only [List.length_append, List.length_cons, List.length_nil, e1]; omega) (fun i hi cur ρ bs hb2 => ?_) bs
    have hm := List.getElem_mem hi
    have hv := a4 _ hm
    have hpv := valPrint x.args[i] (right_okV _ _ hv) (by have := rightT_size hv; omega)
    have hws := fun r bs => ws_at (σ := σ) (τ := τ ++ r) (s := printV x.args[i]) (l := cur) bs hid ht (by rw [printV_size hv]; exact hb2)
    rw [printV_list hv] at hws
    refine heap_enter (af := c88) (args' := [.int .i64 (i : Int), x.args[i].enc, .ptr (σ.length + τ.length) 0]) rfl rfl (by simp [c88]) (by simp [c88]) rfl ?_
    simp [c88, baseA, key_at, hws, hpv, ← GV.enc_eq, dropA_gc, refLt, res1]
    exact take_eq [_] (by simp; rfl) (by simp)
  have s5 := fun r bs => ws_at (σ := σ) (τ := τ ++ r) (s := ⟨#[41, 46]⟩) (l := c0 ++ (x.name.data.toList ++ [40, 64]) ++ prs x.args) bs hid ht (by simp only [List.length_append, List.length_cons, List.length_nil, e1, z2]; omega)
  simp at s1 s4 s5
  refine heap_enter (af := c44) (args' := [.ptr id 0, x.enc]) (σ1 := σ.set id (.bld tt 5 c0) ++ τ) rfl rfl (by simp [c44]) (by simp [c44]) rfl ?_
  simp [c44, baseA, GU.enc_eq, s1, s4, s5, z1, q1, dropA_gc, refLt, res1]
  exact take_app2
end Go.Proofs.YtpkfkipbemdhmaaGreatDoor
end
section
set_option linter.unusedVariables false
set_option linter.unusedSimpArgs false
set_option linter.unnecessarySimpa false
namespace Go.Proofs.YtpkfkipbemdhmaaGreatDoor
open Go.Mach
theorem flat_take {α : Type} (f : α → List UInt8) (l : List α) (i : Nat) (h : i < l.length) : (l.take (i + 1)).flatMap f = (l.take i).flatMap f ++ f l[i] := by
  rw [List.take_add_one, List.getElem?_eq_getElem h, List.flatMap_append]; simp
theorem flat_le {α : Type} (f : α → List UInt8) (l : List α) (i : Nat) : ((l.take i).flatMap f).length ≤ (l.flatMap f).length := by
  have := congrArg (fun x => (x.flatMap f).length) (List.take_append_drop i l)
  simp only [List.flatMap_append, List.length_append] at this
  omega
set_option maxRecDepth 100000 in
theorem print1_ok (p : GP) (hp : progB p = true) (hs : p.size ≤ 10000000000) (σ : Heap) (id tt : Nat) (c0 : List UInt8) (τ : Heap) (bs : Nat) (hid : id < σ.length) (ht : tt ∈ bldTs) (hl : c0.length + (shProg p).length ≤ 70368744177664) :
    callT T 41 [.ptr id 0, p.enc] bs (σ.set id (.bld tt 5 c0) ++ τ) = some (.tup [], σ.set id (.bld tt 5 (c0 ++ shProg p)) ++ τ) := by
  simp only [progB, Bool.and_eq_true, decide_eq_true_eq, List.all_eq_true] at hp
  obtain ⟨⟨⟨b1, b2⟩, b3⟩, b4⟩ := hp
  have m1 := fun y hy => p.decls_mem (y := y) hy
  have m2 := fun y hy => p.facts_mem (y := y) hy
  have m3 := fun y hy => p.rules_mem (y := y) hy
  obtain ⟨ds, us, rs⟩ := p
  simp only at b1 b2 b3 b4 m1 m2 m3
  simp only [shProg] at hl ⊢
  simp only [List.length_append] at hl
  have hsl : ∀ o : AObj, (σ.set id o ++ τ).length = σ.length + τ.length := fun o => by simp
  refine heap_enter (af := c41) (args' := [.ptr id 0, GP.enc ⟨ds, us, rs⟩]) (σ1 := σ.set id (.bld tt 5 c0) ++ τ) rfl rfl (by simp [c41]) (by simp [c41]) rfl ?_
  simp [c41, baseA, GP.enc_eq]
  refine W_for T _ 61 ds.length (fun i f ρ => f 0 = .ptr id 0 ∧ f 3 = .ptr (σ.length + τ.length) 0 ∧ f 11 = .isl (ds.map GD.enc) false ∧ f 12 = .int .i64 (ds.length : Int) ∧ f 13 = .int .i64 (i : Int) ∧
    ∃ rest, ρ = σ.set id (.bld tt 5 (c0 ++ (ds.take i).flatMap shDecl)) ++ (τ ++ .cells [.isl (ds.map GD.enc) false, .isl (us.map GU.enc) false, .isl (rs.map GR.enc) false] 0 false :: rest)) ?_ _ _ ?_
  rotate_left 1
  · simp
  rintro i f ρ hi ⟨g0, g3, g11, g12, g13, rest, rfl⟩
  by_cases hlt : i < ds.length
  · have e1 : ds[i]? = some ds[i] := List.getElem?_eq_getElem hlt
    have hm := List.getElem_mem hlt
    have hd := b4 _ hm
    have hdl := decl_len hd
    simp only [declB, Bool.and_eq_true, decide_eq_true_eq] at hd
    have n1 := rel_size hd.1
    have hw : IntKind.i64.wrap ((i : Int) + 1) = (i : Int) + 1 := wr64 (by omega) (by omega)
    have hle := flat_le shDecl ds (i + 1)
    rw [flat_take shDecl ds i hlt] at hle ⊢
    generalize (ds.take i).flatMap shDecl = cur at *
    have hit := callItoa (n := ds[i].arity) (h := by have := hd.2; unfold GV.i64ok; omega)
    have hil := Lib.itoa_length_le ds[i].arity (by omega) (by omega)
    have z1 : (ByteArray.mk #[109, 97, 116, 101, 114, 105, 97, 108, 105, 122, 101, 40]).size = 12 := rfl
    have z2 : (ByteArray.mk #[44]).size = 1 := rfl
    have z3 : (ByteArray.mk #[41, 46, 10]).size = 3 := rfl
    have z4 := ba_size (Lib.itoa ds[i].arity)
    have q1 : (12 : Int) + (ds[i].name.size : Int) ≤ 9223372036854775807 := by omega
    have q2 : (12 : Int) + (ds[i].name.size : Int) + 1 ≤ 9223372036854775807 := by omega
    have q3 : (12 : Int) + (ds[i].name.size : Int) + 1 + ((Lib.itoa ds[i].arity).length : Int) ≤ 9223372036854775807 := by omega
    have q4 : (12 : Int) + (ds[i].name.size : Int) + 1 + ((Lib.itoa ds[i].arity).length : Int) + 3 ≤ 9223372036854775807 := by omega
    have hsd : ((((⟨#[109, 97, 116, 101, 114, 105, 97, 108, 105, 122, 101, 40]⟩ ++ ds[i].name) ++ ⟨#[44]⟩) ++ ⟨(Lib.itoa ds[i].arity).toArray⟩) ++ ⟨#[41, 46, 10]⟩ : ByteArray).data.toList = shDecl ds[i] := by
      simp [shDecl, sMat]
    have hsz : ((((⟨#[109, 97, 116, 101, 114, 105, 97, 108, 105, 122, 101, 40]⟩ ++ ds[i].name) ++ ⟨#[44]⟩) ++ ⟨(Lib.itoa ds[i].arity).toArray⟩) ++ ⟨#[41, 46, 10]⟩ : ByteArray).size = (shDecl ds[i]).length := by
      rw [← hsd]; simp [ByteArray.size_append, z1, z2, z3, z4]; omega
    have hws := fun r bs => ws_at (σ := σ) (τ := τ ++ r) (l := c0 ++ cur) (s := ((((⟨#[109, 97, 116, 101, 114, 105, 97, 108, 105, 122, 101, 40]⟩ ++ ds[i].name) ++ ⟨#[44]⟩) ++ ⟨(Lib.itoa ds[i].arity).toArray⟩) ++ ⟨#[41, 46, 10]⟩)) bs hid ht (by rw [hsz]; simp only [List.length_append] at hle ⊢; omega)
    rw [hsd] at hws
    simp only [List.append_assoc] at hws
    simp [g0, g3, g11, g12, g13, hlt, hw, hit, hws, z1, z2, z3, z4, q1, q2, q3, q4, ByteArray.size_append]
  · have he : i = ds.length := by omega
    subst he
    simp [g0, g3, g11, g12, g13, key_at]
    refine W_for T _ 61 us.length (fun i f ρ => f 0 = .ptr id 0 ∧ f 3 = .ptr (σ.length + τ.length) 0 ∧ f 32 = .isl (us.map GU.enc) false ∧ f 33 = .int .i64 (us.length : Int) ∧ f 34 = .int .i64 (i : Int) ∧
      ∃ rest, ρ = σ.set id (.bld tt 5 (c0 ++ (ds.flatMap shDecl ++ (us.take i).flatMap (fun t => shTup t ++ [10])))) ++ (τ ++ .cells [.isl (ds.map GD.enc) false, .isl (us.map GU.enc) false, .isl (rs.map GR.enc) false] 0 false :: rest)) ?_ _ _ ?_
    rotate_left 1
    · simp [g0, g3]
    clear g0 g3 g11 g12 g13
    rintro i f ρ hi ⟨g0, g3, g11, g12, g13, rest, rfl⟩
    by_cases hlt : i < us.length
    · have e1 : us[i]? = some us[i] := List.getElem?_eq_getElem hlt
      have hm := List.getElem_mem hlt
      have hd := b2 _ hm
      have hw : IntKind.i64.wrap ((i : Int) + 1) = (i : Int) + 1 := wr64 (by omega) (by omega)
      have hle := flat_le (fun t => shTup t ++ [10]) us (i + 1)
      rw [flat_take (fun t => shTup t ++ [10]) us i hlt] at hle ⊢
      generalize (us.take i).flatMap (fun t => shTup t ++ [10]) = cur at *
      simp only [List.length_append, List.length_cons, List.length_nil] at hle
      have hwt := fun r bs => wtup_ok us[i] hd (by have := m2 _ hm; omega) σ id tt (c0 ++ (ds.flatMap shDecl ++ cur)) (τ ++ r) bs hid ht (by simp only [List.length_append]; omega)
      have hwb := fun r bs => wb_at (σ := σ) (τ := τ ++ r) (n := 10) (l := c0 ++ (ds.flatMap shDecl ++ cur) ++ shTup us[i]) bs hid ht (by simp only [List.length_append]; omega) (by decide) (by decide)
      simp at hwt hwb
      simp [g0, g3, g11, g12, g13, hlt, hw, hwt, hwb, ← GU.enc_eq]
      done
    · have he : i = us.length := by omega
      subst he
      simp [g0, g3, g11, g12, g13, key_at]
      refine W_for T _ 61 rs.length (fun i f ρ => f 0 = .ptr id 0 ∧ f 3 = .ptr (σ.length + τ.length) 0 ∧ f 47 = .isl (rs.map GR.enc) false ∧ f 48 = .int .i64 (rs.length : Int) ∧ f 49 = .int .i64 (i : Int) ∧
        ∃ rest, ρ = σ.set id (.bld tt 5 (c0 ++ (ds.flatMap shDecl ++ (us.flatMap (fun t => shTup t ++ [10]) ++ (rs.take i).flatMap (fun r => shRule r ++ [10]))))) ++ (τ ++ .cells [.isl (ds.map GD.enc) false, .isl (us.map GU.enc) false, .isl (rs.map GR.enc) false] 0 false :: rest)) ?_ _ _ ?_
      rotate_left 1
      · simp [g0, g3]
      clear g0 g3 g11 g12 g13
      rintro i f ρ hi ⟨g0, g3, g11, g12, g13, rest, rfl⟩
      by_cases hlt : i < rs.length
      · have e1 : rs[i]? = some rs[i] := List.getElem?_eq_getElem hlt
        have hm := List.getElem_mem hlt
        have hd := b3 _ hm
        have hw : IntKind.i64.wrap ((i : Int) + 1) = (i : Int) + 1 := wr64 (by omega) (by omega)
        have hle := flat_le (fun t => shRule t ++ [10]) rs (i + 1)
        rw [flat_take (fun t => shRule t ++ [10]) rs i hlt] at hle ⊢
        generalize (rs.take i).flatMap (fun t => shRule t ++ [10]) = cur at *
        simp only [List.length_append, List.length_cons, List.length_nil] at hle
        have hwt := fun r bs => wrule_ok rs[i] hd (by have := m3 _ hm; omega) σ id tt (c0 ++ (ds.flatMap shDecl ++ (us.flatMap (fun t => shTup t ++ [10]) ++ cur))) (τ ++ r) bs hid ht (by simp only [List.length_append]; omega)
        have hwb := fun r bs => wb_at (σ := σ) (τ := τ ++ r) (n := 10) (l := c0 ++ (ds.flatMap shDecl ++ (us.flatMap (fun t => shTup t ++ [10]) ++ cur)) ++ shRule rs[i]) bs hid ht (by simp only [List.length_append]; omega) (by decide) (by decide)
        simp at hwt hwb
        simp [g0, g3, g11, g12, g13, hlt, hw, hwt, hwb, ← GR.enc_eq]
        done
      · have he : i = rs.length := by omega
        subst he
        simp [g0, g3, g11, g12, g13, dropA_gc, refLt, res1]
        exact take_app2
end Go.Proofs.YtpkfkipbemdhmaaGreatDoor
end
section
set_option linter.unusedVariables false
set_option linter.unusedSimpArgs false
set_option linter.unnecessarySimpa false
namespace Go.Proofs.YtpkfkipbemdhmaaGreatDoor
open Go.Mach
def textProgram (x : GP) : ByteArray := if progB x = true then S (shProg x) else S []
theorem textProgram_ok (b : Bool) (x : GP) (hb : b = true → progB x = true) (hs : x.size ≤ 10000000000) : pureT T c40 [.bool b, x.enc, .func 41 []] = some (.str (if b = true then S (shProg x) else S [])) := by
  apply pure_enter (by simp [c40])
  cases b
  · simp [c40, S]
  · have hx := hb rfl
    have hln := prog_len hx
    have hw := fun o bs => print1_ok x hx (by omega) [o, .dead] 1 80 [] [] bs (by simp) (by decide) (by simp only [List.length_nil]; omega)
    have hst := fun o bs => callStr (σ := [o, .bld 80 5 (shProg x)]) (id := 1) (l := shProg x) bs rfl (by omega)
    simp at hw hst
    simp [c40, hw, hst, setRun, S, ← GP.enc_eq]
theorem pProgram_ok (x : GP) (hs : x.size ≤ 10000000000) : pureT T c12 [x.enc] = some (.str (textProgram x)) := by
  have h1 := callPRight x (by omega)
  have h2 : ∀ bs σ, callT T 40 [.bool (progB x), x.enc, .func 41 []] bs σ = some (.str (textProgram x), σ) := fun bs σ => call_clean rfl rfl rfl (by simp) (by rw [textProgram_ok (progB x) x (fun h => h) hs]; rfl)
  apply pure_enter (by simp [c12])
  generalize (progB x) = b at *
  simp [c12, h1, h2, sym, ← GP.enc_eq]
theorem sayProgram (x : GP) (hs : x.size ≤ 10000000000) (bs : Nat) (σ : Heap) : callT T 12 [x.enc] bs σ = some (.str (textProgram x), σ) := call_clean rfl rfl rfl (by simp) (pProgram_ok x hs)
def textTerm (x : GT) : ByteArray := if termR 8 x = true then S (shT x) else S []
def textLiteral (x : GL) : ByteArray := if litB x = true then S (shLit x) else S []
def textRule (x : GR) : ByteArray := if ruleB x = true then S (shRule x) else S []
theorem textRule_ok (b : Bool) (x : GR) (hb : b = true → ruleB x = true) (hs : x.size ≤ 10000000000) : pureT T c58 [.bool b, x.enc, .func 46 []] = some (.str (if b = true then S (shRule x) else S [])) := by
  apply pure_enter (by simp [c58])
  cases b
  · simp [c58, S]
  · have hx := hb rfl
    have hln := rule_len hx
    have hw := fun o bs => wrule_ok x hx (by omega) [o, .dead] 1 80 [] [] bs (by simp) (by decide) (by simp only [List.length_nil]; omega)
    have hst := fun o bs => callStr (σ := [o, .bld 80 5 (shRule x)]) (id := 1) (l := shRule x) bs rfl (by omega)
    simp at hw hst
    simp [c58, hw, hst, setRun, S, ← GR.enc_eq]
theorem pRule_ok (x : GR) (hs : x.size ≤ 10000000000) : pureT T c21 [x.enc] = some (.str (textRule x)) := by
  have h1 := callPRule x (by omega)
  have h2 : ∀ bs σ, callT T 58 [.bool (ruleB x), x.enc, .func 46 []] bs σ = some (.str (textRule x), σ) := fun bs σ => call_clean rfl rfl rfl (by simp) (by rw [textRule_ok (ruleB x) x (fun h => h) hs]; rfl)
  apply pure_enter (by simp [c21])
  generalize (ruleB x) = b at *
  simp [c21, h1, h2, sym, ← GR.enc_eq]
theorem sayRule (x : GR) (hs : x.size ≤ 10000000000) (bs : Nat) (σ : Heap) : callT T 21 [x.enc] bs σ = some (.str (textRule x), σ) := call_clean rfl rfl rfl (by simp) (pRule_ok x hs)
def textTuple (x : GU) : ByteArray := if tupB x = true then S (shTup x) else S []
theorem textTuple_ok (b : Bool) (x : GU) (hb : b = true → tupB x = true) (hs : x.size ≤ 10000000000) : pureT T c59 [.bool b, x.enc, .func 44 []] = some (.str (if b = true then S (shTup x) else S [])) := by
  apply pure_enter (by simp [c59])
  cases b
  · simp [c59, S]
  · have hx := hb rfl
    have hln := tup_len hx
    have hw := fun o bs => wtup_ok x hx (by omega) [o, .dead] 1 80 [] [] bs (by simp) (by decide) (by simp only [List.length_nil]; omega)
    have hst := fun o bs => callStr (σ := [o, .bld 80 5 (shTup x)]) (id := 1) (l := shTup x) bs rfl (by omega)
    simp at hw hst
    simp [c59, hw, hst, setRun, S, ← GU.enc_eq]
theorem pTuple_ok (x : GU) (hs : x.size ≤ 10000000000) : pureT T c22 [x.enc] = some (.str (textTuple x)) := by
  have h1 := callPTup x (by omega)
  have h2 : ∀ bs σ, callT T 59 [.bool (tupB x), x.enc, .func 44 []] bs σ = some (.str (textTuple x), σ) := fun bs σ => call_clean rfl rfl rfl (by simp) (by rw [textTuple_ok (tupB x) x (fun h => h) hs]; rfl)
  apply pure_enter (by simp [c22])
  generalize (tupB x) = b at *
  simp [c22, h1, h2, sym, ← GU.enc_eq]
theorem sayTuple (x : GU) (hs : x.size ≤ 10000000000) (bs : Nat) (σ : Heap) : callT T 22 [x.enc] bs σ = some (.str (textTuple x), σ) := call_clean rfl rfl rfl (by simp) (pTuple_ok x hs)
end Go.Proofs.YtpkfkipbemdhmaaGreatDoor
end
section
set_option linter.unusedVariables false
set_option linter.unusedSimpArgs false
set_option linter.unnecessarySimpa false
namespace Go.Proofs.YtpkfkipbemdhmaaGreatDoor
open Go.Mach
def varOf (s : ByteArray) : ByteArray := ⟨#[86]⟩ ++ (nameFit s).extract 1 (nameFit s).size
theorem lawVar_ok (s : ByteArray) (hs : s.size ≤ 100000000000) : pureT T c32 [.str s] = some (.str (varOf s)) := by
  have hn := nameFit_size s
  have hc := lawName s hs
  have h1 : (⟨#[86]⟩ : ByteArray).size = 1 := rfl
  have h2 : ((nameFit s).extract 1 (nameFit s).size).size = (nameFit s).size - 1 := by rw [ByteArray.size_extract]; omega
  apply pure_enter (by simp [c32])
  have h0 : (1 : Int) ≤ ((nameFit s).size : Int) := by omega
  have h3 : (1 : Int) + (((nameFit s).size - 1 : Nat) : Int) ≤ 9223372036854775807 := by omega
  simp [c32, hc, h0, h1, h3, varOf]
theorem lawVar (s : ByteArray) (hs : s.size ≤ 100000000000) (bs : Nat) (σ : Heap) : callT T 32 [.str s] bs σ = some (.str (varOf s), σ) := call_clean rfl rfl rfl (by simp) (lawVar_ok s hs)
def relOf (s : ByteArray) : ByteArray := if 0 ≤ arityOf (nameFit s) ∨ nameFit s = ⟨#[109, 97, 116, 101, 114, 105, 97, 108, 105, 122, 101]⟩ then ⟨#[110]⟩ else nameFit s
theorem lawRel_ok (s : ByteArray) (hs : s.size ≤ 100000000000) : pureT T c29 [.str s] = some (.str (relOf s)) := by
  have hc := lawName s hs
  have ha := refArity (nameFit s)
  apply pure_enter (by simp [c29])
  simp [c29, hc, ha]
  unfold relOf
  grind
theorem lawRel (s : ByteArray) (hs : s.size ≤ 100000000000) (bs : Nat) (σ : Heap) : callT T 29 [.str s] bs σ = some (.str (relOf s), σ) := call_clean rfl rfl rfl (by simp) (lawRel_ok s hs)
theorem pick4_ok (c n : Int) (h : n ≠ 0) : pureT T c20 [.int .i64 c, .int .i64 n] = some (.int .i64 ((if c < 0 then IntKind.i64.wrap (0 - IntKind.i64.wrap (c + 1)) else c).tmod n)) := by
  apply pure_enter (by simp [c20])
  by_cases hc : c < 0
  · simp [c20, hc, h]
  · simp [c20, hc, h]
theorem pickQ (c : Int) (n : Nat) (h : 0 < n) (h1 : GV.i64ok c) (bs : Nat) (σ : Heap) :
    callT T 20 [.int .i64 c, .int .i64 (n : Int)] bs σ = some (.int .i64 (pickN c n : Int), σ) := by
  refine call_clean rfl rfl rfl rfl ?_
  rw [pick4_ok c n (by omega), pick_eq c n h h1.1 h1.2]
theorem pickQ4 (c : Int) (h1 : GV.i64ok c) (bs : Nat) (σ : Heap) : callT T 20 [.int .i64 c, .int .i64 4] bs σ = some (.int .i64 (pickN c 4 : Int), σ) := pickQ c 4 (by omega) h1 bs σ
theorem pickQ6 (c : Int) (h1 : GV.i64ok c) (bs : Nat) (σ : Heap) : callT T 20 [.int .i64 c, .int .i64 6] bs σ = some (.int .i64 (pickN c 6 : Int), σ) := pickQ c 6 (by omega) h1 bs σ
theorem pickQ3 (c : Int) (h1 : GV.i64ok c) (bs : Nat) (σ : Heap) : callT T 20 [.int .i64 c, .int .i64 3] bs σ = some (.int .i64 (pickN c 3 : Int), σ) := pickQ c 3 (by omega) h1 bs σ
theorem wrap_ok (n : Int) : GV.i64ok (IntKind.i64.wrap n) := by unfold GV.i64ok; rw [IntKind.wrap_i64]; omega
def fnOf (n : Nat) : ByteArray := if n = 0 then sCons else if n = 1 then sSize else if n = 2 then sMember else if n = 3 then sFirst else if n = 4 then sReverse else sConcat
def opOf (n : Nat) : ByteArray := if n = 0 then ⟨#[43]⟩ else if n = 1 then ⟨#[45]⟩ else ⟨#[42]⟩
def valOf (v : GV) : GV := if (fit v).kind = 3 then .mk (fit v).kind (fit v).num (relOf (fit v).text) (fit v).items else fit v
def leafT (t : GT) : GT := if pickN t.kind 4 % 2 = 0 then .mk 1 (varOf t.name) nilV [] else .mk 2 ⟨#[]⟩ (valOf t.value) []
def termV : Nat → GT → GT
  | 0, t => leafT t
  | d + 1, t =>
    if d = 0 ∨ t.args.length < 2 then leafT t
    else if pickN t.kind 4 = 0 then .mk 1 (varOf t.name) nilV []
    else if pickN t.kind 4 = 1 then .mk 2 ⟨#[]⟩ (valOf t.value) []
    else if pickN t.kind 4 = 2 then
      .mk 3 (fnOf (pickN (IntKind.i64.wrap ((t.name.size : Int) + t.kind)) 6)) nilV ((t.args.take (arityOf (fnOf (pickN (IntKind.i64.wrap ((t.name.size : Int) + t.kind)) 6))).toNat).map (termV d))
    else .mk 4 (opOf (pickN t.name.size 3)) nilV ((t.args.take 2).map (termV d))
theorem term_leaf (d : Int) (t : GT) (ht : t.ok) (hs : t.size ≤ 100000000000) (h : d ≤ 1 ∨ t.args.length < 2) : pureT T c14 [t.enc, .int .i64 d] = some (leafT t).enc := by
  have hk : GV.i64ok t.kind ∧ t.value.ok := by revert ht; cases t; simp only [GT.ok]; exact fun h => ⟨h.1, h.2.1⟩
  have hp := pickQ4 t.kind hk.1
  have hv := lawVar t.name (Nat.le_trans (GT.name_le t) hs)
  have hf := callFit t.value hk.2 (Nat.le_trans (GT.value_le t) hs)
  have hpl := pickN_lt (c := t.kind) (n := 4) (by omega)
  have htm : ((pickN t.kind 4 : Int)).tmod 2 = ((pickN t.kind 4 % 2 : Nat) : Int) := rfl
  have hfs : (fit t.value).text.size ≤ 100000000000 := Nat.le_trans (Nat.le_trans (text_le _) (fit_size _)) (by omega)
  have hr := lawRel (fit t.value).text hfs
  apply pure_enter (by simp [c14])
  have hcond : d ≤ 1 ∨ (¬ d ≤ 1 ∧ ((t.args.length : Int) < 2)) := by omega
  rcases hcond with hd | ⟨hd, hl⟩
  · by_cases hz : pickN t.kind 4 % 2 = 0
    · simp [c14, hp, htm, hd, hz, hv, setRun]
      simp [leafT, hz, GT.enc, nilV]
    · have hz1 : pickN t.kind 4 % 2 = 1 := by omega
      simp [c14, hp, htm, hd, hz1, hf, setRun, enc_mk, hr]
      refine ⟨fun h => ?_, fun h => ?_⟩
      all_goals simp [leafT, hz1, GT.enc, valOf, h]
  · by_cases hz : pickN t.kind 4 % 2 = 0
    · simp [c14, hp, htm, hd, hl, hz, hv, setRun]
      simp [leafT, hz, GT.enc, nilV]
    · have hz1 : pickN t.kind 4 % 2 = 1 := by omega
      simp [c14, hp, htm, hd, hl, hz1, hf, setRun, enc_mk, hr]
      refine ⟨fun h => ?_, fun h => ?_⟩
      all_goals simp [leafT, hz1, GT.enc, valOf, h]
theorem fnOf_arity (n : Nat) : arityOf (fnOf n) = if n = 0 ∨ n = 2 ∨ 5 ≤ n then 2 else 1 := by
  unfold fnOf
  by_cases h0 : n = 0
  · subst h0; decide
  · by_cases h1 : n = 1
    · subst h1; decide
    · by_cases h2 : n = 2
      · subst h2; decide
      · by_cases h3 : n = 3
        · subst h3; decide
        · by_cases h4 : n = 4
          · subst h4; decide
          · rw [if_neg h0, if_neg h1, if_neg h2, if_neg h3, if_neg h4, if_pos (by omega)]; decide
theorem term_call (d : Nat) (hd0 : 0 < d) (hd : d ≤ 100) (t : GT) (ht : t.ok) (hs : t.size ≤ 100000000000) (h2 : 2 ≤ t.args.length) (hk : pickN t.kind 4 = 2) (g : GT → GT)
    (hg : ∀ x ∈ t.args, ∀ bs σ, callT T 14 [x.enc, .int .i64 (d : Int)] bs σ = some ((g x).enc, σ)) (fn : ByteArray) (hfn : fn = fnOf (pickN (IntKind.i64.wrap ((t.name.size : Int) + t.kind)) 6)) :
    pureT T c14 [t.enc, .int .i64 ((d : Int) + 1)] = some (GT.mk 3 fn nilV ((t.args.take (arityOf fn).toNat).map g)).enc := by
  have hk1 : GV.i64ok t.kind := by revert ht; cases t; simp only [GT.ok]; exact fun h => h.1
  have hp := pickQ4 t.kind hk1
  rw [hk] at hp
  have hp6 := pickQ6 _ (wrap_ok ((t.name.size : Int) + t.kind))
  have hlt := pickN_lt (c := IntKind.i64.wrap ((t.name.size : Int) + t.kind)) (n := 6) (by omega)
  have har := fnOf_arity (pickN (IntKind.i64.wrap ((t.name.size : Int) + t.kind)) 6)
  rw [← hfn] at har
  generalize pickN (IntKind.i64.wrap ((t.name.size : Int) + t.kind)) 6 = m at *
  have hdd : ¬ ((d : Int) + 1 ≤ 1) := by omega
  have hll : ¬ ((t.args.length : Int) < 2) := by omega
  have hget : ∀ σ : Heap, ∀ L : List AV, L = [AV.str sCons, .str sSize, .str sMember, .str sFirst, .str sReverse, .str sConcat] → (window L m 1).bind (mk false) = some (.str fn) := by
    intro σ L e; subst e hfn
    match m, hlt with
    | 0, _ => rfl
    | 1, _ => rfl
    | 2, _ => rfl
    | 3, _ => rfl
    | 4, _ => rfl
    | 5, _ => rfl
  obtain ⟨a, ha, ha1, ha2⟩ : ∃ a : Nat, arityOf fn = (a : Int) ∧ 1 ≤ a ∧ a ≤ 2 := by
    rw [har]; split
    · exact ⟨2, rfl, by omega, by omega⟩
    · exact ⟨1, rfl, by omega, by omega⟩
  have hary := refArity fn
  rw [ha] at hary ⊢
  have hw2 := hget [] _ rfl
  have hlt' : (m : Int) < 6 := by omega
  apply pure_enter (by simp [c14])
  simp [c14, hp, hdd, hll, hp6, hlt', setRun, hw2]
  refine W_for T 0 103 a (fun i f σ => f 1 = .int .i64 ((d : Int) + 1) ∧ f 2 = .ptr 0 0 ∧ f 4 = .ptr 1 0 ∧ f 7 = .str fn ∧ f 8 = .ptr 3 0 ∧ f 9 = .int .i64 (i : Int) ∧ ∃ S lst rest,
    σ = [.cells [.int .i64 t.kind, .str t.name, .int .i64 t.value.kind, .int .i64 t.value.num, .str t.value.text, .isl (GV.encs t.value.items) false, .isl (GT.encs t.args) false] 0 false,
      .cells [.int .i64 0, .str ⟨#[]⟩, .int .i64 0, .int .i64 0, .str ⟨#[]⟩, .isl [] true, .isl [] true] 0 false, S,
      .cells [.int .i64 3, .str fn, .int .i64 0, .int .i64 0, .str ⟨#[]⟩, .isl [] true, lst] 0 false] ++ rest ∧
    LstAt rest 4 (GT.encs ((t.args.take i).map g)) 7 lst) ?_ _ _ ?_
  · rintro i f σ hi ⟨h1, h2', h4, h7, h8, h9, S, lst, rest, rfl, hlst⟩
    by_cases hia : i < a
    · have hw : IntKind.i64.wrap ((i : Int) + 1) = (i : Int) + 1 := wr64 (by omega) (by omega)
      have hwd : IntKind.i64.wrap (d : Int) = (d : Int) := wr64 (by omega) (by omega)
      have hc1 : i < t.args.length := by omega
      have hcl := hg t.args[i] (List.getElem_mem hc1)
      have htk : (t.args.take (i + 1)).map g = (t.args.take i).map g ++ [g t.args[i]] := by rw [List.take_add_one, List.getElem?_eq_getElem hc1, List.map_append]; rfl
      have hlen : ((t.args.take i).map g).length = i := by simp; omega
      rw [htk]
      generalize (t.args.take i).map g = done at *
      have hdl : done.length ≤ 10000000000 := by omega
      rcases hlst with ⟨he, rfl⟩ | ⟨kk, rfl, hkl, hkk⟩
      · have hd0 : done = [] := (GT.encs_nil _).1 he
        simp [h1, h2', h4, h7, h8, h9, hia, hc1, hw, hwd, hary, setRun, hcl, GT.enc_mk]
        exact ⟨_, _, _, ⟨rfl, rfl, rfl⟩, .inr ⟨rest.length + 1, by simp [hd0], by simp, by simp [hd0]⟩⟩
      · simp [h1, h2', h4, h7, h8, h9, hia, hc1, hw, hwd, hary, setRun, hcl, GT.enc_mk, List.getElem?_append_left hkl, hkk, List.set_append_left _ _ hkl, hdl]
        exact ⟨_, _, _, ⟨rfl, rfl, rfl⟩, .inr ⟨kk, rfl, by simp; omega, by rw [List.getElem?_append_left (by simpa using hkl)]; simp [hkl]⟩⟩
    · have he : i = a := by omega
      subst he
      rcases hlst with ⟨he2, rfl⟩ | ⟨kk, rfl, hkl, hkk⟩
      · simp [h1, h2', h4, h7, h8, h9, hary, setRun, GT.enc, he2, ← List.map_take, nilV]
      · simp [h1, h2', h4, h7, h8, h9, hary, setRun, GT.enc, ← List.map_take, nilV]
  · exact ⟨by simp, by simp, by simp, by simp, by simp, by simp, _, _, [], rfl, .inl ⟨by simp, rfl⟩⟩
theorem term_op (d : Nat) (hd0 : 0 < d) (hd : d ≤ 100) (t : GT) (ht : t.ok) (hs : t.size ≤ 100000000000) (h2 : 2 ≤ t.args.length) (hk : pickN t.kind 4 = 3) (g : GT → GT)
    (hg : ∀ x ∈ t.args, ∀ bs σ, callT T 14 [x.enc, .int .i64 (d : Int)] bs σ = some ((g x).enc, σ)) (fn : ByteArray) (hfn : fn = opOf (pickN t.name.size 3)) :
    pureT T c14 [t.enc, .int .i64 ((d : Int) + 1)] = some (GT.mk 4 fn nilV ((t.args.take 2).map g)).enc := by
  have hk1 : GV.i64ok t.kind := by revert ht; cases t; simp only [GT.ok]; exact fun h => h.1
  have hp := pickQ4 t.kind hk1
  rw [hk] at hp
  have hns := GT.name_le t
  have hp3 := pickQ3 (t.name.size : Int) ⟨by omega, by omega⟩
  have hlt := pickN_lt (c := (t.name.size : Int)) (n := 3) (by omega)
  generalize pickN (t.name.size : Int) 3 = m at *
  have hdd : ¬ ((d : Int) + 1 ≤ 1) := by omega
  have hll : ¬ ((t.args.length : Int) < 2) := by omega
  have hget : ∀ L : List AV, L = [AV.str ⟨#[43]⟩, .str ⟨#[45]⟩, .str ⟨#[42]⟩] → (window L m 1).bind (mk false) = some (.str fn) := by
    intro L e; subst e hfn
    match m, hlt with
    | 0, _ => rfl
    | 1, _ => rfl
    | 2, _ => rfl
  have hw2 := hget _ rfl
  have hlt' : (m : Int) < 3 := by omega
  obtain ⟨x, y, l, hargs⟩ : ∃ x y l, t.args = x :: y :: l := by
    match t.args, h2 with
    | x :: y :: l, _ => exact ⟨x, y, l, rfl⟩
  have hx := hg x (by simp [hargs])
  have hy := hg y (by simp [hargs])
  have hwd : IntKind.i64.wrap (d : Int) = (d : Int) := wr64 (by omega) (by omega)
  have he : GT.encs t.args = x.enc :: y.enc :: GT.encs l := by rw [hargs]; rfl
  have hll : ¬ ((l.length : Int) + 1 + 1 < 2) := by omega
  apply pure_enter (by simp [c14])
  simp [c14, hp, hdd, hll, hp3, hlt', setRun, hw2, he, hwd, hx, hy, hargs, GT.enc_mk]
  simp [close1, close0, window, chunk, mk, GT.encs, GT.enc, GT.enc_eq (g x), GT.enc_eq (g y), nilV]
theorem term_ok : ∀ (d : Nat) (t : GT), d ≤ 100 → t.ok → t.size ≤ 100000000000 → pureT T c14 [t.enc, .int .i64 (d : Int)] = some (termV d t).enc := by
  intro d
  induction d with
  | zero => intro t hd ht hs; exact term_leaf 0 t ht hs (.inl (by omega))
  | succ d ih =>
    intro t hd ht hs
    unfold termV
    by_cases hl : d = 0 ∨ t.args.length < 2
    · rw [if_pos hl]
      refine term_leaf _ t ht hs ?_
      rcases hl with h | h
      · exact .inl (by omega)
      · exact .inr h
    · have hlt := pickN_lt (c := t.kind) (n := 4) (by omega)
      have hok : GT.oks t.args := by revert ht; cases t; simp only [GT.ok]; exact fun h => h.2.2
      have hargs := GT.args_le t
      have hcl : ∀ x ∈ t.args, ∀ bs σ, callT T 14 [x.enc, .int .i64 (d : Int)] bs σ = some ((termV d x).enc, σ) := fun x hx bs σ =>
        call_clean rfl rfl rfl (by simp) (ih x (by omega) ((GT.oks_iff _).1 hok x hx) (by have := (GT.sizes_mem hx).1; omega))
      have e : (((d + 1 : Nat)) : Int) = (d : Int) + 1 := by omega
      rw [if_neg hl, e]
      by_cases h2 : pickN t.kind 4 = 2
      · rw [if_neg (by omega), if_neg (by omega), if_pos h2]
        exact term_call d (by omega) (by omega) t ht hs (by omega) h2 _ hcl _ rfl
      · by_cases h3 : pickN t.kind 4 = 3
        · rw [if_neg (by omega), if_neg (by omega), if_neg h2]
          exact term_op d (by omega) (by omega) t ht hs (by omega) h3 _ hcl _ rfl
        · have hk1 : GV.i64ok t.kind ∧ t.value.ok := by revert ht; cases t; simp only [GT.ok]; exact fun h => ⟨h.1, h.2.1⟩
          have hp := pickQ4 t.kind hk1.1
          have hv := lawVar t.name (Nat.le_trans (GT.name_le t) hs)
          have hf := callFit t.value hk1.2 (Nat.le_trans (GT.value_le t) hs)
          have hfs : (fit t.value).text.size ≤ 100000000000 := Nat.le_trans (Nat.le_trans (text_le _) (fit_size _)) (by omega)
          have hr := lawRel (fit t.value).text hfs
          have hdd : ¬ ((d : Int) + 1 ≤ 1) := by omega
          have hll : ¬ ((t.args.length : Int) < 2) := by omega
          apply pure_enter (by simp [c14])
          by_cases h0 : pickN t.kind 4 = 0
          · rw [h0] at hp
            rw [if_pos h0]
            simp [c14, hp, hdd, hll, hv, setRun, GT.enc, nilV]
          · have h1 : pickN t.kind 4 = 1 := by omega
            rw [h1] at hp
            rw [if_neg h0, if_pos h1]
            simp [c14, hp, hdd, hll, hf, hr, setRun, enc_mk]
            refine ⟨fun h => ?_, fun h => ?_⟩
            all_goals simp [GT.enc, valOf, h]
theorem callTerm (d : Nat) (t : GT) (hd : d ≤ 100) (ht : t.ok) (hs : t.size ≤ 100000000000) (bs : Nat) (σ : Heap) : callT T 14 [t.enc, .int .i64 (d : Int)] bs σ = some ((termV d t).enc, σ) := call_clean rfl rfl rfl (by simp) (term_ok d t hd ht hs)
end Go.Proofs.YtpkfkipbemdhmaaGreatDoor
end
section
set_option linter.unusedVariables false
set_option linter.unusedSimpArgs false
set_option linter.unnecessarySimpa false
namespace Go.Proofs.YtpkfkipbemdhmaaGreatDoor
open Go.Mach
theorem varOf_list (s : ByteArray) : (varOf s).data.toList = 86 :: (s.data.toList.take 15).map nameC := by
  have h := (nameFit_list s).1
  have h2 := (nameFit_list s).2
  unfold varOf
  simp [h]
  apply List.take_of_length_le
  rw [h2]; simp
theorem var_right (s : ByteArray) : varOK (varOf s) = true := by
  have h := varOf_list s
  have hs : (varOf s).size = (varOf s).data.toList.length := by simp
  simp only [varOK, hs, h, varL, Bool.and_eq_true, decide_eq_true_eq, List.all_eq_true, List.length_cons, List.length_map, List.length_take]
  refine ⟨⟨by decide, fun c hc => ?_⟩, by omega⟩
  obtain ⟨b, _, rfl⟩ := List.mem_map.1 hc
  simp [nameC_inner b]
theorem rel_right (s : ByteArray) : relOK (relOf s) = true := by
  unfold relOf
  split
  · decide +kernel
  · rename_i h
    have h := not_or.1 h
    simp only [relOK, nameFit_ok, Bool.true_and, Bool.and_eq_true, decide_eq_true_eq]
    exact ⟨by omega, h.2⟩
theorem val_right (v : GV) : rightT (valOf v) = true ∧ ((valOf v).kind ≠ 3 ∨ arityOf (valOf v).text < 0) := by
  have hf := fit_right v
  unfold valOf
  generalize fit v = x at *
  split
  · rename_i hk
    rcases right_cases hf with ⟨n, rfl, h1, h2⟩ | ⟨t, rfl, h1⟩ | ⟨t, rfl, h1⟩ | ⟨l, rfl, h1, h2, h3⟩ <;> simp [GV.kind] at hk
    obtain ⟨r1, r2, r3⟩ := rel_name (rel_right t)
    exact ⟨by simp [GV.kind, GV.num, GV.text, GV.items, rightT, rightV, rightB, r1], .inr r2⟩
  · rename_i hk
    exact ⟨hf, .inl hk⟩
theorem leaf_right (d : Nat) (t : GT) : termR (d + 1) (leafT t) = true := by
  unfold leafT
  split
  · simp [termR, termB, GT.kind, GT.value, GT.args, GT.name, bareV, nilV, var_right, GV.kind, GV.num, GV.text, GV.items]
  · obtain ⟨h1, h2⟩ := val_right t.value
    simp only [termR, termB, GT.kind, GT.value, GT.args, GT.name]
    simp [h1]
    exact h2
theorem fn_range (n : Nat) : arityOf (fnOf n) = 1 ∨ arityOf (fnOf n) = 2 := by rw [fnOf_arity]; split <;> simp
theorem op_right (n : Nat) : opOK (opOf n) = true := by
  unfold opOf
  split
  · decide
  split <;> decide
theorem term_right : ∀ (d : Nat) (t : GT), termR (d + 1) (termV (d + 1) t) = true
  | d, t => by
    induction d generalizing t with
    | zero => simp only [termV, true_or, if_true]; exact leaf_right 0 t
    | succ d ih =>
      rw [termV]
      split
      · exact leaf_right _ t
      · rename_i hc
        have hc := not_or.1 hc
        split
        · simp [termR, termB, GT.kind, GT.value, GT.args, GT.name, bareV, nilV, var_right, GV.kind, GV.num, GV.text, GV.items]
        split
        · obtain ⟨h1, h2⟩ := val_right t.value
          simp only [termR, termB, GT.kind, GT.value, GT.args, GT.name]
          simp [h1]
          exact h2
        split
        · generalize pickN (IntKind.i64.wrap ((t.name.size : Int) + t.kind)) 6 = q
          have hr := fn_range q
          have hlen : ((t.args.take (arityOf (fnOf q)).toNat).map (termV (d + 1))).length = (arityOf (fnOf q)).toNat := by simp; omega
          have hall : ((t.args.take (arityOf (fnOf q)).toNat).map (termV (d + 1))).all (termR (d + 1)) = true := by
            rw [List.all_eq_true]; intro x hx
            obtain ⟨y, _, rfl⟩ := List.mem_map.1 hx; exact ih y
          rw [termR]
          simp only [termB, GT.kind, GT.value, GT.args, GT.name, hlen, hall]
          simp [bareV, nilV, GV.kind, GV.num, GV.text, GV.items]
          omega
        · have hlen : ((t.args.take 2).map (termV (d + 1))).length = 2 := by simp; omega
          have hall : ((t.args.take 2).map (termV (d + 1))).all (termR (d + 1)) = true := by
            rw [List.all_eq_true]; intro x hx
            obtain ⟨y, _, rfl⟩ := List.mem_map.1 hx; exact ih y
          rw [termR]
          simp only [termB, GT.kind, GT.value, GT.args, GT.name, hlen, hall, op_right]
          simp [bareV, nilV, GV.kind, GV.num, GV.text, GV.items]
mutual
def sameT : GT → GT → Bool
  | .mk k n v l, .mk k2 n2 v2 l2 => decide (k = k2) && decide (n = n2) && decide (v = v2) && sameTs l l2
def sameTs : List GT → List GT → Bool
  | [], [] => true
  | x :: l, y :: m => sameT x y && sameTs l m
  | _, _ => false
end
mutual
theorem sameT_iff : ∀ a b : GT, sameT a b = true ↔ a = b
  | .mk k n v l, .mk k2 n2 v2 l2 => by
    have := sameTs_iff l l2
    simp only [sameT, Bool.and_eq_true, decide_eq_true_eq, this, GT.mk.injEq, and_assoc]
theorem sameTs_iff : ∀ a b : List GT, sameTs a b = true ↔ a = b
  | [], [] => by simp [sameTs]
  | [], _ :: _ => by simp [sameTs]
  | _ :: _, [] => by simp [sameTs]
  | x :: l, y :: m => by
    have h1 := sameT_iff x y
    have h2 := sameTs_iff l m
    simp only [sameTs, Bool.and_eq_true, h1, h2, List.cons.injEq]
end
instance : DecidableEq GT := fun a b => decidable_of_iff _ (sameT_iff a b)
theorem gt_ext (a b : GT) : a = b ↔ a.kind = b.kind ∧ a.name = b.name ∧ a.value = b.value ∧ a.args = b.args := by
  cases a; cases b; simp [GT.kind, GT.name, GT.value, GT.args]
end Go.Proofs.YtpkfkipbemdhmaaGreatDoor
end
section
set_option linter.unusedVariables false
set_option linter.unusedSimpArgs false
set_option linter.unnecessarySimpa false
namespace Go.Proofs.YtpkfkipbemdhmaaGreatDoor
open Go.Mach
theorem sameTs_ok : ∀ (n : Nat) (a b : List GT), GT.sizes a ≤ n → n ≤ 100000000000 → pureT T c17 [.isl (GT.encs a) false, .isl (GT.encs b) false] = some (.bool (decide (a = b))) := by
  intro n
  induction n using Nat.strongRecOn with
  | ind n ih =>
    intro a b hs hn
    have hlen := GT.len_sizes a
    apply pure_enter (by simp [c17])
    by_cases hl : a.length = b.length
    · simp [c17, hl]
      refine W_for T 0 73 a.length (fun i f σ => f 0 = .isl (GT.encs a) false ∧ f 1 = .isl (GT.encs b) false ∧ f 5 = .int .i64 (i : Int) ∧ ∀ j, (h1 : j < a.length) → (h2 : j < b.length) → j < i → a[j] = b[j]) ?_ _ _ ?_
      · rintro i f σ hi ⟨h0, h1, h5, hall⟩
        by_cases hlt : i < a.length
        · have hlt2 : i < b.length := by omega
          have ha := List.getElem_mem hlt
          have hsz := (GT.sizes_mem ha).1
          have hal := GT.args_le a[i]
          have hvl := GT.value_le a[i]
          have hS := callSame a[i].value b[i].value (by omega)
          have hR : ∀ bs σ, callT T 17 [.isl (GT.encs a[i].args) false, .isl (GT.encs b[i].args) false] bs σ = some (.bool (sym (decide (a[i].args = b[i].args))), σ) := fun bs σ => call_clean rfl rfl rfl (by simp) (ih (GT.sizes a[i].args) (by omega) _ _ (Nat.le_refl _) (by omega))
          have hw : IntKind.i64.wrap ((i : Int) + 1) = (i : Int) + 1 := wr64 (by omega) (by omega)
          have hno : ¬ (a[i] = b[i]) → ¬ (a = b) := fun h e => h (by subst e; rfl)
          have hyes : a[i] = b[i] → ∀ j, (h1 : j < a.length) → (h2 : j < b.length) → j < i + 1 → a[j] = b[j] := fun h j h1 h2 hj => by
            by_cases e : j = i
            · subst e; exact h
            · exact hall j h1 h2 (by omega)
          simp only [gt_ext a[i] b[i]] at hno hyes
          simp [h0, h1, h5, hlt, hlt2, hS, hR, hw, ← GV.enc_eq, enc_mk]
          repeat' (first | apply And.intro | intro _)
          all_goals first | exact hno (by grind) | exact hyes (by grind) _ (by assumption) (by assumption) (by assumption) | omega | grind
        · have he : i = a.length := by omega
          subst he
          have : a = b := List.ext_getElem hl fun j h1 h2 => hall j h1 h2 h1
          simp [h0, h1, h5, this]
      · simp
    · have : ¬ (a = b) := fun e => hl (by rw [e])
      have h2 : ¬ ((a.length : Int) = (b.length : Int)) := by omega
      simp [c17, h2, this]
theorem callSameTs (a b : List GT) (hs : GT.sizes a ≤ 100000000000) (bs : Nat) (σ : Heap) : callT T 17 [.isl (GT.encs a) false, .isl (GT.encs b) false] bs σ = some (.bool (sym (decide (a = b))), σ) := call_clean rfl rfl rfl (by simp) (sameTs_ok _ a b (Nat.le_refl _) hs)
instance : DecidableEq GL := fun a b => decidable_of_iff (a.kind = b.kind ∧ a.name = b.name ∧ a.args = b.args) ⟨fun h => gl_ext h.1 h.2.1 h.2.2, fun h => by rw [h]; simp⟩
theorem gl_iff (a b : GL) : a = b ↔ a.kind = b.kind ∧ a.name = b.name ∧ a.args = b.args := ⟨fun h => by rw [h]; simp, fun h => gl_ext h.1 h.2.1 h.2.2⟩
theorem sameLs_ok (a b : List GL) (hla : a.length ≤ 1000000) (hs : ∀ x ∈ a, x.size ≤ 100000000000) : pureT T c19 [.isl (a.map GL.enc) false, .isl (b.map GL.enc) false] = some (.bool (decide (a = b))) := by
  apply pure_enter (by simp [c19])
  by_cases hl : a.length = b.length
  · simp [c19, hl]
    refine W_for T 0 55 a.length (fun i f σ => f 0 = .isl (a.map GL.enc) false ∧ f 1 = .isl (b.map GL.enc) false ∧ f 5 = .int .i64 (i : Int) ∧ ∀ j, (h1 : j < a.length) → (h2 : j < b.length) → j < i → a[j] = b[j]) ?_ _ _ ?_
    · rintro i f σ hi ⟨h0, h1, h5, hall⟩
      by_cases hlt : i < a.length
      · have hlt2 : i < b.length := by omega
        have e1 : a[i]? = some a[i] := List.getElem?_eq_getElem hlt
        have e2 : b[i]? = some b[i] := List.getElem?_eq_getElem hlt2
        have ha := List.getElem_mem hlt
        have hsz := hs _ ha
        have hal := a[i].args_le
        have hR := callSameTs a[i].args b[i].args (by omega)
        have hw : IntKind.i64.wrap ((i : Int) + 1) = (i : Int) + 1 := wr64 (by omega) (by omega)
        have hno : ¬ (a[i] = b[i]) → ¬ (a = b) := fun h e => h (by subst e; rfl)
        have hyes : a[i] = b[i] → ∀ j, (h1 : j < a.length) → (h2 : j < b.length) → j < i + 1 → a[j] = b[j] := fun h j h1 h2 hj => by
          by_cases e : j = i
          · subst e; exact h
          · exact hall j h1 h2 (by omega)
        simp only [gl_iff a[i] b[i]] at hno hyes
        simp [h0, h1, h5, hlt, hlt2, hR, hw, e1, e2]
        repeat' (first | apply And.intro | intro _)
        all_goals first | exact hno (by grind) | exact hyes (by grind) _ (by assumption) (by assumption) (by assumption) | omega | grind
      · have he : i = a.length := by omega
        subst he
        have : a = b := List.ext_getElem hl fun j h1 h2 => hall j h1 h2 h1
        simp [h0, h1, h5, this]
    · simp
  · have : ¬ (a = b) := fun e => hl (by rw [e])
    have h2 : ¬ ((a.length : Int) = (b.length : Int)) := by omega
    simp [c19, h2, this]
theorem callSameLs (a b : List GL) (hla : a.length ≤ 1000000) (hs : ∀ x ∈ a, x.size ≤ 100000000000) (bs : Nat) (σ : Heap) : callT T 19 [.isl (a.map GL.enc) false, .isl (b.map GL.enc) false] bs σ = some (.bool (sym (decide (a = b))), σ) := call_clean rfl rfl rfl (by simp) (sameLs_ok a b hla hs)
def termI (l : List GT) (i : Nat) : GT := match l[i]? with
  | some t => termV 8 t
  | none => .mk 1 ⟨#[88]⟩ nilV []
theorem lawterm_ok (l : List GT) (i : Nat) (hl : GT.oks l) (hs : GT.sizes l ≤ 1000000000) (hi : i ≤ 100) : pureT T c50 [.isl (GT.encs l) false, .int .i64 (i : Int)] = some (termI l i).enc := by
  apply pure_enter (by simp [c50])
  by_cases hlt : i < l.length
  · have hm := List.getElem_mem hlt
    have hc : ∀ bs σ, callT T 14 [l[i].enc, .int .i64 8] bs σ = some ((termV 8 l[i]).enc, σ) := callTerm 8 l[i] (by omega) ((GT.oks_iff l).1 hl _ hm) (by have := (GT.sizes_mem hm).1; omega)
    have e : termI l i = termV 8 l[i] := by simp [termI, List.getElem?_eq_getElem hlt]
    rw [e]
    simp [c50, hlt, hc, ← GT.enc_eq, setRun]
  · have e : termI l i = .mk 1 ⟨#[88]⟩ nilV [] := by simp [termI, List.getElem?_eq_none (Nat.le_of_not_lt hlt)]
    rw [e]
    simp [c50, hlt, setRun, GT.enc, nilV]
theorem callLawterm0 (l : List GT) (hl : GT.oks l) (hs : GT.sizes l ≤ 1000000000) (bs : Nat) (σ : Heap) : callT T 50 [.isl (GT.encs l) false, .int .i64 0] bs σ = some ((termI l 0).enc, σ) := call_clean rfl rfl rfl (by simp) (lawterm_ok l 0 hl hs (by omega))
theorem callLawterm1 (l : List GT) (hl : GT.oks l) (hs : GT.sizes l ≤ 1000000000) (bs : Nat) (σ : Heap) : callT T 50 [.isl (GT.encs l) false, .int .i64 1] bs σ = some ((termI l 1).enc, σ) := call_clean rfl rfl rfl (by simp) (lawterm_ok l 1 hl hs (by omega))
end Go.Proofs.YtpkfkipbemdhmaaGreatDoor
end
section
set_option linter.unusedVariables false
set_option linter.unusedSimpArgs false
set_option linter.unnecessarySimpa false
namespace Go.Proofs.YtpkfkipbemdhmaaGreatDoor
open Go.Mach
theorem app_two {σ : Heap} {k j sz fk fj bytes : Nat} {ej : Bool} {cs ds : List AV} (hk : σ[k]? = some (.cells cs fk false)) (hj : σ[j]? = some (.cells ds fj ej)) (hc : cs.length = sz) (hd : ds.length = sz) (h0 : 0 < sz) (hb : bytes ≤ 1000) :
    appendA σ sz true bytes true (.sl k 0 1 sz true) (.sl j 0 1 sz true) = some (.sl σ.length 0 2 sz true, σ ++ [.cells (cs ++ ds.map AV.nrm) 0 true]) := by
  have e1 := elems_ag1 hk hc
  have e2 := elemsN_ag1 hj hd
  have hne : ¬ (sz = 0 ∨ (1 + 1) * bytes > 70368744177664 ∨ 1 + 1 > 70368744177664) := by omega
  simp only [appendA, e1, e2, Option.bind_some, isSl, List.length_singleton, if_neg hne, hk]
  simp [flat, AV.cells, hc, hd]
def firstOf (l : List GT) : GT := match l with
  | t :: _ => if pickN t.kind 4 = 1 then .mk 2 ⟨#[]⟩ (.mk 3 0 (relOf t.name) []) [] else .mk 1 ⟨#[83]⟩ nilV []
  | [] => .mk 1 ⟨#[83]⟩ nilV []
def argsOf (l : List GT) : List GT := firstOf l :: ((l.drop 1).take 7).map (termV 8)
theorem args_right (l : List GT) : argsB (argsOf l) = true := by
  have hf : termR 8 (firstOf l) = true ∧ headOK (argsOf l) = true := by
    unfold argsOf headOK firstOf
    have hv : termR 8 (.mk 1 ⟨#[83]⟩ nilV []) = true := by decide +kernel
    cases l with
    | nil => exact ⟨hv, by simp [GT.kind]⟩
    | cons t l =>
      simp only
      split
      · obtain ⟨r1, r2, r3⟩ := rel_name (rel_right t.name)
        refine ⟨?_, by simp [GT.kind, GT.value, GV.kind]⟩
        simp [termR, termB, GT.kind, GT.value, GT.args, GT.name, GV.kind, GV.num, GV.text, GV.items, rightT, rightV, rightB, r1, r2]
      · exact ⟨hv, by simp [GT.kind]⟩
  have hall : (argsOf l).all (termR 8) = true := by
    rw [List.all_eq_true]; intro x hx
    rcases List.mem_cons.1 hx with rfl | hx
    · exact hf.1
    · obtain ⟨y, _, rfl⟩ := List.mem_map.1 hx; exact term_right 7 y
  have hlen : 1 ≤ (argsOf l).length ∧ (argsOf l).length ≤ 8 := by simp [argsOf]; omega
  simp only [argsB, hall, hf.2, Bool.and_true, decide_eq_true_eq]; exact hlen
theorem args_take (l : List GT) (j : Nat) (h : j + 1 < l.length) : ((l.drop 1).take (j + 1)).map (termV 8) = ((l.drop 1).take j).map (termV 8) ++ [termV 8 l[j + 1]] := by
  have e : (l.drop 1)[j]? = some l[j + 1] := by rw [List.getElem?_drop, show 1 + j = j + 1 by omega, List.getElem?_eq_getElem h]
  rw [List.take_add_one, e, List.map_append]; rfl
def cur (l : List GT) (j : Nat) : List GT := firstOf l :: ((l.drop 1).take j).map (termV 8)
theorem cur_len (l : List GT) (j : Nat) (h : j ≤ l.length - 1) : (cur l j).length = j + 1 := by simp [cur]; omega
def rawFirst (l : List GT) : List AV := match l with
  | t :: _ => if pickN t.kind 4 = 1 then [.int .i64 2, .str ⟨#[]⟩, .int .i64 3, .int .i64 0, .str (relOf t.name), .isl [] true, .isl [] true] else [.int .i64 1, .str ⟨#[83]⟩, .int .i64 0, .int .i64 0, .str ⟨#[]⟩, .isl [] true, .isl [] true]
  | [] => [.int .i64 1, .str ⟨#[83]⟩, .int .i64 0, .int .i64 0, .str ⟨#[]⟩, .isl [] true, .isl [] true]
theorem rawFirst_nrm (l : List GT) : (rawFirst l).map AV.nrm = (firstOf l).enc.cells := by
  unfold rawFirst firstOf
  cases l with
  | nil => rfl
  | cons t l =>
    simp only
    split <;> simp [AV.nrm, GT.enc_cells, GT.kind, GT.name, GT.value, GT.args, GV.kind, GV.num, GV.text, GV.items, nilV]
theorem rawFirst_len (l : List GT) : (rawFirst l).length = 7 := by
  unfold rawFirst
  cases l with
  | nil => rfl
  | cons t l => simp only; split <;> rfl
def rawCur (l : List GT) (j : Nat) : List AV := rawFirst l ++ flat (GT.encs (((l.drop 1).take j).map (termV 8)))
theorem encsT_agg7 (l : List GT) : ∀ e ∈ GT.encs l, ∃ cs, e = .agg cs ∧ cs.length = 7 := fun e he => by
  rw [GT.encs_map] at he
  obtain ⟨v, _, rfl⟩ := List.mem_map.1 he
  exact ⟨_, v.enc_eq, rfl⟩
theorem close_terms {σ : Heap} {k fz : Nat} {ext : Bool} {cs : List AV} {L : List GT} (h : σ[k]? = some (.cells cs fz ext)) (hn : cs.map AV.nrm = flat (GT.encs L)) (hc : cs.all AV.clo1 = true) (hne : L ≠ []) :
    close1 σ (.sl k 0 L.length 7 true) = some (.isl (GT.encs L) false, frz σ k (0 + L.length * 7)) := by
  have hl0 : L.length ≠ 0 := fun e => hne (List.length_eq_zero_iff.1 e)
  have hlen : cs.length = L.length * 7 := by
    have := congrArg List.length hn
    rw [List.length_map, Go.Mach.flat_len (encsT_len L), GT.encs_length] at this; exact this
  refine close1_of0 ?_
  unfold close0
  simp only [if_neg hl0, h, window_full hlen, Option.bind_some, hc, if_true, hn]
  have hch := flat_chunk (encsT_agg7 L)
  rw [GT.encs_length] at hch
  rw [hch]; rfl
theorem flat_cons (x : GT) (l : List GT) : flat (GT.encs (x :: l)) = x.enc.cells ++ flat (GT.encs l) := by simp [flat, GT.encs]
theorem flat_nrm (l : List GT) : (flat (GT.encs l)).map AV.nrm = flat (GT.encs l) ∧ (flat (GT.encs l)).all AV.clo1 = true := by
  induction l with
  | nil => exact ⟨rfl, rfl⟩
  | cons x l ih =>
    rw [flat_cons]
    constructor
    · rw [List.map_append, ih.1]; simp [AV.nrm]
    · rw [List.all_append, ih.2]; simp [AV.clo1]
theorem rawFirst_clo (l : List GT) : (rawFirst l).all AV.clo1 = true := by
  unfold rawFirst
  cases l with
  | nil => rfl
  | cons t l => simp only; split <;> rfl
theorem rawCur_nrm (l : List GT) (j : Nat) : (rawCur l j).map AV.nrm = flat (GT.encs (cur l j)) ∧ (rawCur l j).all AV.clo1 = true := by
  obtain ⟨h1, h2⟩ := flat_nrm (((l.drop 1).take j).map (termV 8))
  constructor
  · rw [rawCur, List.map_append, rawFirst_nrm, h1, cur, flat_cons]
  · rw [rawCur, List.all_append, rawFirst_clo, h2]; rfl
def rawEls (l : List GT) (j : Nat) : List AV := .agg (rawFirst l) :: GT.encs (((l.drop 1).take j).map (termV 8))
theorem rawEls_flat (l : List GT) (j : Nat) : flat (rawEls l j) = rawCur l j := by simp [rawEls, rawCur, flat, AV.cells]
theorem rawEls_agg (l : List GT) (j : Nat) : ∀ e ∈ rawEls l j, ∃ cs, e = .agg cs ∧ cs.length = 7 := fun e he => by
  rcases List.mem_cons.1 he with rfl | he
  · exact ⟨_, rfl, rawFirst_len l⟩
  · exact encsT_agg7 _ e he
theorem rawEls_len (l : List GT) (j : Nat) (h : j ≤ l.length - 1) : (rawEls l j).length = j + 1 := by simp [rawEls]; omega
def ArgsAt (σ0 : Heap) (l : List GT) (r : AV × Heap) : Prop :=
  ∃ k cs rest ext, r = (.sl (σ0.length + k) 0 (argsOf l).length 7 true, σ0 ++ rest) ∧ rest[k]? = some (.cells cs 0 ext) ∧ cs.map AV.nrm = flat (GT.encs (argsOf l)) ∧ cs.all AV.clo1 = true
theorem lawargsR (l : List GT) (hl : GT.oks l) (hs : GT.sizes l ≤ 1000000000) (bs : Nat) (σ0 : Heap) : ∃ r, callT T 31 [.isl (GT.encs l) false] bs σ0 = some r ∧ ArgsAt σ0 l r := by
  have hlen := GT.len_sizes l
  refine heap_enterE (P := ArgsAt σ0 l) (af := c31) (args' := [.isl (GT.encs l) false]) (σ1 := σ0) rfl rfl (by simp [c31]) (by simp [c31]) (clean_closeT (by simp)).1 ?_
  cases l with
  | nil =>
    simp [c31, baseA]
    refine W_for T _ 46 0 (fun i f σ => f 0 = .isl [] false ∧ f 4 = .int .i64 1 ∧ f 3 = .sl σ0.length 0 1 7 true ∧ σ = σ0 ++ [.cells (rawFirst []) 0 false]) ?_ _ _ ?_
    · rintro i f σ hi ⟨g0, g4, g3, hk⟩
      simp [g0, g4, g3, res1]
      have h := rawCur_nrm [] 0
      have e : rawCur [] 0 = rawFirst [] := by simp [rawCur, flat]
      rw [e] at h
      exact ⟨0, _, _, _, by rw [hk]; rfl, rfl, h.1, h.2⟩
    · simp [rawFirst]
  | cons t l =>
    have ht := (GT.oks_iff (t :: l)).1 hl t (by simp)
    have hp := pickQ4 t.kind (by obtain ⟨k, n, v, ar⟩ := t; simp only [GT.ok] at ht; exact ht.1)
    have hr := lawRel t.name (by have := GT.name_le t; simp only [GT.sizes] at hs; omega)
    have round : ∀ (rest : Heap) (L : List GT) (j : Nat) (x : AV), L = t :: l → j + 1 < L.length → rest ≠ [] →
        ((j = 0 ∧ x = .sl σ0.length 0 1 7 true ∧ rest[0]? = some (.cells (rawFirst L) 0 false)) ∨ (0 < j ∧ ∃ k, x = .sl (σ0.length + k) 0 (j + 1) 7 true ∧ rest[k]? = some (.cells (rawCur L j) 0 true))) →
        ∀ y : GT, y = termV 8 (L.getD (j + 1) default) → ∃ rest2, appendA (σ0 ++ (rest ++ [.cells y.enc.cells 0 false])) 7 true 104 true x (.sl (σ0.length + rest.length) 0 1 7 true) = some (.sl (σ0.length + (rest.length + 1)) 0 (j + 2) 7 true, σ0 ++ rest2) ∧ rest2[rest.length + 1]? = some (.cells (rawCur L (j + 1)) 0 true) := by
      intro rest L j x hLe hj hne h y hy
      have hy2 : rawCur L (j + 1) = rawCur L j ++ y.enc.cells := by
        have e : L.getD (j + 1) default = L[j + 1] := by simp [List.getD, List.getElem?_eq_getElem hj]
        rw [e] at hy
        simp only [rawCur, args_take L j hj, ← hy, List.append_assoc]
        congr 1
        simp [flat, GT.encs_map]
      have hyn : y.enc.cells.map AV.nrm = y.enc.cells := by simp [AV.nrm]
      have hlast : (σ0 ++ (rest ++ [AObj.cells y.enc.cells 0 false]))[σ0.length + rest.length]? = some (.cells y.enc.cells 0 false) := by
        rw [List.getElem?_append_right (by omega)]; simp
      have hsl : (σ0 ++ (rest ++ [AObj.cells y.enc.cells 0 false])).length = σ0.length + (rest.length + 1) := by simp
      rcases h with ⟨rfl, rfl, h0⟩ | ⟨hj0, k, rfl, hk⟩
      · have h00 : (σ0 ++ (rest ++ [AObj.cells y.enc.cells 0 false]))[σ0.length]? = some (.cells (rawFirst L) 0 false) := by
          rw [List.getElem?_append_right (by omega), Nat.sub_self, List.getElem?_append_left (List.length_pos_iff.2 hne)]; exact h0
        have := app_two (bytes := 104) h00 hlast (rawFirst_len L) (by simp) (by omega) (by omega)
        rw [this, hsl]
        refine ⟨_, by simp; rfl, ?_⟩
        have e : rawCur L 0 = rawFirst L := by simp [rawCur, flat]
        rw [hy2, e]; simp
      · have hkl : k < rest.length := (List.getElem?_eq_some_iff.1 hk).1
        have hrl := rawEls_len L j (by omega)
        have hfl : (flat (rawEls L j)).length = (rawEls L j).length * 7 := Go.Mach.flat_len fun e he => by obtain ⟨cs, rfl, h⟩ := rawEls_agg L j e he; exact h
        have hk2 : (σ0 ++ (rest ++ [AObj.cells y.enc.cells 0 false]))[σ0.length + k]? = some (.cells (rawCur L j) 0 true) := by
          rw [List.getElem?_append_right (by omega), Nat.add_sub_cancel_left, List.getElem?_append_left hkl]; exact hk
        have := app_mt_sl (σ := σ0 ++ (rest ++ [.cells y.enc.cells 0 false])) (id := σ0.length + rest.length) (k := σ0.length + k) (fz := 0) (ext := false) (cs := y.enc.cells) (es := rawEls L j) (sz := 7) (bytes := 104) hlast (by simp) (by omega) (by omega)
          (by rw [rawEls_flat]; exact hk2) hfl (flat_chunk (rawEls_agg L j)) (by rw [hrl]; subst hLe; simp only [List.length_cons] at hj ⊢; have := GT.len_sizes (t :: l); simp only [List.length_cons] at this; omega)
        rw [hrl, hsl] at this
        rw [this, rawEls_flat]
        refine ⟨(rest ++ [AObj.cells y.enc.cells 0 false]).set k .dead ++ [.cells (rawCur L j ++ y.enc.cells.map AV.nrm) 0 true], ?_, ?_⟩
        · rw [List.set_append_right _ _ (by omega), Nat.add_sub_cancel_left, List.append_assoc]
        · rw [List.getElem?_append_right (by simp)]
          rw [hy2]; simp
    have hlc : l.length + 1 ≤ 1000000000 := by simp only [List.length_cons] at hlen; omega
    have h8 := fun (x : GT) (hx : x ∈ t :: l) (bs : Nat) (σ : Heap) => (callTerm 8 x (by omega) ((GT.oks_iff (t :: l)).1 hl x hx) (by have := (GT.sizes_mem hx).1; omega) bs σ : callT T 14 [x.enc, .int .i64 8] bs σ = _)
    have hk' : (((pickN t.kind 4 : Nat) : Int) = 1) = (pickN t.kind 4 = 1) := propext ⟨fun h => by omega, fun h => by omega⟩
    by_cases hk : pickN t.kind 4 = 1
    all_goals
      simp [c31, baseA, hp, hr, hk', hk, GT.encs]
      refine W_for T _ 46 (min l.length 7) (fun j f σ => f 0 = .isl (t.enc :: GT.encs l) false ∧ f 4 = .int .i64 ((j : Int) + 1) ∧ ∃ rest, σ = σ0 ++ rest ∧ rest ≠ [] ∧
        ((j = 0 ∧ f 3 = .sl σ0.length 0 1 7 true ∧ rest[0]? = some (.cells (rawFirst (t :: l)) 0 false)) ∨ (0 < j ∧ ∃ k, f 3 = .sl (σ0.length + k) 0 (j + 1) 7 true ∧ rest[k]? = some (.cells (rawCur (t :: l) j) 0 true)))) ?_ _ _ ?_
    rotate_left 1
    · simp [rawFirst, hk]
    rotate_left 1
    · simp [rawFirst, hk]
    all_goals
      rintro j f σ hj ⟨g0, g4, rest, rfl, hne, hst⟩
      by_cases hlt : j < min l.length 7
      · have hj1 : j + 1 < (t :: l).length := by simp only [List.length_cons]; omega
        obtain ⟨σ2, ha, hb⟩ := round rest (t :: l) j (f 3) rfl hj1 hne hst _ rfl
        have he : (t :: l).getD (j + 1) default = l[j] := by simp [List.getD, List.getElem?_eq_getElem (show j < l.length by omega)]
        rw [he] at ha
        have hT : ∀ bs σ, callT T 14 [l[j].enc, .int .i64 8] bs σ = some ((termV 8 l[j]).enc, σ) := h8 l[j] (by simp)
        have hw : IntKind.i64.wrap ((j : Int) + 1 + 1) = (j : Int) + 1 + 1 := wr64 (by omega) (by omega)
        have c1 : j < l.length := by omega
        have c2 : (j : Int) + 1 < 8 := by omega
        have c3 : ((j : Int) + 1).toNat = j + 1 := by omega
        have c4 : 0 ≤ (j : Int) + 1 := by omega
        obtain ⟨x3, hx3⟩ : ∃ x, f 3 = x := ⟨_, rfl⟩
        rw [hx3] at ha
        simp at ha
        simp [g0, g4, hx3, c1, c2, c3, c4, hT, hw, ha, ← GT.enc_eq]
        exact ⟨hlt, by rintro rfl; simp at hb, hb⟩
      · have hj2 : j = min l.length 7 := by omega
        have c1 : ¬ (j < l.length ∧ (j : Int) + 1 < 8) := by omega
        have hfin : ∃ k ext cs, f 3 = .sl (σ0.length + k) 0 (argsOf (t :: l)).length 7 true ∧ rest[k]? = some (.cells cs 0 ext) ∧ cs.map AV.nrm = flat (GT.encs (argsOf (t :: l))) ∧ cs.all AV.clo1 = true := by
          have hcur : cur (t :: l) j = argsOf (t :: l) := by
            unfold cur argsOf
            have : List.take j (List.drop 1 (t :: l)) = List.take 7 (List.drop 1 (t :: l)) := by
              simp only [List.drop_succ_cons, List.drop_zero]
              rw [hj2]; simp [List.take_eq_take_iff, Nat.min_comm]
            rw [this]
          have hcl : (argsOf (t :: l)).length = j + 1 := by rw [← hcur]; exact cur_len _ _ (by simp; omega)
          have hn := rawCur_nrm (t :: l) j
          rw [hcur] at hn
          rcases hst with ⟨rfl, h3, hk⟩ | ⟨_, k, h3, hk⟩
          · have e : rawCur (t :: l) 0 = rawFirst (t :: l) := by simp [rawCur, flat]
            rw [e] at hn
            exact ⟨0, _, _, by rw [h3, hcl]; rfl, hk, hn.1, hn.2⟩
          · exact ⟨k, _, _, by rw [h3, hcl], hk, hn.1, hn.2⟩
        obtain ⟨k, ext, cs, h3, hkk, hn1, hn2⟩ := hfin
        have hfin2 : ArgsAt σ0 (t :: l) (.sl (σ0.length + k) 0 (argsOf (t :: l)).length 7 true, σ0 ++ rest) := ⟨k, cs, rest, ext, rfl, hkk, hn1, hn2⟩
        by_cases d1 : j < l.length
        · have d2 : ¬ ((j : Int) + 1 < 8) := by omega
          simp [g0, g4, d1, d2, h3, res1, hfin2]
        · simp [g0, g4, d1, h3, res1, hfin2]
noncomputable def argsX (l : List GT) (bs : Nat) (σ : Heap) : AV × Heap := (callT T 31 [.isl (GT.encs l) false] bs σ).getD default
theorem argsX_at (l : List GT) (hl : GT.oks l) (hs : GT.sizes l ≤ 1000000000) (bs : Nat) (σ : Heap) : ArgsAt σ l (argsX l bs σ) ∧ callT T 31 [.isl (GT.encs l) false] bs σ = some (argsX l bs σ) := by
  obtain ⟨r, hr, ha⟩ := lawargsR l hl hs bs σ
  have : argsX l bs σ = r := by unfold argsX; rw [hr]; rfl
  rw [this]; exact ⟨ha, hr⟩
end Go.Proofs.YtpkfkipbemdhmaaGreatDoor
end
section
set_option linter.unusedVariables false
set_option linter.unusedSimpArgs false
set_option linter.unnecessarySimpa false
namespace Go.Proofs.YtpkfkipbemdhmaaGreatDoor
open Go.Mach
set_option maxRecDepth 100000 in
theorem awake4_eval : evalFn T 200 9 [] 0 [] = some (.bool true, []) := by kernel_rfl
theorem awake4_ok : pureT T c9 [] = some (.bool true) := pureT_of_call rfl rfl rfl rfl (callT_of_eval awake4_eval)
theorem callAwake4 (bs : Nat) (σ : Heap) : callT T 9 [] bs σ = some (.bool true, σ) := call_clean rfl rfl rfl rfl awake4_ok
end Go.Proofs.YtpkfkipbemdhmaaGreatDoor
end
section
set_option linter.unusedVariables false
set_option linter.unusedSimpArgs false
set_option linter.unnecessarySimpa false
namespace Go.Proofs.YtpkfkipbemdhmaaGreatDoor
open Go.Mach
def testOf (n : Nat) : ByteArray := if n = 0 then ⟨#[61, 61]⟩ else if n = 1 then ⟨#[33, 61]⟩ else if n = 2 then ⟨#[60]⟩ else if n = 3 then ⟨#[60, 61]⟩ else if n = 4 then ⟨#[62]⟩ else ⟨#[62, 61]⟩
def litOf (x : GL) : GL :=
  if pickN x.kind 4 = 0 then ⟨1, relOf x.name, argsOf x.args⟩
  else if pickN x.kind 4 = 1 then ⟨2, relOf x.name, argsOf x.args⟩
  else if pickN x.kind 4 = 2 then ⟨3, testOf (pickN x.name.size 6), [termI x.args 0, termI x.args 1]⟩
  else ⟨4, varOf x.name, [termI x.args 0]⟩
theorem termI_right (l : List GT) (i : Nat) : termR 8 (termI l i) = true := by
  unfold termI
  split
  · exact term_right 7 _
  · decide +kernel
theorem test_right (n : Nat) : tOK (testOf n) = true := by
  unfold testOf
  repeat' split
  all_goals decide
theorem lit_right (x : GL) : litB (litOf x) = true := by
  unfold litOf
  split
  · simp [litB, rel_right, args_right]
  split
  · simp [litB, rel_right, args_right]
  split
  · simp [litB, test_right, termI_right]
  · simp [litB, var_right, termI_right]
theorem testOf_at {p : Nat} (h : p < 6) : window [AV.str ⟨#[61, 61]⟩, .str ⟨#[33, 61]⟩, .str ⟨#[60]⟩, .str ⟨#[60, 61]⟩, .str ⟨#[62]⟩, .str ⟨#[62, 61]⟩] p 1 = some [.str (testOf p)] := by
  have : p = 0 ∨ p = 1 ∨ p = 2 ∨ p = 3 ∨ p = 4 ∨ p = 5 := by omega
  rcases this with rfl | rfl | rfl | rfl | rfl | rfl <;> rfl
theorem lawlit_ok (x : GL) (ho : x.ok) (hs : x.size ≤ 1000000000) : pureT T c15 [x.enc] = some (litOf x).enc := by
  have h1 := x.name_le
  have h2 := x.args_le
  obtain ⟨k, n, l⟩ := x
  obtain ⟨hk, hl⟩ := ho
  simp only at h1 h2 hk hl
  have hp := pickQ4 k hk
  have hp6 := pickQ6 (n.size : Int) (by unfold GV.i64ok; omega)
  have hlt6 := pickN_lt (c := (n.size : Int)) (n := 6) (by omega)
  have hwin := testOf_at hlt6
  have hr := lawRel n (by omega)
  have hv := lawVar n (by omega)
  have hargs : ∀ A B : AObj, ∃ K R, callT T 31 [.isl (GT.encs l) false] 0 [A, B] = some (.sl K 0 (argsOf l).length 7 true, A :: B :: R) ∧
      ∀ A2 B2, close1 (A2 :: B2 :: R) (.sl K 0 (argsOf l).length 7 true) = some (.isl (GT.encs (argsOf l)) false, frz (A2 :: B2 :: R) K (0 + (argsOf l).length * 7)) := fun A B => by
    obtain ⟨⟨k, cs, R, ext, hr, hk, hn, hc⟩, hcall⟩ := argsX_at l hl (by omega) 0 [A, B]
    rw [hr] at hcall
    exact ⟨_, R, hcall, fun A2 B2 => close_terms (by rw [List.length_cons, List.length_singleton, Nat.add_comm]; exact hk) hn hc (by simp [argsOf])⟩
  have t0 := callLawterm0 l hl (by omega)
  have t1 := callLawterm1 l hl (by omega)
  have hc6 : ((pickN (n.size : Int) 6 : Nat) : Int) < 6 := by omega
  have e0 : (((pickN k 4 : Nat) : Int) = 0) = (pickN k 4 = 0) := propext ⟨fun h => by omega, fun h => by omega⟩
  have e1 : (((pickN k 4 : Nat) : Int) = 1) = (pickN k 4 = 1) := propext ⟨fun h => by omega, fun h => by omega⟩
  have e2 : (((pickN k 4 : Nat) : Int) = 2) = (pickN k 4 = 2) := propext ⟨fun h => by omega, fun h => by omega⟩
  apply pure_enter (by simp [c15])
  unfold litOf
  simp only
  generalize pickN (n.size : Int) 6 = q at *
  by_cases k0 : pickN k 4 = 0
  · obtain ⟨K, R, ha, hcl⟩ := hargs (.cells [.int .i64 k, .str n, .isl (GT.encs l) false] 0 false) (.cells [.int .i64 0, .str ⟨#[]⟩, .isl [] true] 0 false)
    simp [c15, GL.enc_eq, hp, hr, ha, k0, setRun, hcl]
  by_cases k1 : pickN k 4 = 1
  · obtain ⟨K, R, ha, hcl⟩ := hargs (.cells [.int .i64 k, .str n, .isl (GT.encs l) false] 0 false) (.cells [.int .i64 0, .str ⟨#[]⟩, .isl [] true] 0 false)
    simp [c15, GL.enc_eq, hp, hr, ha, k1, setRun, hcl]
  by_cases k2 : pickN k 4 = 2
  · have hcl := close1_flat (σ := []) (id := 0) (s := 7) (fz := 0) (ext := false) (es := GT.encs [termI l 0, termI l 1])
    simp [c15, GL.enc_eq, hp, hp6, hlt6, hc6, hwin, t0, t1, k2, setRun]
    rw [show (AV.sl 3 0 2 7 true) = .sl 3 0 [termI l 0, termI l 1].length 7 true from rfl, close_terms (L := [termI l 0, termI l 1]) rfl (by simp [flat, GT.encs, AV.nrm]) (by simp [AV.clo1]) (by simp)]
    exact ⟨_, rfl⟩
  · simp [c15, GL.enc_eq, hp, hv, t0, e0, e1, e2, k0, k1, k2, setRun]
    rw [show (AV.sl 2 0 1 7 true) = .sl 2 0 [termI l 0].length 7 true from rfl, close_terms (L := [termI l 0]) rfl (by simp [flat, GT.encs, AV.nrm]) (by simp [AV.clo1]) (by simp)]
    exact ⟨_, rfl⟩
theorem callLawLit (x : GL) (ho : x.ok) (hs : x.size ≤ 1000000000) (bs : Nat) (σ : Heap) : callT T 15 [x.enc] bs σ = some ((litOf x).enc, σ) := call_clean rfl rfl rfl (by simp) (lawlit_ok x ho hs)
end Go.Proofs.YtpkfkipbemdhmaaGreatDoor
end
section
set_option linter.unusedVariables false
set_option linter.unusedSimpArgs false
set_option linter.unnecessarySimpa false
namespace Go.Proofs.YtpkfkipbemdhmaaGreatDoor
open Go.Mach
end Go.Proofs.YtpkfkipbemdhmaaGreatDoor
end
section
set_option linter.unusedVariables false
set_option linter.unusedSimpArgs false
set_option linter.unnecessarySimpa false
namespace Go.Proofs.YtpkfkipbemdhmaaGreatDoor
open Go.Mach
end Go.Proofs.YtpkfkipbemdhmaaGreatDoor
end
section
set_option linter.unusedVariables false
set_option linter.unusedSimpArgs false
set_option linter.unnecessarySimpa false
namespace Go.Proofs.YtpkfkipbemdhmaaGreatDoor
open Go.Mach
end Go.Proofs.YtpkfkipbemdhmaaGreatDoor
end
section
set_option linter.unusedVariables false
set_option linter.unusedSimpArgs false
set_option linter.unnecessarySimpa false
namespace Go.Proofs.YtpkfkipbemdhmaaGreatDoor
open Go.Mach
end Go.Proofs.YtpkfkipbemdhmaaGreatDoor
end
section
set_option linter.unusedVariables false
set_option linter.unusedSimpArgs false
set_option linter.unnecessarySimpa false
namespace Go.Proofs.YtpkfkipbemdhmaaGreatDoor
open Go.Mach
end Go.Proofs.YtpkfkipbemdhmaaGreatDoor
end
section
set_option linter.unusedVariables false
set_option linter.unusedSimpArgs false
set_option linter.unnecessarySimpa false
namespace Go.Proofs.YtpkfkipbemdhmaaGreatDoor
open Go.Mach
def joinB (ls : List ByteArray) (sep : ByteArray) : List UInt8 := joinF (fun _ (x : ByteArray) => x.data.toList) sep.data.toList 0 ls
theorem S_sz (a : List UInt8) : (S a).size = a.length := rfl
end Go.Proofs.YtpkfkipbemdhmaaGreatDoor
end
section
set_option linter.unusedVariables false
set_option linter.unusedSimpArgs false
set_option linter.unnecessarySimpa false
namespace Go.Proofs.YtpkfkipbemdhmaaGreatDoor
open Go.Mach
theorem sz_mk (a : Array UInt8) : (ByteArray.mk a).size = a.size := rfl
def TxAt (σ : Heap) (x : AV) (ls : List ByteArray) : Prop := (ls = [] ∧ x = .isl [] true) ∨ ∃ k ext, x = .sl k 0 ls.length 1 false ∧ σ[k]? = some (.cells (ls.map .str) 0 ext)
end Go.Proofs.YtpkfkipbemdhmaaGreatDoor
end
section
set_option linter.unusedVariables false
set_option linter.unusedSimpArgs false
set_option linter.unnecessarySimpa false
namespace Go.Proofs.YtpkfkipbemdhmaaGreatDoor
open Go.Mach
end Go.Proofs.YtpkfkipbemdhmaaGreatDoor
end
section
set_option linter.unusedVariables false
set_option linter.unusedSimpArgs false
set_option linter.unnecessarySimpa false
namespace Go.Proofs.YtpkfkipbemdhmaaGreatDoor
open Go.Mach
def ixm (f : Nat → GT → List UInt8) : Nat → List GT → List ByteArray
  | _, [] => []
  | i, x :: l => S (f i x) :: ixm f (i + 1) l
end Go.Proofs.YtpkfkipbemdhmaaGreatDoor
end
section
set_option linter.unusedVariables false
set_option linter.unusedSimpArgs false
set_option linter.unnecessarySimpa false
namespace Go.Proofs.YtpkfkipbemdhmaaGreatDoor
open Go.Mach
end Go.Proofs.YtpkfkipbemdhmaaGreatDoor
end
section
set_option linter.unusedVariables false
set_option linter.unusedSimpArgs false
set_option linter.unnecessarySimpa false
namespace Go.Proofs.YtpkfkipbemdhmaaGreatDoor
open Go.Mach
end Go.Proofs.YtpkfkipbemdhmaaGreatDoor
end
section
set_option linter.unusedVariables false
set_option linter.unusedSimpArgs false
set_option linter.unnecessarySimpa false
namespace Go.Proofs.YtpkfkipbemdhmaaGreatDoor
open Go.Mach
end Go.Proofs.YtpkfkipbemdhmaaGreatDoor
end
section
set_option linter.unusedVariables false
set_option linter.unusedSimpArgs false
set_option linter.unnecessarySimpa false
namespace Go.Proofs.YtpkfkipbemdhmaaGreatDoor
open Go.Mach
def aggOf (n : Nat) : ByteArray := if n = 0 then sMin else if n = 1 then sMax else sCount
def declOf (d : GD) : GD := ⟨relOf d.name, 1 + (pickN d.arity 8 : Int)⟩
def tupOf (t : GU) : GU := ⟨relOf t.name, .mk 3 0 ⟨#[97]⟩ [] :: (t.args.take 7).map fit⟩
def lit0 : GL := ⟨0, ⟨#[]⟩, []⟩
def bodyOf (l : List GL) : List GL := if l = [] then [litOf lit0] else (l.take 8).map litOf
def hasAgg (r : GR) : Prop := 1 < (argsOf r.args).length ∧ pickN r.pos 2 = 1
instance (r : GR) : Decidable (hasAgg r) := inferInstanceAs (Decidable (_ ∧ _))
def posOf (r : GR) : Nat := 1 + pickN r.pos ((argsOf r.args).length - 1)
def ruleOf (r : GR) : GR :=
  if hasAgg r then ⟨relOf r.label, relOf r.head, (argsOf r.args).set (posOf r) (.mk 1 (varOf r.agg) nilV []), aggOf (pickN r.pos 3), (posOf r : Int), bodyOf r.body⟩
  else ⟨relOf r.label, relOf r.head, argsOf r.args, ⟨#[]⟩, 0, bodyOf r.body⟩
def progOf (p : GP) : GP := ⟨(p.decls.take 64).map declOf, (p.facts.take 64).map tupOf, (p.rules.take 64).map ruleOf⟩
theorem decl_right (d : GD) : declB (declOf d) = true := by
  have := pickN_lt (c := d.arity) (n := 8) (by omega)
  have h : 1 ≤ (declOf d).arity ∧ (declOf d).arity ≤ 8 := by show 1 ≤ 1 + (pickN d.arity 8 : Int) ∧ 1 + (pickN d.arity 8 : Int) ≤ 8; omega
  have h2 : relOK (declOf d).name = true := rel_right d.name
  simp only [declB, h2, h, and_self, decide_true, Bool.and_self]
theorem tup_right (t : GU) : tupB (tupOf t) = true := by
  have hl : ((t.args.take 7).map fit).length ≤ 7 := by simp; omega
  have h0 : rightT (.mk 3 0 ⟨#[97]⟩ []) = true := by decide +kernel
  have h2 : relOK (tupOf t).name = true := rel_right t.name
  have h3 : (tupOf t).args = .mk 3 0 ⟨#[97]⟩ [] :: (t.args.take 7).map fit := rfl
  have h4 : 1 ≤ (tupOf t).args.length ∧ (tupOf t).args.length ≤ 8 := by rw [h3, List.length_cons]; omega
  have h5 : (tupOf t).args.all rightT = true := by
    rw [h3, List.all_cons, h0, Bool.true_and, List.all_eq_true]; intro x hx
    obtain ⟨y, _, rfl⟩ := List.mem_map.1 hx; exact fit_right y
  simp only [tupB, h2, h4, h5, and_self, decide_true, Bool.true_and, Bool.and_true]
  rw [h3]; rfl
theorem body_right (l : List GL) : (1 ≤ (bodyOf l).length ∧ (bodyOf l).length ≤ 8) ∧ (bodyOf l).all litB = true := by
  unfold bodyOf
  split
  · exact ⟨by simp, by simp [lit_right]⟩
  · rename_i h
    have := List.length_pos_iff.2 h
    refine ⟨by simp; omega, ?_⟩
    rw [List.all_eq_true]; intro x hx
    obtain ⟨y, _, rfl⟩ := List.mem_map.1 hx; exact lit_right y
theorem argsOf_len (l : List GT) : 1 ≤ (argsOf l).length ∧ (argsOf l).length ≤ 8 := by simp [argsOf]; omega
theorem posOf_lt {r : GR} (h : hasAgg r) : 1 ≤ posOf r ∧ posOf r < (argsOf r.args).length := by
  have := pickN_lt (c := r.pos) (n := (argsOf r.args).length - 1) (by have := h.1; omega)
  unfold posOf; omega
theorem args_set_right {l : List GT} {n : Nat} (hn : 1 ≤ n) {v : GT} (hv : termR 8 v = true) : argsB ((argsOf l).set n v) = true := by
  have h := args_right l
  simp only [argsB, Bool.and_eq_true, decide_eq_true_eq, List.all_eq_true] at h ⊢
  obtain ⟨⟨h1, h2⟩, h3⟩ := h
  refine ⟨⟨by simpa using h1, fun x hx => ?_⟩, ?_⟩
  · rcases List.mem_or_eq_of_mem_set hx with hx | rfl
    · exact h2 x hx
    · exact hv
  · unfold argsOf at h3 ⊢
    obtain ⟨m, rfl⟩ : ∃ m, n = m + 1 := ⟨n - 1, by omega⟩
    simpa [headOK] using h3
theorem aggVar_right (s : ByteArray) : termR 8 (.mk 1 (varOf s) nilV []) = true := by
  simp [termR, termB, GT.kind, GT.value, GT.args, GT.name, bareV, nilV, var_right, GV.kind, GV.num, GV.text, GV.items]
theorem rule_right (r : GR) : ruleB (ruleOf r) = true := by
  obtain ⟨b1, b2⟩ := body_right r.body
  unfold ruleOf
  split
  · rename_i h
    obtain ⟨h1, h2⟩ := posOf_lt h
    have ha := args_set_right (l := r.args) h1 (aggVar_right r.agg)
    have hg : aggOf (pickN r.pos 3) ≠ ⟨#[]⟩ ∧ (aggOf (pickN r.pos 3) = sMin ∨ aggOf (pickN r.pos 3) = sMax ∨ aggOf (pickN r.pos 3) = sCount) := by
      unfold aggOf
      split
      · exact ⟨by decide, .inl rfl⟩
      split
      · exact ⟨by decide, .inr (.inl rfl)⟩
      · exact ⟨by decide, .inr (.inr rfl)⟩
    simp only [ruleB, rel_right, ha, b1, b2, aggB, if_neg hg.1, hg.2, Bool.and_true, Bool.true_and, Bool.and_eq_true, decide_eq_true_eq, decide_true, and_self]
    refine ⟨⟨by omega, by simp; omega⟩, ?_⟩
    rw [Int.toNat_natCast]
    simp [h2, GT.kind]
  · simp [ruleB, rel_right, args_right, b1, b2, aggB]
theorem prog_right (p : GP) : progB (progOf p) = true := by
  simp only [progB, progOf, Bool.and_eq_true, decide_eq_true_eq, List.all_eq_true]
  refine ⟨⟨⟨by simp; omega, fun x hx => ?_⟩, fun x hx => ?_⟩, fun x hx => ?_⟩
  all_goals obtain ⟨y, _, rfl⟩ := List.mem_map.1 hx
  · exact tup_right y
  · exact rule_right y
  · exact decl_right y
theorem relOf_le (s : ByteArray) : (relOf s).size ≤ 16 := by
  have := nameFit_size s
  unfold relOf; split
  · show 1 ≤ 16; omega
  · omega
theorem varOf_le (s : ByteArray) : (varOf s).size ≤ 16 := by
  have := nameFit_size s
  unfold varOf; rw [ByteArray.size_append, ByteArray.size_extract]
  show 1 + _ ≤ 16; omega
theorem gv_pos (v : GV) : 5 ≤ v.size := by cases v; simp only [GV.size]; omega
theorem gt_pos (t : GT) : 8 ≤ t.size := by cases t with | mk k n v l => simp only [GT.size]; have := gv_pos v; omega
theorem sizesV_map (f : GV → GV) (h : ∀ x, (f x).size ≤ 8 * x.size) : ∀ (l : List GV) (n : Nat), GV.sizes ((l.take n).map f) ≤ 8 * GV.sizes l
  | [], n => by simp [GV.sizes]
  | x :: l, 0 => by simp [GV.sizes]
  | x :: l, n + 1 => by have := sizesV_map f h l n; have := h x; simp only [List.take_succ_cons, List.map_cons, GV.sizes]; omega
theorem sizesT_map (f : GT → GT) (h : ∀ x, (f x).size ≤ 8 * x.size) : ∀ (l : List GT) (n : Nat), GT.sizes ((l.take n).map f) ≤ 8 * GT.sizes l
  | [], n => by simp [GT.sizes]
  | x :: l, 0 => by simp [GT.sizes]
  | x :: l, n + 1 => by have := sizesT_map f h l n; have := h x; simp only [List.take_succ_cons, List.map_cons, GT.sizes]; omega
theorem fitV_le : ∀ (d : Nat) (v : GV), (fitV d v).size ≤ 8 * v.size := by
  intro d
  induction d with
  | zero =>
    intro v
    have := gv_pos v
    rw [fitV]
    repeat' split
    · simp only [GV.size, GV.sizes]; show 0 + 0 + 5 ≤ _; omega
    · simp only [GV.size, GV.sizes]
      have : (textFit v.text).size ≤ 32 := by simp only [textFit, ByteArray.size, List.size_toArray, List.length_map, List.length_take]; omega
      omega
    · simp only [GV.size, GV.sizes]; have := nameFit_size v.text; omega
    · simp only [GV.size, GV.sizes]; show 0 + 0 + 5 ≤ _; omega
  | succ d ih =>
    intro v
    have := gv_pos v
    rw [fitV]
    repeat' split
    · simp only [GV.size, GV.sizes]; show 0 + 0 + 5 ≤ _; omega
    · simp only [GV.size, GV.sizes]
      have : (textFit v.text).size ≤ 32 := by simp only [textFit, ByteArray.size, List.size_toArray, List.length_map, List.length_take]; omega
      omega
    · simp only [GV.size, GV.sizes]; have := nameFit_size v.text; omega
    · have hm := sizesV_map (fun x => fitV d (if d = 0 ∧ pickN x.kind 4 = 3 then .mk 0 x.num x.text x.items else x)) (fun x => by
        have h1 := ih (if d = 0 ∧ pickN x.kind 4 = 3 then .mk 0 x.num x.text x.items else x)
        have h2 : (if d = 0 ∧ pickN x.kind 4 = 3 then GV.mk 0 x.num x.text x.items else x).size = x.size := by
          split
          · cases x; simp only [GV.size, GV.text, GV.items]
          · rfl
        rw [h2] at h1; exact h1) v.items 16
      have h3 : v.size = v.text.size + GV.sizes v.items + 5 := by cases v; simp only [GV.size, GV.text, GV.items]
      simp only [GV.size]; show 0 + _ + 5 ≤ _; omega
theorem fit_le (v : GV) : (fit v).size ≤ 8 * v.size := fitV_le 4 v
theorem valOf_le (v : GV) : (valOf v).size ≤ 8 * v.size := by
  unfold valOf
  split
  · rename_i h
    have h1 := gv_pos v
    have h2 := relOf_le (fit v).text
    obtain ⟨n, t, e⟩ : ∃ n t, fit v = .mk 3 n t [] := by
      have hr := fit_right v
      unfold fit at h ⊢
      rw [fitV] at h ⊢
      repeat' split
      · rename_i h1; rw [if_pos h1] at h; simp [GV.kind] at h
      · rename_i h1 h2; rw [if_neg h1, if_pos h2] at h; simp [GV.kind] at h
      · exact ⟨_, _, rfl⟩
      · rename_i h1 h2 h3; simp [h1, h2, h3, GV.kind] at h
    have e2 : (fit v).items = [] := by rw [e]
    rw [e2]
    simp only [GV.size, GV.sizes]; omega
  · exact fit_le v
theorem leafT_le (t : GT) : (leafT t).size ≤ 8 * t.size := by
  have h0 := gt_pos t
  unfold leafT
  split
  · have := varOf_le t.name
    simp only [GT.size, GT.sizes, nilV, GV.size, GV.sizes]; show _ + (0 + 0 + 5) + 0 + 3 ≤ _; omega
  · have h1 := valOf_le t.value
    have h2 : t.size = t.name.size + t.value.size + GT.sizes t.args + 3 := by cases t; rfl
    simp only [GT.size, GT.sizes]; show 0 + _ + 0 + 3 ≤ _; omega
theorem termV_le : ∀ (d : Nat) (t : GT), (termV d t).size ≤ 8 * t.size
  | 0, t => by rw [termV]; exact leafT_le t
  | d + 1, t => by
    have h0 := gt_pos t
    have h2 : t.size = t.name.size + t.value.size + GT.sizes t.args + 3 := by cases t; rfl
    have h5 := gv_pos t.value
    rw [termV]
    split
    · exact leafT_le t
    split
    · have := varOf_le t.name
      simp only [GT.size, GT.sizes, nilV, GV.size, GV.sizes]; show _ + (0 + 0 + 5) + 0 + 3 ≤ _; omega
    split
    · have h1 := valOf_le t.value
      simp only [GT.size, GT.sizes]; show 0 + _ + 0 + 3 ≤ _; omega
    split
    · generalize pickN (IntKind.i64.wrap ((t.name.size : Int) + t.kind)) 6 = q
      have h3 := sizesT_map (termV d) (termV_le d) t.args (arityOf (fnOf q)).toNat
      have h4 : (fnOf q).size ≤ 9 := by unfold fnOf; (repeat' split) <;> decide
      simp only [GT.size, nilV, GV.size, GV.sizes]; show _ + (0 + 0 + 5) + _ + 3 ≤ _; omega
    · have h3 := sizesT_map (termV d) (termV_le d) t.args 2
      have h4 : ∀ q, (opOf q).size ≤ 9 := fun q => by unfold opOf; (repeat' split) <;> decide
      have h4 := h4 (pickN t.name.size 3)
      simp only [GT.size, nilV, GV.size, GV.sizes]; show _ + (0 + 0 + 5) + _ + 3 ≤ _; omega
theorem argsOf_le (l : List GT) : GT.sizes (argsOf l) ≤ 24 + 8 * GT.sizes l := by
  have h1 := sizesT_map (termV 8) (termV_le 8) (l.drop 1) 7
  have h2 : GT.sizes (l.drop 1) ≤ GT.sizes l := by cases l with
    | nil => simp [GT.sizes]
    | cons x l => simp only [List.drop_succ_cons, List.drop_zero, GT.sizes]; omega
  have h3 : (firstOf l).size ≤ 24 := by
    unfold firstOf
    cases l with
    | nil => simp only [GT.size, GT.sizes, nilV, GV.size, GV.sizes]; show 1 + (0 + 0 + 5) + 0 + 3 ≤ _; omega
    | cons t l =>
      simp only
      split
      · have := relOf_le t.name
        simp only [GT.size, GT.sizes, GV.size, GV.sizes]; show 0 + _ + 0 + 3 ≤ _; omega
      · simp only [GT.size, GT.sizes, nilV, GV.size, GV.sizes]; show 1 + (0 + 0 + 5) + 0 + 3 ≤ _; omega
  simp only [argsOf, GT.sizes]; omega
theorem termI_le (l : List GT) (i : Nat) : (termI l i).size ≤ 9 + 8 * GT.sizes l := by
  unfold termI
  split
  · rename_i t h
    have := termV_le 8 t
    have := (GT.sizes_mem (List.mem_of_getElem? h)).1
    omega
  · simp only [GT.size, GT.sizes, nilV, GV.size, GV.sizes]; show 1 + (0 + 0 + 5) + 0 + 3 ≤ _; omega
theorem gl_size (x : GL) : x.size = x.name.size + GT.sizes x.args + 4 := by simp only [GL.size, GL.enc, bulkA, bulkAs, GT.bulk_encs]; omega
theorem litOf_le (x : GL) : (litOf x).size ≤ 16 * x.size := by
  have h0 := gl_size x
  have h1 := argsOf_le x.args
  have h2 := relOf_le x.name
  have h3 := varOf_le x.name
  have h4 := termI_le x.args 0
  have h5 := termI_le x.args 1
  have h6 : (testOf (pickN x.name.size 6)).size ≤ 2 := by unfold testOf; (repeat' split) <;> decide
  rw [gl_size]
  unfold litOf
  repeat' split
  all_goals simp only [GT.sizes]; omega
theorem gr_size (x : GR) : x.size = x.label.size + x.head.size + GT.sizes x.args + x.agg.size + bulkAs (x.body.map GL.enc) + 7 := by simp only [GR.size, GR.enc, bulkA, bulkAs, GT.bulk_encs]; omega
theorem gu_size (x : GU) : x.size = x.name.size + GV.sizes x.args + 3 := by simp only [GU.size, GU.enc, bulkA, bulkAs, GV.bulk_encs]; omega
theorem gd_size (x : GD) : x.size = x.name.size + 3 := by simp only [GD.size, GD.enc, bulkA, bulkAs]
theorem bulk_map {α : Type} (f : α → α) (enc : α → AV) (K : Nat) (h : ∀ x, bulkA (enc (f x)) ≤ K * bulkA (enc x)) : ∀ (l : List α) (n : Nat), bulkAs (((l.take n).map f).map enc) ≤ K * bulkAs (l.map enc)
  | [], n => by simp [bulkAs]
  | x :: l, 0 => by simp [bulkAs]
  | x :: l, n + 1 => by have := bulk_map f enc K h l n; have := h x; simp only [List.take_succ_cons, List.map_cons, bulkAs, Nat.mul_add]; omega
theorem bodyOf_le (l : List GL) : bulkAs ((bodyOf l).map GL.enc) ≤ 64 + 16 * bulkAs (l.map GL.enc) := by
  unfold bodyOf
  split
  · have h := litOf_le lit0
    have h2 : lit0.size = 4 := by rw [gl_size]; rfl
    have h3 : bulkAs ([litOf lit0].map GL.enc) = (litOf lit0).size := by simp only [List.map_cons, List.map_nil, bulkAs, GL.size]; omega
    rw [h3]; omega
  · have := bulk_map litOf GL.enc 16 litOf_le l 8
    omega
theorem sizes_set (l : List GT) (n : Nat) (v : GT) : GT.sizes (l.set n v) ≤ GT.sizes l + v.size := by
  induction l generalizing n with
  | nil => simp [GT.sizes]
  | cons x l ih =>
    cases n with
    | zero => simp only [List.set_cons_zero, GT.sizes]; omega
    | succ n => have := ih n; simp only [List.set_cons_succ, GT.sizes]; omega
theorem ruleOf_le (r : GR) : (ruleOf r).size ≤ 40 * r.size := by
  have h0 := gr_size r
  have h1 := argsOf_le r.args
  have h2 := relOf_le r.label
  have h3 := relOf_le r.head
  have h4 := bodyOf_le r.body
  have h5 := varOf_le r.agg
  have h6 : (aggOf (pickN r.pos 3)).size ≤ 5 := by unfold aggOf; (repeat' split) <;> decide
  have h7 := sizes_set (argsOf r.args) (posOf r) (.mk 1 (varOf r.agg) nilV [])
  have h8 : (GT.mk 1 (varOf r.agg) nilV []).size ≤ 24 := by simp only [GT.size, GT.sizes, nilV, GV.size, GV.sizes]; show _ + (0 + 0 + 5) + 0 + 3 ≤ _; omega
  rw [gr_size]
  unfold ruleOf
  split
  · simp only; omega
  · simp only; show _ + _ + _ + 0 + _ + 7 ≤ _; omega
theorem tupOf_le (t : GU) : (tupOf t).size ≤ 40 * t.size := by
  have h1 := relOf_le t.name
  have h2 := sizesV_map fit fit_le t.args 7
  have h3 := gu_size t
  rw [gu_size]
  simp only [tupOf, GV.sizes, GV.size]
  show _ + (1 + 0 + 5 + _) + 3 ≤ _; omega
theorem declOf_le (d : GD) : (declOf d).size ≤ 40 * d.size := by
  have h1 := relOf_le d.name
  have h3 := gd_size d
  rw [gd_size]; simp only [declOf]; omega
theorem gp_size (p : GP) : p.size = bulkAs (p.decls.map GD.enc) + bulkAs (p.facts.map GU.enc) + bulkAs (p.rules.map GR.enc) + 4 := by simp only [GP.size, GP.enc, bulkA, bulkAs]; omega
theorem progOf_le (p : GP) : (progOf p).size ≤ 40 * p.size := by
  have h1 := bulk_map declOf GD.enc 40 declOf_le p.decls 64
  have h2 := bulk_map tupOf GU.enc 40 tupOf_le p.facts 64
  have h3 := bulk_map ruleOf GR.enc 40 ruleOf_le p.rules 64
  have h4 := gp_size p
  rw [gp_size]; simp only [progOf]; omega
end Go.Proofs.YtpkfkipbemdhmaaGreatDoor
end
