import Derived.Test.YtjfgjnlocadpbaaGreatDoorC6
import Derived.Test.YtjfgjnlocadpbaaGreatDoorC4
set_option linter.unusedVariables false
set_option linter.unusedSimpArgs false
set_option linter.unnecessarySimpa false
section
namespace Go.Proofs.YtjfgjnlocadpbaaGreatDoor
open Go.Mach
theorem idxS_ok (l : List ByteArray) (s : ByteArray) (hl : l.length ≤ 100000000000) :
    pureT T c85 [.isl (l.map .str) false, .str s] = some (.int .i64 (idxG (fun x => decide (s = x)) l)) := by
  apply pure_enter (by simp [c85])
  simp [c85]
  refine W_for T 0 19 l.length (fun i f σ => f 0 = .isl (l.map .str) false ∧ f 1 = .str s ∧ f 7 = .int .i64 (l.length : Int) ∧ f 8 = .int .i64 (i : Int) ∧ ∀ j, (hj : j < l.length) → j < i → decide (s = l[j]) = false) ?_ _ _ ?_
  · rintro i f σ hi ⟨h0, h1, h7, h8, hall⟩
    by_cases hlt : i < l.length
    · have e1 : l[i]? = some l[i] := List.getElem?_eq_getElem hlt
      by_cases hp : s = l[i]
      · simp [h0, h1, h7, h8, hlt, ← hp]
        simp [idxG, idxG_drop (fun x => decide (s = x)) l i hlt hall (by simp [← hp])]
      · simp [h0, h1, h7, h8, hlt, hp]
        refine ⟨wr64 (by omega) (by omega), fun j hj hji => ?_⟩
        by_cases e : j = i
        · subst e; exact hp
        · simpa using hall j hj (by omega)
    · have he : i = l.length := by omega
      subst he
      have hn : l.findIdx? (fun x => decide (s = x)) = none := by
        rw [List.findIdx?_eq_none_iff]
        intro x hx
        obtain ⟨j, hj, rfl⟩ := List.getElem_of_mem hx
        exact hall j hj hj
      simp [h0, h1, h7, h8, idxG, hn]
  · simp
theorem conS_ok (l : List ByteArray) (s : ByteArray) (hl : l.length ≤ 100000000000) :
    pureT T c48 [.isl (l.map .str) false, .str s] = some (.bool (l.any (fun x => decide (s = x)))) := by
  have h1 : ∀ bs σ, callT T 85 [.isl (l.map .str) false, .str s] bs σ = some (.int .i64 (idxG (fun x => decide (s = x)) l), σ) := fun bs σ => call_clean rfl rfl rfl (by simp) (idxS_ok l s hl)
  have h2 := idxG_any (fun x => decide (s = x)) l
  apply pure_enter (by simp [c48])
  simp [c48, h1]
  refine ⟨fun h => by simpa using h2.1 h, fun h x hx e => ?_⟩
  have := h2.2 (by simp; exact e ▸ hx)
  omega
def six : List ByteArray := [⟨#[61, 61]⟩, ⟨#[33, 61]⟩, ⟨#[60]⟩, ⟨#[60, 61]⟩, ⟨#[62]⟩, ⟨#[62, 61]⟩]
theorem six_any (s : ByteArray) : six.any (fun x => decide (s = x)) = tOK s := by
  rw [Bool.eq_iff_iff]; simp [six, tOK]
theorem conSix (s : ByteArray) (o : AObj) (bs : Nat) : callT T 48 [.sl 1 0 6 1 false, .str s] bs [o, .cells [.str ⟨#[61, 61]⟩, .str ⟨#[33, 61]⟩, .str ⟨#[60]⟩, .str ⟨#[60, 61]⟩, .str ⟨#[62]⟩, .str ⟨#[62, 61]⟩] 0 false] =
    some (.bool (sym (tOK s)), [o, .cells [.str ⟨#[61, 61]⟩, .str ⟨#[33, 61]⟩, .str ⟨#[60]⟩, .str ⟨#[60, 61]⟩, .str ⟨#[62]⟩, .str ⟨#[62, 61]⟩] 0 false]) := by
  have h := conS_ok six s (by decide)
  rw [six_any] at h
  exact call_scal rfl rfl rfl h rfl (by simp) rfl
theorem fine_ok (t : GT) (hs : t.size ≤ 100000000000) : pureT T c109 [t.enc] = some (.bool (termR 8 t)) := by
  have h : ∀ bs σ, callT T 133 [t.enc, .int .i64 8] bs σ = some (.bool (sym (termR 8 t)), σ) := fun bs σ => call_clean rfl rfl rfl (by simp) (pterm_ok 8 t (by omega) hs)
  apply pure_enter (by simp [c109])
  simp [c109, h, ← GT.enc_eq]
theorem callFine (t : GT) (hs : t.size ≤ 100000000000) (bs : Nat) (σ : Heap) : callT T 109 [t.enc] bs σ = some (.bool (sym (termR 8 t)), σ) := call_clean rfl rfl rfl (by simp) (fine_ok t hs)
theorem allFine (l : List GT) (hs : GT.sizes l ≤ 10000000000) (bs : Nat) (σ : Heap) : callT T 108 [.isl (GT.encs l) false, .func 109 []] bs σ = some (.bool (sym (l.all (termR 8))), σ) :=
  allTerm (termR 8) l 109 [] (by have := GT.len_sizes l; omega) σ (fun x hx τ bs => callFine x (by have := (GT.sizes_mem hx).1; omega) bs _) bs
theorem pargs_ok (l : List GT) (hs : GT.sizes l ≤ 10000000000) : pureT T c76 [.isl (GT.encs l) false] = some (.bool (argsB l)) := by
  have hall := allFine l hs
  have hlen := GT.len_sizes l
  apply pure_enter (by simp [c76])
  unfold argsB headOK
  generalize l.all (termR 8) = b at *
  match l with
  | [] => simp [c76]
  | x :: l =>
    simp only [List.length_cons] at *
    by_cases h8 : l.length + 1 ≤ 8
    · have h8' : ¬ (8 < (l.length : Int) + 1) := by omega
      have h1' : ¬ ((l.length : Int) + 1 < 1) := by omega
      cases b
      · simp [c76, hall, h8, h8', h1']
      · simp [c76, hall, h8, h8', h1']
        repeat' (first | apply And.intro | intro _)
        all_goals first | (simp_all; done) | grind
    · have h8' : 8 < (l.length : Int) + 1 := by omega
      have h1' : ¬ ((l.length : Int) + 1 < 1) := by omega
      simp [c76, hall, h8, h8', h1']
theorem callArgs (l : List GT) (hs : GT.sizes l ≤ 10000000000) (bs : Nat) (σ : Heap) : callT T 76 [.isl (GT.encs l) false] bs σ = some (.bool (sym (argsB l)), σ) := call_clean rfl rfl rfl (by simp) (pargs_ok l hs)
theorem plit_ok (x : GL) (hs : x.size ≤ 10000000000) : pureT T c78 [x.enc] = some (.bool (litB x)) := by
  have h1 := x.name_le
  have h2 := x.args_le
  obtain ⟨k, n, l⟩ := x
  simp only at h1 h2
  have hrel := callRel n (by omega)
  have hvar := callVar n (by omega)
  have hargs := callArgs l (by omega)
  have hall := allFine l (by omega)
  have hcon := conSix n
  apply pure_enter (by simp [c78])
  unfold litB
  by_cases k1 : k = 1
  · subst k1
    simp [c78, GL.enc_eq, hrel, hargs]
    cases relOK n <;> simp
  by_cases k2 : k = 2
  · subst k2
    simp [c78, GL.enc_eq, hrel, hargs]
    cases relOK n <;> simp
  by_cases k3 : k = 3
  · subst k3
    generalize l.all (termR 8) = b at *
    simp [c78, GL.enc_eq, hcon, hall]
    repeat' (first | apply And.intro | intro _)
    all_goals first | (simp_all; done) | omega | grind
  by_cases k4 : k = 4
  · subst k4
    generalize l.all (termR 8) = b at *
    simp [c78, GL.enc_eq, hvar, hall]
    repeat' (first | apply And.intro | intro _)
    all_goals first | (simp_all; done) | omega | grind
  simp [c78, GL.enc_eq, k1, k2, k3, k4]
theorem callPLit (x : GL) (hs : x.size ≤ 10000000000) (bs : Nat) (σ : Heap) : callT T 78 [x.enc] bs σ = some (.bool (sym (litB x)), σ) := call_clean rfl rfl rfl (by simp) (plit_ok x hs)
end Go.Proofs.YtjfgjnlocadpbaaGreatDoor
end
section
namespace Go.Proofs.YtjfgjnlocadpbaaGreatDoor
open Go.Mach
theorem prule_ok (x : GR) (hs : x.size ≤ 10000000000) : pureT T c46 [x.enc] = some (.bool (ruleB x)) := by
  have h1 := x.label_le
  have h2 := x.head_le
  have h3 := x.args_le
  have h4 := x.agg_le
  have h5 := x.body_len
  have h6 := fun y hy => x.body_mem (y := y) hy
  obtain ⟨lab, hd, l, agg, at', body⟩ := x
  simp only at h1 h2 h3 h4 h5 h6
  have hlen := GT.len_sizes l
  have hr1 := callRel lab (by omega)
  have hr2 := callRel hd (by omega)
  have hargs := callArgs l (by omega)
  have hall : ∀ bs σ, callT T 77 [.isl (body.map GL.enc) false, .func 78 []] bs σ = some (.bool (sym (body.all litB)), σ) := fun bs σ =>
    allLiteral litB body 78 [] (by omega) σ (fun y hy τ bs => callPLit y (by have := h6 y hy; omega) bs _) bs
  apply pure_enter (by simp [c46])
  unfold ruleB
  simp only
  generalize body.all litB = b at *
  generalize relOK lab = b1 at *
  generalize relOK hd = b2 at *
  generalize argsB l = b3 at *
  cases b1
  · simp [c46, GR.enc_eq, hr1]
  cases b2
  · simp [c46, GR.enc_eq, hr1, hr2]
  cases b3
  · simp [c46, GR.enc_eq, hr1, hr2, hargs]
  by_cases c1 : body.length < 1
  · have c1' : (body.length : Int) < 1 := by omega
    simp [c46, GR.enc_eq, hr1, hr2, hargs, c1']
    omega
  by_cases c2 : 8 < body.length
  · have c1' : ¬ (body.length : Int) < 1 := by omega
    have c2' : 8 < (body.length : Int) := by omega
    simp [c46, GR.enc_eq, hr1, hr2, hargs, c1', c2']
    omega
  have c1' : ¬ (body.length : Int) < 1 := by omega
  have c2' : ¬ 8 < (body.length : Int) := by omega
  cases b
  · simp [c46, GR.enc_eq, hr1, hr2, hargs, c1', c2', hall]
  have c3 : 1 ≤ body.length ∧ body.length ≤ 8 := by omega
  unfold aggB
  simp only [c3, and_self, decide_true, Bool.and_true, Bool.true_and]
  by_cases g0 : agg = ⟨#[]⟩
  · subst g0
    simp [c46, GR.enc_eq, hr1, hr2, hargs, c1', c2', hall]
    done
  rw [if_neg g0]
  by_cases g1 : agg = sMin ∨ agg = sMax ∨ agg = sCount
  · have hat : ∀ h : 1 ≤ at' ∧ at' < l.length, at'.toNat < l.length := fun h => by omega
    by_cases g2 : 1 ≤ at' ∧ at' < (l.length : Int)
    · obtain ⟨t, ht⟩ : ∃ t, l[at'.toNat]? = some t := ⟨_, List.getElem?_eq_getElem (hat g2)⟩
      have g3 : 0 ≤ at' := by omega
      rcases g1 with rfl | rfl | rfl
      all_goals
        simp [c46, GR.enc_eq, hr1, hr2, hargs, c1', c2', hall, g2, g3, ht]
    · rcases g1 with rfl | rfl | rfl
      all_goals
        simp [c46, GR.enc_eq, hr1, hr2, hargs, c1', c2', hall, g2]
        try grind
  · have g1' := not_or.1 g1
    have g2' := not_or.1 g1'.2
    simp [c46, GR.enc_eq, hr1, hr2, hargs, c1', c2', hall, g0, g1'.1, g2'.1, g2'.2]
theorem callPRule (x : GR) (hs : x.size ≤ 10000000000) (bs : Nat) (σ : Heap) : callT T 46 [x.enc] bs σ = some (.bool (sym (ruleB x)), σ) := call_clean rfl rfl rfl (by simp) (prule_ok x hs)
end Go.Proofs.YtjfgjnlocadpbaaGreatDoor
end
section
namespace Go.Proofs.YtjfgjnlocadpbaaGreatDoor
open Go.Mach
def joinF {α : Type} (f : Nat → α → List UInt8) (sep : List UInt8) : Nat → List α → List UInt8
  | _, [] => []
  | i, x :: l => (if i = 0 then [] else sep) ++ (f i x ++ joinF f sep (i + 1) l)
theorem joinF_snoc {α : Type} (f : Nat → α → List UInt8) (sep : List UInt8) : ∀ (i : Nat) (l : List α) (x : α), joinF f sep i (l ++ [x]) = joinF f sep i l ++ ((if i + l.length = 0 then [] else sep) ++ f (i + l.length) x)
  | i, [], x => by simp [joinF]
  | i, y :: l, x => by
    have e : i + 1 + l.length = i + (l.length + 1) := by omega
    simp only [List.cons_append, joinF, joinF_snoc f sep (i + 1) l x, List.append_assoc, List.length_cons, e]
    try simp
theorem joinF_take {α : Type} (f : Nat → α → List UInt8) (sep : List UInt8) (l : List α) (i : Nat) (h : i < l.length) : joinF f sep 0 (l.take (i + 1)) = joinF f sep 0 (l.take i) ++ ((if i = 0 then [] else sep) ++ f i l[i]) := by
  have e : l.take (i + 1) = l.take i ++ [l[i]] := by rw [List.take_add_one, List.getElem?_eq_getElem h]; rfl
  have e2 : 0 + (l.take i).length = i := by simp; omega
  rw [e, joinF_snoc, e2]
theorem joinF_app {α : Type} (f : Nat → α → List UInt8) (sep : List UInt8) : ∀ (i : Nat) (l m : List α), joinF f sep i (l ++ m) = joinF f sep i l ++ joinF f sep (i + l.length) m
  | i, [], m => by simp [joinF]
  | i, x :: l, m => by
    have e : i + 1 + l.length = i + (l.length + 1) := by omega
    simp only [List.cons_append, joinF, joinF_app f sep (i + 1) l m, List.append_assoc, List.length_cons, e]
theorem joinF_le {α : Type} (f : Nat → α → List UInt8) (sep : List UInt8) (l : List α) (i : Nat) : (joinF f sep 0 (l.take i)).length ≤ (joinF f sep 0 l).length := by
  have := joinF_app f sep 0 (l.take i) (l.drop i)
  rw [List.take_append_drop] at this
  rw [this, List.length_append]; omega
theorem bld_app {σ τ : Heap} {id : Nat} {o : AObj} (h : id < σ.length) : (σ.set id o ++ τ)[id]? = some o := by
  rw [List.getElem?_append_left (by simpa using h)]; simp [h]
theorem set_app {σ τ : Heap} {id : Nat} {o o' : AObj} (h : id < σ.length) : (σ.set id o ++ τ).set id o' = σ.set id o' ++ τ := by
  rw [List.set_append_left _ _ (by simpa using h), List.set_set]
theorem take_app2 {σ τ ρ : Heap} {id : Nat} {o : AObj} : (σ.set id o ++ (τ ++ ρ)).take (σ.length + τ.length) = σ.set id o ++ τ := by
  rw [← List.append_assoc, List.take_append_of_le_length (by simp), List.take_of_length_le (by simp)]
theorem ws_at {σ τ : Heap} {id t : Nat} {l : List UInt8} {s : ByteArray} (bs : Nat) (h : id < σ.length) (ht : t ∈ bldTs) (hl : l.length + s.size ≤ 70368744177664) :
    callT T 79 [.ptr id 0, .str s] bs (σ.set id (.bld t 5 l) ++ τ) = some (.undef, σ.set id (.bld t 5 (l ++ s.data.toList)) ++ τ) := by
  rw [callWS bs (bld_app h) ht hl, set_app h]
theorem wb_at {σ τ : Heap} {id t : Nat} {l : List UInt8} {n : Int} (bs : Nat) (h : id < σ.length) (ht : t ∈ bldTs) (hl : l.length + 1 ≤ 70368744177664) (h0 : 0 ≤ n) (h1 : n < 256) :
    callT T 84 [.ptr id 0, .int .u8 n] bs (σ.set id (.bld t 5 l) ++ τ) = some (.undef, σ.set id (.bld t 5 (l ++ [UInt8.ofNat n.toNat])) ++ τ) := by
  rw [callWB bs (bld_app h) ht hl h0 h1, set_app h]
theorem listTerm (w : Nat → GT → List UInt8) (s : ByteArray) (l : List GT) (g : Nat) (caps : List AV) (σ : Heap) (id t : Nat) (c0 : List UInt8) (τ : Heap) (hid : id < σ.length) (ht : t ∈ bldTs) (hl : l.length ≤ 100000000000) (hL : c0.length + (joinF w s.data.toList 0 l).length ≤ 70368744177664)
    (hc : ∀ (i : Nat) (hi : i < l.length) (cur : List UInt8) ρ bs, cur.length + (w i l[i]).length ≤ 70368744177664 → callT T g (.int .i64 (i : Int) :: l[i].enc :: caps) bs (σ.set id (.bld t 5 cur) ++ (τ ++ ρ)) = some (.tup [], σ.set id (.bld t 5 (cur ++ w i l[i])) ++ (τ ++ ρ))) (bs : Nat) :
    callT T 113 [.ptr id 0, .isl (GT.encs l) false, .str s, .func g caps] bs (σ.set id (.bld t 5 c0) ++ τ) = some (.tup [], σ.set id (.bld t 5 (c0 ++ joinF w s.data.toList 0 l)) ++ τ) := by
  have hsl : (σ.set id (.bld t 5 c0) ++ τ).length = σ.length + τ.length := by simp
  refine heap_enter (af := c113) (args' := [.ptr id 0, .isl (GT.encs l) false, .str s, .func g caps]) (σ1 := σ.set id (.bld t 5 c0) ++ τ) rfl rfl (by simp [c113]) (by simp [c113]) rfl ?_
  simp [c113, baseA]
  refine W_for T _ 29 l.length (fun i f ρ => f 0 = .ptr id 0 ∧ f 2 = .str s ∧ f 3 = .func g caps ∧ f 10 = .isl (GT.encs l) false ∧ f 11 = .int .i64 (l.length : Int) ∧ f 12 = .int .i64 (i : Int) ∧ ∃ rest, ρ = σ.set id (.bld t 5 (c0 ++ joinF w s.data.toList 0 (l.take i))) ++ (τ ++ rest)) ?_ _ _ ?_
  · rintro i f ρ hi ⟨g0, g2, g3, g10, g11, g12, rest, rfl⟩
    by_cases hlt : i < l.length
    · have e1 : l[i]? = some l[i] := List.getElem?_eq_getElem hlt
      have hw : IntKind.i64.wrap ((i : Int) + 1) = (i : Int) + 1 := wr64 (by omega) (by omega)
      have hj := joinF_take w s.data.toList l i hlt
      have hle := joinF_le w s.data.toList l (i + 1)
      rw [hj] at hle ⊢
      generalize joinF w s.data.toList 0 (l.take i) = cur at *
      have hss : s.data.toList.length = s.size := by simp
      by_cases h0 : i = 0
      · have h0' : ¬ (0 < i) := by omega
        simp only [h0, if_true, List.nil_append, List.length_append] at hle
        have hcl := fun r bs => hc i hlt (c0 ++ cur) (rest ++ r) bs (by simp only [List.length_append]; subst h0; omega)
        simp [g0, g2, g3, g10, g11, g12, hlt, hcl, hw, h0', ← GT.enc_eq]
        exact ⟨_, by rw [if_pos h0]; rfl⟩
      · have h0' : 0 < i := by omega
        simp only [h0, if_false, List.length_append] at hle
        have hws := fun r bs => ws_at (σ := σ) (τ := τ ++ (rest ++ r)) (s := s) (l := c0 ++ cur) bs hid ht (by simp only [List.length_append]; omega)
        have hcl := fun r bs => hc i hlt (c0 ++ cur ++ s.data.toList) (rest ++ r) bs (by simp only [List.length_append]; omega)
        simp only [List.append_assoc] at hws hcl
        simp [g0, g2, g3, g10, g11, g12, hlt, hws, hcl, hw, h0', ← GT.enc_eq]
        exact ⟨_, by rw [if_neg h0]⟩
    · have he : i = l.length := by omega
      subst he
      simp [g0, g2, g3, g10, g11, g12, dropA_gc, refLt, res1]
      exact take_app2
  · simp [joinF]
theorem listLiteral (w : Nat → GL → List UInt8) (s : ByteArray) (l : List GL) (g : Nat) (caps : List AV) (σ : Heap) (id t : Nat) (c0 : List UInt8) (τ : Heap) (hid : id < σ.length) (ht : t ∈ bldTs) (hl : l.length ≤ 100000000000) (hL : c0.length + (joinF w s.data.toList 0 l).length ≤ 70368744177664)
    (hc : ∀ (i : Nat) (hi : i < l.length) (cur : List UInt8) ρ bs, cur.length + (w i l[i]).length ≤ 70368744177664 → callT T g (.int .i64 (i : Int) :: l[i].enc :: caps) bs (σ.set id (.bld t 5 cur) ++ (τ ++ ρ)) = some (.tup [], σ.set id (.bld t 5 (cur ++ w i l[i])) ++ (τ ++ ρ))) (bs : Nat) :
    callT T 81 [.ptr id 0, .isl (l.map GL.enc) false, .str s, .func g caps] bs (σ.set id (.bld t 5 c0) ++ τ) = some (.tup [], σ.set id (.bld t 5 (c0 ++ joinF w s.data.toList 0 l)) ++ τ) := by
  have hsl : (σ.set id (.bld t 5 c0) ++ τ).length = σ.length + τ.length := by simp
  refine heap_enter (af := c81) (args' := [.ptr id 0, .isl (l.map GL.enc) false, .str s, .func g caps]) (σ1 := σ.set id (.bld t 5 c0) ++ τ) rfl rfl (by simp [c81]) (by simp [c81]) rfl ?_
  simp [c81, baseA]
  refine W_for T _ 29 l.length (fun i f ρ => f 0 = .ptr id 0 ∧ f 2 = .str s ∧ f 3 = .func g caps ∧ f 10 = .isl (l.map GL.enc) false ∧ f 11 = .int .i64 (l.length : Int) ∧ f 12 = .int .i64 (i : Int) ∧ ∃ rest, ρ = σ.set id (.bld t 5 (c0 ++ joinF w s.data.toList 0 (l.take i))) ++ (τ ++ rest)) ?_ _ _ ?_
  · rintro i f ρ hi ⟨g0, g2, g3, g10, g11, g12, rest, rfl⟩
    by_cases hlt : i < l.length
    · have e1 : l[i]? = some l[i] := List.getElem?_eq_getElem hlt
      have hw : IntKind.i64.wrap ((i : Int) + 1) = (i : Int) + 1 := wr64 (by omega) (by omega)
      have hj := joinF_take w s.data.toList l i hlt
      have hle := joinF_le w s.data.toList l (i + 1)
      rw [hj] at hle ⊢
      generalize joinF w s.data.toList 0 (l.take i) = cur at *
      have hss : s.data.toList.length = s.size := by simp
      by_cases h0 : i = 0
      · have h0' : ¬ (0 < i) := by omega
        simp only [h0, if_true, List.nil_append, List.length_append] at hle
        have hcl := fun r bs => hc i hlt (c0 ++ cur) (rest ++ r) bs (by simp only [List.length_append]; subst h0; omega)
        simp [g0, g2, g3, g10, g11, g12, hlt, hcl, hw, h0', ← GL.enc_eq]
        exact ⟨_, by rw [if_pos h0]; rfl⟩
      · have h0' : 0 < i := by omega
        simp only [h0, if_false, List.length_append] at hle
        have hws := fun r bs => ws_at (σ := σ) (τ := τ ++ (rest ++ r)) (s := s) (l := c0 ++ cur) bs hid ht (by simp only [List.length_append]; omega)
        have hcl := fun r bs => hc i hlt (c0 ++ cur ++ s.data.toList) (rest ++ r) bs (by simp only [List.length_append]; omega)
        simp only [List.append_assoc] at hws hcl
        simp [g0, g2, g3, g10, g11, g12, hlt, hws, hcl, hw, h0', ← GL.enc_eq]
        exact ⟨_, by rw [if_neg h0]⟩
    · have he : i = l.length := by omega
      subst he
      simp [g0, g2, g3, g10, g11, g12, dropA_gc, refLt, res1]
      exact take_app2
  · simp [joinF]
end Go.Proofs.YtjfgjnlocadpbaaGreatDoor
end
section
namespace Go.Proofs.YtjfgjnlocadpbaaGreatDoor
open Go.Mach
theorem tc_join (sep : List UInt8) : ∀ (i : Nat) (l : List GT), joinF (fun _ => shT) sep (i + 1) l = shTc sep l
  | _, [] => rfl
  | i, x :: l => by simp only [joinF, shTc, tc_join sep (i + 1) l]; simp
theorem ts_join (sep : List UInt8) (l : List GT) : joinF (fun _ => shT) sep 0 l = shTs sep l := by
  cases l with
  | nil => rfl
  | cons x l => simp only [joinF, shTs, tc_join]; simp
theorem term_value {d : Nat} {k : Int} {n : ByteArray} {v : GV} {l : List GT} (h : termR d (.mk k n v l) = true) (hk : k = 2) : rightT v = true := by
  obtain ⟨_, ⟨n', e, hn⟩ | ⟨v', e, hv, _⟩ | ⟨n', l', e, hn, _⟩ | ⟨n', l', e, _⟩⟩ := term_cases h <;> injection e with e1 e2 e3 e4 <;> subst e1
  · omega
  · rw [e3]; exact hv
  · omega
  · omega
theorem term_args {d : Nat} {k : Int} {n : ByteArray} {v : GV} {l : List GT} (h : termR d (.mk k n v l) = true) : ∀ x ∈ l, ∃ e, termR e x = true := by
  intro x hx
  obtain ⟨_, ⟨n', e, hn⟩ | ⟨v', e, hv, _⟩ | ⟨n', l', e, hn, hl⟩ | ⟨n', l', e, _, _, hl⟩⟩ := term_cases h <;> injection e with e1 e2 e3 e4 <;> subst e4
  · cases hx
  · cases hx
  · exact ⟨_, hl x hx⟩
  · exact ⟨_, hl x hx⟩
theorem take_eq {L A : Heap} (B : Heap) {n : Nat} (h1 : L = A ++ B) (h2 : n = A.length) : L.take n = A := by rw [h1, h2]; simp
theorem printV_list {v : GV} (h : rightT v = true) : (printV v).data.toList = pr v := by simp [printV, h, S]
theorem printV_size {v : GV} (h : rightT v = true) : (printV v).size = (pr v).length := by simp only [printV, h, if_true]; rfl
theorem wterm_ok : ∀ (m : Nat) (t : GT), t.size ≤ m → m ≤ 10000000000 → (∃ d, termR d t = true) → ∀ (σ : Heap) (id tt : Nat) (c0 : List UInt8) (τ : Heap) (bs : Nat), id < σ.length → tt ∈ bldTs → c0.length + (shT t).length ≤ 70368744177664 →
    callT T 115 [.ptr id 0, t.enc] bs (σ.set id (.bld tt 5 c0) ++ τ) = some (.tup [], σ.set id (.bld tt 5 (c0 ++ shT t)) ++ τ) := by
  intro m
  induction m with
  | zero => intro t h; obtain ⟨k, n, ⟨vk, vn, vt, vl⟩, l⟩ := t; simp [GT.size] at h
  | succ m ih =>
    intro t hs hm hd σ id tt c0 τ bs hid ht hlen
    obtain ⟨d, hd⟩ := hd
    obtain ⟨k, n, v, l⟩ := t
    simp only [GT.size] at hs
    have hsl : ∀ o : AObj, (σ.set id o ++ τ).length = σ.length + τ.length := fun o => by simp
    have hns : n.data.toList.length = n.size := by simp
    refine heap_enter (af := c115) (args' := [.ptr id 0, (GT.mk k n v l).enc]) (σ1 := σ.set id (.bld tt 5 c0) ++ τ) rfl rfl (by simp [c115]) (by simp [c115]) rfl ?_
    by_cases h1 : k = 1
    · subst h1
      have hp : shT (.mk 1 n v l) = n.data.toList := by simp [shT]
      rw [hp] at hlen ⊢
      have hws := fun r bs => ws_at (σ := σ) (τ := τ ++ r) (s := n) (l := c0) bs hid ht (by omega)
      simp [c115, baseA, GT.enc_eq, GT.kind, GT.name, GT.value, GT.args, hws, dropA_gc, refLt, res1]
      exact take_app2
    by_cases h2 : k = 2
    · subst h2
      have hv := term_value hd rfl
      have hp : shT (.mk 2 n v l) = pr v := by simp [shT]
      rw [hp] at hlen ⊢
      have hpv := valPrint v (right_okV _ _ hv) (by have := rightT_size hv; omega)
      have hws := fun r bs => ws_at (σ := σ) (τ := τ ++ r) (s := printV v) (l := c0) bs hid ht (by rw [printV_size hv]; exact hlen)
      rw [printV_list hv] at hws
      simp [c115, baseA, GT.enc_eq, GT.kind, GT.name, GT.value, GT.args, hws, hpv, dropA_gc, refLt, res1]
      exact take_app2
    have hlist : ∀ (sep : ByteArray) (cur : List UInt8) (o : AObj) (bs : Nat), cur.length + (shTs sep.data.toList l).length ≤ 70368744177664 →
        callT T 113 [.ptr id 0, .isl (GT.encs l) false, .str sep, .func 136 [.ptr (σ.length + τ.length) 0]] bs (σ.set id (.bld tt 5 cur) ++ (τ ++ [.cells [.ptr id 0] 0 false, o])) =
          some (.tup [], σ.set id (.bld tt 5 (cur ++ shTs sep.data.toList l)) ++ (τ ++ [.cells [.ptr id 0] 0 false, o])) := fun sep cur o bs hb => by
      rw [← ts_join] at hb ⊢
      refine listTerm (fun _ => shT) sep l 136 [.ptr (σ.length + τ.length) 0] σ id tt cur (τ ++ [.cells [.ptr id 0] 0 false, o]) hid ht (by have := GT.len_sizes l; omega) hb (fun i hi cur ρ bs hb2 => ?_) bs
      have hx := List.getElem_mem hi
      have hw := fun r bs => ih l[i] (by have := (GT.sizes_mem hx).1; omega) (by omega) (term_args hd _ hx) σ id tt cur (τ ++ r) bs hid ht hb2
      have hk : ∀ r : Heap, (σ.set id (.bld tt 5 cur) ++ (τ ++ .cells [.ptr id 0] 0 false :: r))[σ.length + τ.length]? = some (.cells [.ptr id 0] 0 false) := fun r => by
        rw [← List.append_assoc, List.getElem?_append_right (by simp)]; simp
      refine heap_enter (af := c136) (args' := [.int .i64 (i : Int), l[i].enc, .ptr (σ.length + τ.length) 0]) rfl rfl (by simp [c136]) (by simp [c136]) rfl ?_
      simp [c136, baseA, hk, hw, ← GT.enc_eq, dropA_gc, refLt, res1]
      exact take_eq [_] (by simp; rfl) (by simp)
    by_cases h3 : k = 3
    · subst h3
      have hp : shT (.mk 3 n v l) = n.data.toList ++ 40 :: (shTs [44] l ++ [41]) := by simp [shT]
      rw [hp] at hlen ⊢
      simp only [List.length_append, List.length_cons, List.length_nil, hns] at hlen
      have hws := fun r bs => ws_at (σ := σ) (τ := τ ++ r) (s := n) (l := c0) bs hid ht (by omega)
      have hwb := fun r bs => wb_at (σ := σ) (τ := τ ++ r) (n := 40) (l := c0 ++ n.data.toList) bs hid ht (by simp only [List.length_append, hns]; omega) (by decide) (by decide)
      have hli := fun o bs => hlist ⟨#[44]⟩ (c0 ++ n.data.toList ++ [40]) o bs (by simp only [List.length_append, List.length_cons, List.length_nil, hns]; show _ + (shTs [44] l).length ≤ _; omega)
      have hwe := fun r bs => wb_at (σ := σ) (τ := τ ++ r) (n := 41) (l := c0 ++ n.data.toList ++ [40] ++ shTs [44] l) bs hid ht (by simp only [List.length_append, List.length_cons, List.length_nil, hns]; omega) (by decide) (by decide)
      simp [-List.append_assoc] at hws hwb hli hwe
      simp only [List.append_assoc, List.cons_append, List.nil_append] at hws hwb hli hwe
      simp [c115, baseA, GT.enc_eq, GT.kind, GT.name, GT.value, GT.args, hws, hwb, hli, hwe, dropA_gc, refLt, res1]
      exact take_app2
    have hp : shT (.mk k n v l) = 40 :: (shTs n.data.toList l ++ [41]) := by simp [shT, h1, h2, h3]
    rw [hp] at hlen ⊢
    simp only [List.length_append, List.length_cons, List.length_nil] at hlen
    have hwb := fun r bs => wb_at (σ := σ) (τ := τ ++ r) (n := 40) (l := c0) bs hid ht (by omega) (by decide) (by decide)
    have hli := fun o bs => hlist n (c0 ++ [40]) o bs (by simp only [List.length_append, List.length_cons, List.length_nil]; omega)
    have hwe := fun r bs => wb_at (σ := σ) (τ := τ ++ r) (n := 41) (l := c0 ++ [40] ++ shTs n.data.toList l) bs hid ht (by simp only [List.length_append, List.length_cons, List.length_nil]; omega) (by decide) (by decide)
    simp [-List.append_assoc] at hwb hli hwe
    simp only [List.append_assoc, List.cons_append, List.nil_append] at hwb hli hwe
    simp [c115, baseA, GT.enc_eq, GT.kind, GT.name, GT.value, GT.args, hwb, hli, hwe, dropA_gc, refLt, res1, h1, h2, h3]
    exact take_app2
theorem callWTerm (t : GT) (hs : t.size ≤ 10000000000) (hd : ∃ d, termR d t = true) (σ : Heap) (id tt : Nat) (c0 : List UInt8) (τ : Heap) (bs : Nat) (hid : id < σ.length) (ht : tt ∈ bldTs) (hl : c0.length + (shT t).length ≤ 70368744177664) :
    callT T 115 [.ptr id 0, t.enc] bs (σ.set id (.bld tt 5 c0) ++ τ) = some (.tup [], σ.set id (.bld tt 5 (c0 ++ shT t)) ++ τ) := wterm_ok t.size t (Nat.le_refl _) hs hd σ id tt c0 τ bs hid ht hl
end Go.Proofs.YtjfgjnlocadpbaaGreatDoor
end
section
namespace Go.Proofs.YtjfgjnlocadpbaaGreatDoor
open Go.Mach
theorem at_join (agg : List UInt8) (p : Int) : ∀ (i : Nat) (l : List GT), joinF (shAt agg p) [44] (i + 1) l = shAtC agg p (i + 1) l
  | _, [] => rfl
  | i, x :: l => by simp only [joinF, shAtC, at_join agg p (i + 1) l]; simp
theorem ats_join (agg : List UInt8) (p : Int) (l : List GT) : joinF (shAt agg p) [44] 0 l = shAtS agg p 0 l := by
  cases l with
  | nil => rfl
  | cons x l => simp only [joinF, shAtS, at_join]; simp
theorem watom (name agg : ByteArray) (at' : Int) (l : List GT) (hn : name.size ≤ 10000000000) (hg : agg.size ≤ 10000000000) (hs : GT.sizes l ≤ 10000000000) (hd : ∀ x ∈ l, ∃ d, termR d x = true) (σ : Heap) (id tt : Nat) (c0 : List UInt8) (τ : Heap) (bs : Nat) (hid : id < σ.length) (ht : tt ∈ bldTs)
    (hl : c0.length + (shAtom name.data.toList l agg.data.toList at').length ≤ 70368744177664) :
    callT T 80 [.ptr id 0, .str name, .isl (GT.encs l) false, .str agg, .int .i64 at'] bs (σ.set id (.bld tt 5 c0) ++ τ) = some (.tup [], σ.set id (.bld tt 5 (c0 ++ shAtom name.data.toList l agg.data.toList at')) ++ τ) := by
  have hlen := GT.len_sizes l
  have hnn : name.data.toList.length = name.size := by simp
  have hgg : agg.data.toList.length = agg.size := by simp
  have hsl : ∀ o : AObj, (σ.set id o ++ τ).length = σ.length + τ.length := fun o => by simp
  simp only [shAtom, List.length_append, List.length_cons, List.length_nil, hnn] at hl
  have hlist : ∀ (cur : List UInt8) (bs : Nat), cur.length + (shAtS agg.data.toList at' 0 l).length ≤ 70368744177664 →
      callT T 113 [.ptr id 0, .isl (GT.encs l) false, .str ⟨#[44]⟩, .func 114 [.ptr (σ.length + τ.length + 1) 0, .ptr (σ.length + τ.length + 2) 0, .ptr (σ.length + τ.length) 0]] bs
        (σ.set id (.bld tt 5 cur) ++ (τ ++ [.cells [.ptr id 0] 0 false, .cells [.str agg] 0 false, .cells [.int .i64 at'] 0 false])) =
      some (.tup [], σ.set id (.bld tt 5 (cur ++ shAtS agg.data.toList at' 0 l)) ++ (τ ++ [.cells [.ptr id 0] 0 false, .cells [.str agg] 0 false, .cells [.int .i64 at'] 0 false])) := fun cur bs hb => by
    rw [← ats_join] at hb ⊢
    refine listTerm (shAt agg.data.toList at') ⟨#[44]⟩ l 114 _ σ id tt cur (τ ++ [.cells [.ptr id 0] 0 false, .cells [.str agg] 0 false, .cells [.int .i64 at'] 0 false]) hid ht (by omega) hb (fun i hi cur ρ bs hb2 => ?_) bs
    have hx := List.getElem_mem hi
    have hxs := (GT.sizes_mem hx).1
    have hxn := GT.name_le l[i]
    have hk : ∀ (j : Nat) (o : AObj) (r : Heap), ([AObj.cells [.ptr id 0] 0 false, .cells [.str agg] 0 false, .cells [.int .i64 at'] 0 false] : Heap)[j]? = some o → (σ.set id (.bld tt 5 cur) ++ (τ ++ .cells [.ptr id 0] 0 false :: .cells [.str agg] 0 false :: .cells [.int .i64 at'] 0 false :: r))[σ.length + τ.length + j]? = some o := fun j o r h => by
      rw [← List.append_assoc, List.getElem?_append_right (by simp)]
      have e : σ.length + τ.length + j - (σ.set id (.bld tt 5 cur) ++ τ).length = j := by rw [hsl]; omega
      rw [e]
      have hj : j < 3 := by have := (List.getElem?_eq_some_iff.1 h).1; simpa using this
      rw [← h]
      have : j = 0 ∨ j = 1 ∨ j = 2 := by omega
      rcases this with rfl | rfl | rfl <;> simp
    have hk0 := fun r => hk 0 _ r rfl
    have hk1 := fun r => hk 1 _ r rfl
    have hk2 := fun r => hk 2 _ r rfl
    rw [Nat.add_zero] at hk0
    refine heap_enter (af := c114) (args' := [.int .i64 (i : Int), l[i].enc, .ptr (σ.length + τ.length + 1) 0, .ptr (σ.length + τ.length + 2) 0, .ptr (σ.length + τ.length) 0]) rfl rfl (by simp [c114]) (by simp [c114]) rfl ?_
    by_cases hc : agg.data.toList ≠ [] ∧ (i : Int) = at'
    · have hag : agg ≠ ⟨#[]⟩ := fun e => hc.1 (ba_list_nil.2 e)
      have hsh : shAt agg.data.toList at' i l[i] = agg.data.toList ++ 60 :: (l[i].name.data.toList ++ [62]) := by rw [shAt, if_pos hc]
      rw [hsh] at hb2 ⊢
      have hnx : l[i].name.data.toList.length = l[i].name.size := by simp
      simp only [List.length_append, List.length_cons, List.length_nil, hgg, hnx] at hb2
      have hws := fun r bs => ws_at (σ := σ) (τ := τ ++ r) (s := ((agg ++ ⟨#[60]⟩) ++ l[i].name) ++ ⟨#[62]⟩) (l := cur) bs hid ht (by have e1 : (ByteArray.mk #[60]).size = 1 := rfl; have e2 : (ByteArray.mk #[62]).size = 1 := rfl; simp only [ByteArray.size_append, e1, e2]; omega)
      have z1 : (ByteArray.mk #[60]).size = 1 := rfl
      have z2 : (ByteArray.mk #[62]).size = 1 := rfl
      have q1 : (agg.size : Int) + 1 ≤ 9223372036854775807 := by omega
      have q2 : (agg.size : Int) + 1 + (l[i].name.size : Int) ≤ 9223372036854775807 := by omega
      have q3 : (agg.size : Int) + 1 + (l[i].name.size : Int) + 1 ≤ 9223372036854775807 := by omega
      simp at hws
      simp [c114, baseA, hk0, hk1, hk2, hws, hag, hc.2, ← GT.enc_eq, dropA_gc, refLt, res1, z1, z2, q1, q2, q3, ByteArray.size_append]
      exact take_eq [_] (by simp; rfl) (by simp)
    · have hsh : shAt agg.data.toList at' i l[i] = shT l[i] := by rw [shAt, if_neg hc]
      rw [hsh] at hb2 ⊢
      have hw := fun r bs => callWTerm l[i] (by omega) (hd _ hx) σ id tt cur (τ ++ r) bs hid ht hb2
      by_cases hag : agg = ⟨#[]⟩
      · subst hag
        simp [c114, baseA, hk0, hk1, hk2, hw, ← GT.enc_eq, dropA_gc, refLt, res1]
        exact take_eq [_] (by simp; rfl) (by simp)
      · have hat : ¬ ((i : Int) = at') := fun e => hc ⟨fun h => hag (ba_list_nil.1 h), e⟩
        simp [c114, baseA, hk0, hk1, hk2, hw, hag, hat, ← GT.enc_eq, dropA_gc, refLt, res1]
        exact take_eq [_] (by simp; rfl) (by simp)
  have z1 : (ByteArray.mk #[40, 64]).size = 2 := rfl
  have q1 : (name.size : Int) + 2 ≤ 9223372036854775807 := by omega
  have hws := fun r bs => ws_at (σ := σ) (τ := τ ++ r) (s := name ++ ⟨#[40, 64]⟩) (l := c0) bs hid ht (by simp only [ByteArray.size_append, z1]; omega)
  have hn2 : (name ++ ⟨#[40, 64]⟩).data.toList.length = name.size + 2 := by simp
  have b1 : (c0 ++ (name ++ ⟨#[40, 64]⟩).data.toList).length + (shAtS agg.data.toList at' 0 l).length ≤ 70368744177664 := by rw [List.length_append, hn2]; omega
  have hli := fun bs => hlist (c0 ++ (name ++ ⟨#[40, 64]⟩).data.toList) bs b1
  have b2 : (c0 ++ (name ++ ⟨#[40, 64]⟩).data.toList ++ shAtS agg.data.toList at' 0 l).length + 1 ≤ 70368744177664 := by rw [List.length_append, List.length_append, hn2]; omega
  have hwe := fun r bs => wb_at (σ := σ) (τ := τ ++ r) (n := 41) (l := c0 ++ (name ++ ⟨#[40, 64]⟩).data.toList ++ shAtS agg.data.toList at' 0 l) bs hid ht b2 (by decide) (by decide)
  simp [Nat.add_assoc] at hws hli hwe
  refine heap_enter (af := c80) (args' := [.ptr id 0, .str name, .isl (GT.encs l) false, .str agg, .int .i64 at']) (σ1 := σ.set id (.bld tt 5 c0) ++ τ) rfl rfl (by simp [c80]) (by simp [c80]) rfl ?_
  simp [c80, baseA, hws, hli, hwe, z1, q1, dropA_gc, refLt, res1, shAtom]
  exact take_app2
end Go.Proofs.YtjfgjnlocadpbaaGreatDoor
end
section
namespace Go.Proofs.YtjfgjnlocadpbaaGreatDoor
open Go.Mach
theorem key_at {σ τ r : Heap} {id : Nat} {o a : AObj} : (σ.set id o ++ (τ ++ a :: r))[σ.length + τ.length]? = some a := by
  rw [← List.append_assoc, List.getElem?_append_right (by simp)]; simp
theorem args_ex {l : List GT} (h : ∀ x ∈ l, termR 8 x = true) : ∀ x ∈ l, ∃ d, termR d x = true := fun x hx => ⟨8, h x hx⟩
theorem rel_size {s : ByteArray} (h : relOK s = true) : s.size ≤ 16 := ((nameOK_iff s).1 (rel_name h).1).2.2
theorem var_size {s : ByteArray} (h : varOK s = true) : s.size ≤ 16 := ((varOK_iff s).1 h).2.2
theorem test_size {s : ByteArray} (h : tOK s = true) : s.size ≤ 2 := by
  rcases of_decide_eq_true h with rfl | rfl | rfl | rfl | rfl | rfl <;> decide
theorem wlit_ok (x : GL) (hx : litB x = true) (hs : x.size ≤ 10000000000) (σ : Heap) (id tt : Nat) (c0 : List UInt8) (τ : Heap) (bs : Nat) (hid : id < σ.length) (ht : tt ∈ bldTs) (hl : c0.length + (shLit x).length ≤ 70368744177664) :
    callT T 83 [.ptr id 0, x.enc] bs (σ.set id (.bld tt 5 c0) ++ τ) = some (.tup [], σ.set id (.bld tt 5 (c0 ++ shLit x)) ++ τ) := by
  have hal := x.args_le
  have hsl : ∀ o : AObj, (σ.set id o ++ τ).length = σ.length + τ.length := fun o => by simp
  refine heap_enter (af := c83) (args' := [.ptr id 0, x.enc]) (σ1 := σ.set id (.bld tt 5 c0) ++ τ) rfl rfl (by simp [c83]) (by simp [c83]) rfl ?_
  have z0 : (ByteArray.mk #[32]).size = 1 := rfl
  have z4 : (ByteArray.mk #[32, 58, 61, 32]).size = 4 := rfl
  rcases lit_cases hx with ⟨hk, h1, h2⟩ | ⟨hk, h1, y, z, e, hy, hz⟩ | ⟨hk, h1, y, e, hy⟩
  · have hn := rel_size h1
    rcases hk with hk | hk
    · rw [sh1 hk] at hl ⊢
      have hat := fun r bs => watom x.name ⟨#[]⟩ 0 x.args (by omega) (by decide) (by omega) (args_ex (args_all h2)) σ id tt c0 (τ ++ r) bs hid ht hl
      simp at hat
      simp [c83, baseA, GL.enc_eq, hk, hat, dropA_gc, refLt, res1]
      exact take_app2
    · rw [sh2 hk] at hl ⊢
      simp only [List.length_cons] at hl
      have hwb := fun r bs => wb_at (σ := σ) (τ := τ ++ r) (n := 33) (l := c0) bs hid ht (by omega) (by decide) (by decide)
      have hat := fun r bs => watom x.name ⟨#[]⟩ 0 x.args (by omega) (by decide) (by omega) (args_ex (args_all h2)) σ id tt (c0 ++ [33]) (τ ++ r) bs hid ht (by simp only [List.length_append, List.length_cons, List.length_nil]; show _ + (shAtom x.name.data.toList x.args [] 0).length ≤ _; omega)
      simp at hat hwb
      simp [c83, baseA, GL.enc_eq, hk, hat, hwb, dropA_gc, refLt, res1]
      exact take_app2
  · have hn := test_size h1
    have hp : shLit x = shTs (32 :: (x.name.data.toList ++ [32])) x.args := by simp [shLit, hk]
    rw [hp] at hl ⊢
    have hsep : ((⟨#[32]⟩ ++ x.name) ++ ⟨#[32]⟩ : ByteArray).data.toList = 32 :: (x.name.data.toList ++ [32]) := by simp
    have hli : ∀ (o : AObj) (bs : Nat), callT T 113 [.ptr id 0, .isl (GT.encs x.args) false, .str ((⟨#[32]⟩ ++ x.name) ++ ⟨#[32]⟩), .func 116 [.ptr (σ.length + τ.length) 0]] bs (σ.set id (.bld tt 5 c0) ++ (τ ++ [.cells [.ptr id 0] 0 false, o])) =
          some (.tup [], σ.set id (.bld tt 5 (c0 ++ shTs (32 :: (x.name.data.toList ++ [32])) x.args)) ++ (τ ++ [.cells [.ptr id 0] 0 false, o])) := fun o bs => by
      rw [← hsep, ← ts_join] at hl ⊢
      refine listTerm (fun _ => shT) _ x.args 116 [.ptr (σ.length + τ.length) 0] σ id tt c0 (τ ++ [.cells [.ptr id 0] 0 false, o]) hid ht (by have := GT.len_sizes x.args; omega) hl (fun i hi cur ρ bs hb2 => ?_) bs
      have hm := List.getElem_mem hi
      have hex : ∃ d, termR d x.args[i] = true := by
        refine args_ex (l := x.args) (fun w hw => ?_) _ hm
        rw [e] at hw; simp at hw; rcases hw with rfl | rfl; exact hy; exact hz
      have hw := fun r bs => callWTerm x.args[i] (by have := (GT.sizes_mem hm).1; omega) hex σ id tt cur (τ ++ r) bs hid ht hb2
      refine heap_enter (af := c116) (args' := [.int .i64 (i : Int), x.args[i].enc, .ptr (σ.length + τ.length) 0]) rfl rfl (by simp [c116]) (by simp [c116]) rfl ?_
      simp [c116, baseA, key_at, hw, ← GT.enc_eq, dropA_gc, refLt, res1]
      exact take_eq [_] (by simp; rfl) (by simp)
    have q1 : (1 : Int) + (x.name.size : Int) ≤ 9223372036854775807 := by omega
    have q2 : (1 : Int) + (x.name.size : Int) + 1 ≤ 9223372036854775807 := by omega
    simp [c83, baseA, GL.enc_eq, hk, hli, z0, q1, q2, dropA_gc, refLt, res1, ByteArray.size_append]
    exact take_app2
  · have hn := var_size h1
    have hns : x.name.data.toList.length = x.name.size := by simp
    rw [sh4 hk e] at hl ⊢
    simp only [List.length_append, List.length_cons, hns] at hl
    have hy8 : y.size ≤ 10000000000 := by have := (GT.sizes_mem (l := x.args) (x := y) (by simp [e])).1; omega
    have b1 : (x.name ++ ⟨#[32, 58, 61, 32]⟩).data.toList.length = x.name.size + 4 := by simp
    have hws := fun r bs => ws_at (σ := σ) (τ := τ ++ r) (s := x.name ++ ⟨#[32, 58, 61, 32]⟩) (l := c0) bs hid ht (by simp only [ByteArray.size_append, z4]; omega)
    have hw := fun r bs => callWTerm y hy8 ⟨8, hy⟩ σ id tt (c0 ++ (x.name ++ ⟨#[32, 58, 61, 32]⟩).data.toList) (τ ++ r) bs hid ht (by rw [List.length_append, b1]; omega)
    have q1 : (x.name.size : Int) + 4 ≤ 9223372036854775807 := by omega
    simp at hws hw
    simp [c83, baseA, GL.enc_eq, hk, hws, hw, z4, q1, e, ← GT.enc_eq, dropA_gc, refLt, res1]
    exact take_app2
end Go.Proofs.YtjfgjnlocadpbaaGreatDoor
end
section
namespace Go.Proofs.YtjfgjnlocadpbaaGreatDoor
open Go.Mach
mutual
theorem sh_len : ∀ (t : GT) (d : Nat), termR d t = true → (shT t).length + 1 ≤ 27 * t.size
  | .mk k n v l, d, h => by
    obtain ⟨hd, h'⟩ := term_cases h
    rcases h' with ⟨n', e, hn⟩ | ⟨v', e, hv, _⟩ | ⟨n', l', e, hn, hl⟩ | ⟨n', l', e, ho, h2, hl⟩ <;> injection e with e1 e2 e3 e4 <;> subst e1 e2 e3 e4
    · have : n.data.toList.length = n.size := by simp
      simp only [shT, if_true, this, GT.size, GV.size, GT.sizes, GV.sizes]; omega
    · have := pr_len v (right_okV _ _ hv)
      have hp : shT (.mk 2 ⟨#[]⟩ v []) = pr v := by simp [shT]
      rw [hp]
      simp only [GT.size]; omega
    · have hp : shT (.mk 3 n nil0 l) = n.data.toList ++ 40 :: (shTs [44] l ++ [41]) := by simp [shT]
      have hh := shs_len l [44] (d - 1) (by simp) hl
      have : n.data.toList.length = n.size := by simp
      rw [hp]
      simp only [List.length_append, List.length_cons, List.length_nil, this, GT.size, GV.size, GV.sizes]; omega
    · have hp : shT (.mk 4 n nil0 l) = 40 :: (shTs n.data.toList l ++ [41]) := by simp [shT]
      obtain ⟨c, q1, _⟩ := op_char ho
      have hh := shs_len l n.data.toList (d - 1) (by rw [q1]; simp) hl
      rw [hp]
      simp only [List.length_append, List.length_cons, List.length_nil, GT.size, GV.size, GV.sizes]; omega
theorem shs_len : ∀ (l : List GT) (sep : List UInt8) (d : Nat), sep.length ≤ 1 → (∀ x ∈ l, termR d x = true) → (shTs sep l).length ≤ 27 * GT.sizes l
  | [], sep, d, _, _ => by simp [shTs]
  | x :: l, sep, d, hs, h => by
    have h1 := sh_len x d (h x (by simp))
    have h2 := shc_len l sep d hs fun y hy => h y (by simp [hy])
    simp only [shTs, List.length_append, GT.sizes]; omega
theorem shc_len : ∀ (l : List GT) (sep : List UInt8) (d : Nat), sep.length ≤ 1 → (∀ x ∈ l, termR d x = true) → (shTc sep l).length ≤ 27 * GT.sizes l
  | [], sep, d, _, _ => by simp [shTc]
  | x :: l, sep, d, hs, h => by
    have h1 := sh_len x d (h x (by simp))
    have h2 := shc_len l sep d hs fun y hy => h y (by simp [hy])
    simp only [shTc, List.length_append, GT.sizes]; omega
end
theorem at_len {agg : List UInt8} {p : Int} {i d : Nat} {t : GT} (ha : agg.length ≤ 5) (h : termR d t = true) : (shAt agg p i t).length + 1 ≤ 28 * t.size := by
  have h1 := sh_len t d h
  have : t.name.data.toList.length = t.name.size := by simp
  have h3 : t.name.size + 3 ≤ t.size := by obtain ⟨k, n, ⟨vk, vn, vt, vl⟩, l⟩ := t; simp only [GT.size, GT.name, GV.size]; omega
  unfold shAt
  split
  · simp only [List.length_append, List.length_cons, List.length_nil, this]; omega
  · omega
theorem atc_len {agg : List UInt8} {p : Int} {d : Nat} (ha : agg.length ≤ 5) : ∀ (i : Nat) (l : List GT), (∀ x ∈ l, termR d x = true) → (shAtC agg p i l).length ≤ 28 * GT.sizes l
  | _, [], _ => by simp [shAtC]
  | i, x :: l, h => by
    have h1 := at_len (p := p) (i := i) ha (h x (by simp))
    have h2 := atc_len ha (p := p) (i + 1) l fun y hy => h y (by simp [hy])
    simp only [shAtC, List.length_append, List.length_cons, GT.sizes]; omega
theorem ats_len {agg : List UInt8} {p : Int} {d : Nat} (ha : agg.length ≤ 5) (i : Nat) (l : List GT) (h : ∀ x ∈ l, termR d x = true) : (shAtS agg p i l).length ≤ 28 * GT.sizes l := by
  cases l with
  | nil => simp [shAtS]
  | cons x l =>
    have h1 := at_len (p := p) (i := i) ha (h x (by simp))
    have h2 := atc_len ha (p := p) (i + 1) l fun y hy => h y (by simp [hy])
    simp only [shAtS, List.length_append, GT.sizes]; omega
theorem lit_len {x : GL} (h : litB x = true) : (shLit x).length + 2 ≤ 28 * x.size := by
  have hsz : x.size = x.name.size + GT.sizes x.args + 4 := by simp only [GL.size, GL.enc, bulkA, bulkAs, GT.bulk_encs]; omega
  have hn : x.name.data.toList.length = x.name.size := by simp
  rw [hsz]
  rcases lit_cases h with ⟨hk, h1, h2⟩ | ⟨hk, h1, y, z, e, hy, hz⟩ | ⟨hk, h1, y, e, hy⟩
  · have hh := ats_len (agg := []) (p := 0) (by simp) 0 x.args (args_all h2)
    rcases hk with hk | hk
    · rw [sh1 hk]; simp only [shAtom, List.length_append, List.length_cons, List.length_nil, hn]; omega
    · rw [sh2 hk]; simp only [shAtom, List.length_append, List.length_cons, List.length_nil, hn]; omega
  · rw [sh3 hk e, e]
    have h2 := sh_len y 8 hy
    have h3 := sh_len z 8 hz
    simp only [List.length_append, List.length_cons, hn, GT.sizes]; omega
  · rw [sh4 hk e, e]
    have h2 := sh_len y 8 hy
    simp only [List.length_append, List.length_cons, hn, GT.sizes]; omega
theorem litc_len : ∀ l : List GL, (∀ x ∈ l, litB x = true) → (shLitC l).length ≤ 28 * bulkAs (l.map GL.enc)
  | [], _ => by simp [shLitC]
  | x :: l, h => by
    have h1 := lit_len (h x (by simp))
    have h2 := litc_len l fun y hy => h y (by simp [hy])
    have e : bulkA x.enc = x.size := rfl
    simp only [shLitC, List.length_append, List.length_cons, List.map_cons, bulkAs, e]; omega
theorem lits_len (l : List GL) (h : ∀ x ∈ l, litB x = true) : (shLitS l).length ≤ 28 * bulkAs (l.map GL.enc) := by
  cases l with
  | nil => simp [shLitS]
  | cons x l =>
    have h1 := lit_len (h x (by simp))
    have h2 := litc_len l fun y hy => h y (by simp [hy])
    have e : bulkA x.enc = x.size := rfl
    simp only [shLitS, List.length_append, List.map_cons, bulkAs, e]; omega
theorem agg_len {r : GR} (h : aggB r = true) : r.agg.size ≤ 5 := by
  have hn : r.agg.data.toList.length = r.agg.size := by simp
  rcases (agg_L h).1 with e | e | e | e <;> (rw [← hn, e]; decide)
theorem rule_len {x : GR} (h : ruleB x = true) : (shRule x).length + 1 ≤ 28 * x.size := by
  have hsz : x.size = x.label.size + x.head.size + GT.sizes x.args + x.agg.size + bulkAs (x.body.map GL.enc) + 7 := by simp only [GR.size, GR.enc, bulkA, bulkAs, GT.bulk_encs]; omega
  have hn : x.label.data.toList.length = x.label.size := by simp
  have hn2 : x.head.data.toList.length = x.head.size := by simp
  have hn3 : x.agg.data.toList.length = x.agg.size := by simp
  simp only [ruleB, Bool.and_eq_true, decide_eq_true_eq, List.all_eq_true] at h
  obtain ⟨⟨⟨⟨⟨a1, a2⟩, a3⟩, a4⟩, a5⟩, a6⟩ := h
  have h1 := ats_len (agg := x.agg.data.toList) (p := x.pos) (by rw [hn3]; exact agg_len a6) 0 x.args (args_all a3)
  have h2 := lits_len x.body a5
  rw [hsz]
  simp only [shRule, shAtom, List.length_append, List.length_cons, List.length_nil, hn, hn2]; omega
end Go.Proofs.YtjfgjnlocadpbaaGreatDoor
end
section
namespace Go.Proofs.YtjfgjnlocadpbaaGreatDoor
open Go.Mach
theorem lc_join : ∀ (i : Nat) (l : List GL), joinF (fun _ => shLit) [44, 32] (i + 1) l = shLitC l
  | _, [] => rfl
  | i, x :: l => by simp only [joinF, shLitC, lc_join (i + 1) l]; simp
theorem ls_join (l : List GL) : joinF (fun _ => shLit) [44, 32] 0 l = shLitS l := by
  cases l with
  | nil => rfl
  | cons x l => simp only [joinF, shLitS, lc_join]; simp
theorem wrule_ok (x : GR) (hx : ruleB x = true) (hs : x.size ≤ 10000000000) (σ : Heap) (id tt : Nat) (c0 : List UInt8) (τ : Heap) (bs : Nat) (hid : id < σ.length) (ht : tt ∈ bldTs) (hl : c0.length + (shRule x).length ≤ 70368744177664) :
    callT T 47 [.ptr id 0, x.enc] bs (σ.set id (.bld tt 5 c0) ++ τ) = some (.tup [], σ.set id (.bld tt 5 (c0 ++ shRule x)) ++ τ) := by
  have hal := x.args_le
  have hbl := x.body_len
  have hbm := fun y hy => x.body_mem (y := y) hy
  simp only [ruleB, Bool.and_eq_true, decide_eq_true_eq, List.all_eq_true] at hx
  obtain ⟨⟨⟨⟨⟨a1, a2⟩, a3⟩, a4⟩, a5⟩, a6⟩ := hx
  have n1 := rel_size a1
  have n2 := rel_size a2
  have n3 := agg_len a6
  have e1 : x.label.data.toList.length = x.label.size := by simp
  have z1 : (ByteArray.mk #[32]).size = 1 := rfl
  have z2 : (ByteArray.mk #[32, 58, 45, 32]).size = 4 := rfl
  have q1 : (x.label.size : Int) + 1 ≤ 9223372036854775807 := by omega
  have hsl : ∀ o : AObj, (σ.set id o ++ τ).length = σ.length + τ.length := fun o => by simp
  generalize hA : shAtom x.head.data.toList x.args x.agg.data.toList x.pos = A at *
  have hR : shRule x = x.label.data.toList ++ 32 :: (A ++ 32 :: 58 :: 45 :: 32 :: (shLitS x.body ++ [46])) := by rw [← hA]; rfl
  rw [hR] at hl ⊢
  simp only [List.length_append, List.length_cons, List.length_nil, e1] at hl
  have s1 := fun r bs => ws_at (σ := σ) (τ := τ ++ r) (s := x.label ++ ⟨#[32]⟩) (l := c0) bs hid ht (by simp only [ByteArray.size_append, z1]; omega)
  have d1 : (x.label ++ ⟨#[32]⟩).data.toList = x.label.data.toList ++ [32] := by simp
  rw [d1] at s1
  have s2 := fun r bs => watom x.head x.agg x.pos x.args (by omega) (by omega) (by omega) (args_ex (args_all a3)) σ id tt (c0 ++ (x.label.data.toList ++ [32])) (τ ++ r) bs hid ht (by rw [hA]; simp only [List.length_append, List.length_cons, List.length_nil, e1]; omega)
  rw [hA] at s2
  have s3 := fun r bs => ws_at (σ := σ) (τ := τ ++ r) (s := ⟨#[32, 58, 45, 32]⟩) (l := c0 ++ (x.label.data.toList ++ [32]) ++ A) bs hid ht (by simp only [List.length_append, List.length_cons, List.length_nil, e1, z2]; omega)
  have s4 : ∀ (o : AObj) (bs : Nat), callT T 81 [.ptr id 0, .isl (x.body.map GL.enc) false, .str ⟨#[44, 32]⟩, .func 82 [.ptr (σ.length + τ.length) 0]] bs (σ.set id (.bld tt 5 (c0 ++ (x.label.data.toList ++ [32]) ++ A ++ [32, 58, 45, 32])) ++ (τ ++ [.cells [.ptr id 0] 0 false, o])) =
      some (.tup [], σ.set id (.bld tt 5 (c0 ++ (x.label.data.toList ++ [32]) ++ A ++ [32, 58, 45, 32] ++ shLitS x.body)) ++ (τ ++ [.cells [.ptr id 0] 0 false, o])) := fun o bs => by
    rw [← ls_join]
    refine listLiteral (fun _ => shLit) ⟨#[44, 32]⟩ x.body 82 [.ptr (σ.length + τ.length) 0] σ id tt _ (τ ++ [.cells [.ptr id 0] 0 false, o]) hid ht (by omega) (by show _ + (joinF (fun _ => shLit) [44, 32] 0 x.body).length ≤ _; rw [ls_join]; simp only [List.length_append, List.length_cons, List.length_nil, e1]; omega) (fun i hi cur ρ bs hb2 => ?_) bs
    have hm := List.getElem_mem hi
    have hw := fun r bs => wlit_ok x.body[i] (a5 _ hm) (by have := hbm _ hm; omega) σ id tt cur (τ ++ r) bs hid ht hb2
    refine heap_enter (af := c82) (args' := [.int .i64 (i : Int), x.body[i].enc, .ptr (σ.length + τ.length) 0]) rfl rfl (by simp [c82]) (by simp [c82]) rfl ?_
    simp [c82, baseA, key_at, hw, ← GL.enc_eq, dropA_gc, refLt, res1]
    exact take_eq [_] (by simp; rfl) (by simp)
  have s5 := fun r bs => wb_at (σ := σ) (τ := τ ++ r) (n := 46) (l := c0 ++ (x.label.data.toList ++ [32]) ++ A ++ [32, 58, 45, 32] ++ shLitS x.body) bs hid ht (by simp only [List.length_append, List.length_cons, List.length_nil, e1]; omega) (by decide) (by decide)
  simp at s1 s2 s3 s4 s5
  refine heap_enter (af := c47) (args' := [.ptr id 0, x.enc]) (σ1 := σ.set id (.bld tt 5 c0) ++ τ) rfl rfl (by simp [c47]) (by simp [c47]) rfl ?_
  simp [c47, baseA, GR.enc_eq, s1, s2, s3, s4, s5, z1, q1, dropA_gc, refLt, res1]
  exact take_app2
end Go.Proofs.YtjfgjnlocadpbaaGreatDoor
end
section
namespace Go.Proofs.YtjfgjnlocadpbaaGreatDoor
open Go.Mach
end Go.Proofs.YtjfgjnlocadpbaaGreatDoor
end
section
namespace Go.Proofs.YtjfgjnlocadpbaaGreatDoor
open Go.Mach
def textRule (x : GR) : ByteArray := if ruleB x = true then S (shRule x) else S []
theorem textRule_ok (b : Bool) (x : GR) (hb : b = true → ruleB x = true) (hs : x.size ≤ 10000000000) : pureT T c45 [.bool b, x.enc, .func 47 []] = some (.str (if b = true then S (shRule x) else S [])) := by
  apply pure_enter (by simp [c45])
  cases b
  · simp [c45, S]
  · have hx := hb rfl
    have hln := rule_len hx
    have hw := fun o bs => wrule_ok x hx (by omega) [o, .dead] 1 124 [] [] bs (by simp) (by decide) (by simp only [List.length_nil]; omega)
    have hst := fun o bs => callStr (σ := [o, .bld 124 5 (shRule x)]) (id := 1) (l := shRule x) bs rfl (by omega)
    simp at hw hst
    simp [c45, hw, hst, setRun, S, ← GR.enc_eq]
theorem pRule_ok (x : GR) (hs : x.size ≤ 10000000000) : pureT T c23 [x.enc] = some (.str (textRule x)) := by
  have h1 := callPRule x (by omega)
  have h2 : ∀ bs σ, callT T 45 [.bool (ruleB x), x.enc, .func 47 []] bs σ = some (.str (textRule x), σ) := fun bs σ => call_clean rfl rfl rfl (by simp) (by rw [textRule_ok (ruleB x) x (fun h => h) hs]; rfl)
  apply pure_enter (by simp [c23])
  generalize (ruleB x) = b at *
  simp [c23, h1, h2, sym, ← GR.enc_eq]
theorem sayRule (x : GR) (hs : x.size ≤ 10000000000) (bs : Nat) (σ : Heap) : callT T 23 [x.enc] bs σ = some (.str (textRule x), σ) := call_clean rfl rfl rfl (by simp) (pRule_ok x hs)
end Go.Proofs.YtjfgjnlocadpbaaGreatDoor
end
section
namespace Go.Proofs.YtjfgjnlocadpbaaGreatDoor
open Go.Mach
end Go.Proofs.YtjfgjnlocadpbaaGreatDoor
end
section
namespace Go.Proofs.YtjfgjnlocadpbaaGreatDoor
open Go.Mach
section
variable {bs n : Nat} {f : FR} {σ : Heap}
end
mutual
def vs1 : GT → List ByteArray
  | .mk k n _ l => if k = 1 then [n] else vsL l
def vsL : List GT → List ByteArray
  | [] => []
  | t :: l => vs1 t ++ vsL l
end
def runS {S : Type} (step : S → ByteArray → S × Bool) : S → List ByteArray → S × Bool
  | s, [] => (s, true)
  | s, n :: ns => if (step s n).2 = true then runS step (step s n).1 ns else ((step s n).1, false)
section
variable {S : Type} (H X : S → Heap → Prop) (step : S → ByteArray → S × Bool) (cnt : S → Nat) (C : Nat)
def Counts : Prop := ∀ s m, (step s m).2 = true → cnt (step s m).1 = cnt s + 1
theorem Counts.run {step : S → ByteArray → S × Bool} {cnt : S → Nat} (h : Counts step cnt) : ∀ (l : List ByteArray) (s : S), (runS step s l).2 = true → cnt (runS step s l).1 = cnt s + l.length
  | [], s, _ => rfl
  | m :: l, s, hr => by
    simp only [runS] at hr ⊢
    by_cases hb : (step s m).2 = true
    · rw [if_pos hb] at hr ⊢
      rw [h.run l _ hr, h s m hb, List.length_cons]; omega
    · rw [if_neg hb] at hr; cases hr
structure Rounds (bs id iy ie : Nat) : Prop where
  more : ∀ s σ o, H s σ → H s (σ ++ [o])
  y : ∀ s σ, H s σ → σ[iy]? = some (.cells [.yld id] 0 false)
  e : ∀ s σ, H s σ → σ[ie]? = some (.cells [.func 130 [.ptr iy 0, .ptr ie 0]] 0 false)
  ct : Counts step cnt
  rd : ∀ s σ m, H s σ → cnt s < C → bs ≤ σ.length → ∃ σ', callT T yno [.yld id, .str m] bs σ = some (.bool (step s m).2, σ') ∧ ((step s m).2 = true → H (step s m).1 σ') ∧ ((step s m).2 = false → X (step s m).1 σ') ∧ σ.length ≤ σ'.length
structure Rounds1 (bs id N : Nat) : Prop where
  more : ∀ s σ o, H s σ → H s (σ ++ [o])
  len : ∀ s σ, H s σ → N ≤ σ.length
  ct : Counts step cnt
  rd : ∀ s σ m, H s σ → cnt s < C → bs ≤ σ.length → ∃ σ', callT T yno [.yld id, .str m] bs σ = some (.bool (step s m).2, σ') ∧ ((step s m).2 = true → H (step s m).1 σ') ∧ ((step s m).2 = false → X (step s m).1 σ') ∧ σ.length ≤ σ'.length ∧
    ∀ j cs, N ≤ j → σ[j]? = some (.cells cs 0 false) → σ'[j]? = some (.cells cs 0 false)
end
end Go.Proofs.YtjfgjnlocadpbaaGreatDoor
end
section
namespace Go.Proofs.YtjfgjnlocadpbaaGreatDoor
open Go.Mach
def memB (m : ByteArray) (b : List ByteArray) : Bool := b.any fun n => decide (m = n)
theorem memB_iff (m : ByteArray) (b : List ByteArray) : memB m b = true ↔ m ∈ b := by simp [memB]
def addB (b : List ByteArray) (m : ByteArray) : List ByteArray := if memB m b = true then b else b ++ [m]
mutual
theorem vs1_len : ∀ t : GT, (vs1 t).length ≤ t.size
  | .mk k n v l => by
    have := vsL_len l
    simp only [vs1, GT.size]
    split <;> simp <;> omega
theorem vsL_len : ∀ l : List GT, (vsL l).length ≤ GT.sizes l
  | [] => by simp [vsL]
  | t :: l => by
    have h1 := vs1_len t
    have h2 := vsL_len l
    simp only [vsL, List.length_append, GT.sizes]; omega
end
end Go.Proofs.YtjfgjnlocadpbaaGreatDoor
end
section
namespace Go.Proofs.YtjfgjnlocadpbaaGreatDoor
open Go.Mach
theorem take_set {σ τ : Heap} {k : Nat} {o : AObj} (hl : σ.length ≤ τ.length) (hk : k < σ.length) (h : ∀ j, j < σ.length → j ≠ k → τ[j]? = σ[j]?) (hk2 : τ[k]? = some o) : τ.take σ.length = σ.set k o := by
  apply List.ext_getElem?
  intro j
  rw [List.getElem?_take, List.getElem?_set]
  split
  · rename_i hj
    by_cases e : k = j
    · subst e; rw [if_pos rfl]; simp [hk, hk2]
    · rw [if_neg e]; exact h j hj fun e' => e e'.symm
  · rename_i hj
    rw [if_neg (by omega), List.getElem?_eq_none (by omega)]
def fstC : ACode → ACode
  | .seq a _ => a
  | c => c
def sndC : ACode → ACode
  | .seq _ b => b
  | c => c
end Go.Proofs.YtjfgjnlocadpbaaGreatDoor
end
section
namespace Go.Proofs.YtjfgjnlocadpbaaGreatDoor
open Go.Mach
end Go.Proofs.YtjfgjnlocadpbaaGreatDoor
end
section
namespace Go.Proofs.YtjfgjnlocadpbaaGreatDoor
open Go.Mach
def relsD : List GD := [⟨⟨#[108, 105, 110, 107]⟩, 3⟩, ⟨⟨#[112]⟩, 2⟩, ⟨⟨#[113]⟩, 2⟩, ⟨⟨#[114]⟩, 1⟩, ⟨⟨#[115]⟩, 3⟩, ⟨⟨#[116]⟩, 2⟩]
theorem relations6_ok : pureT T c21 [] = some (.isl (relsD.map GD.enc) false) := by
  apply pure_enter (by simp [c21])
  simp [c21, setRun, endP, res1, relsD, GD.enc]
  exact ⟨_, rfl⟩
def numT (n : Int) : GT := .mk 2 ⟨#[]⟩ (.mk 1 n ⟨#[]⟩ []) []
theorem num6_ok (n : Int) : pureT T c51 [.int .i64 n] = some (numT n).enc := by
  apply pure_enter (by simp [c51])
  simp [c51, setRun, endP, res1, numT, GT.enc, GV.kind, GV.num, GV.text, GV.items, GV.encs]
theorem callRelations6 (bs : Nat) (σ : Heap) : callT T 21 [] bs σ = some (.isl (relsD.map GD.enc) false, σ) := call_clean rfl rfl rfl rfl relations6_ok
theorem callNum6 (n : Int) (bs : Nat) (σ : Heap) : callT T 51 [.int .i64 n] bs σ = some ((numT n).enc, σ) := call_clean rfl rfl rfl rfl (num6_ok n)
theorem pick6_ok (c n : Int) (h : n ≠ 0) : pureT T c27 [.int .i64 c, .int .i64 n] = some (.int .i64 ((if c < 0 then IntKind.i64.wrap (0 - IntKind.i64.wrap (c + 1)) else c).tmod n)) := by
  apply pure_enter (by simp [c27])
  by_cases hc : c < 0
  · simp [c27, hc, h]
  · simp [c27, hc, h]
theorem pick6 (c : Int) (n : Nat) (h : 0 < n) (h1 : GV.i64ok c) (bs : Nat) (σ : Heap) :
    callT T 27 [.int .i64 c, .int .i64 (n : Int)] bs σ = some (.int .i64 (pickN c n : Int), σ) := by
  refine call_clean rfl rfl rfl rfl ?_
  rw [pick6_ok c n (by omega), pick_eq c n h h1.1 h1.2]
def vName (n : Nat) : ByteArray := [⟨#[83]⟩, ⟨#[68]⟩, ⟨#[88]⟩, ⟨#[89]⟩, ⟨#[90]⟩, ⟨#[67]⟩].getD n ⟨#[]⟩
def vT (c : Int) : GT := .mk 1 (vName (pickN c 6)) (.mk 0 0 ⟨#[]⟩ []) []
theorem v6_ok (c : Int) (hc : GV.i64ok c) : pureT T c50 [.int .i64 c] = some (vT c).enc := by
  have hp := fun bs σ => pick6 c 6 (by omega) hc bs σ
  have hlt : pickN c 6 < 6 := pickN_lt (by omega)
  apply pure_enter (by simp [c50])
  unfold vT
  simp only [Int.cast_ofNat_Int] at hp
  generalize pickN c 6 = n at *
  match n, hlt with
  | 0, _ => simp [c50, setRun, hp, endP, res1, GT.enc, GV.kind, GV.num, GV.text, GV.items, GV.encs, vName]
  | 1, _ => simp [c50, setRun, hp, endP, res1, GT.enc, GV.kind, GV.num, GV.text, GV.items, GV.encs, vName]
  | 2, _ => simp [c50, setRun, hp, endP, res1, GT.enc, GV.kind, GV.num, GV.text, GV.items, GV.encs, vName]
  | 3, _ => simp [c50, setRun, hp, endP, res1, GT.enc, GV.kind, GV.num, GV.text, GV.items, GV.encs, vName]
  | 4, _ => simp [c50, setRun, hp, endP, res1, GT.enc, GV.kind, GV.num, GV.text, GV.items, GV.encs, vName]
  | 5, _ => simp [c50, setRun, hp, endP, res1, GT.enc, GV.kind, GV.num, GV.text, GV.items, GV.encs, vName]
theorem callV6 (c : Int) (hc : GV.i64ok c) (bs : Nat) (σ : Heap) : callT T 50 [.int .i64 c] bs σ = some ((vT c).enc, σ) := call_clean rfl rfl rfl rfl (v6_ok c hc)
end Go.Proofs.YtjfgjnlocadpbaaGreatDoor
end
section
namespace Go.Proofs.YtjfgjnlocadpbaaGreatDoor
open Go.Mach
structure GRaw where
  kind : Int
  name : Int
  n0 : Int
  n1 : Int
  n2 : Int
  n3 : Int
namespace GRaw
def enc (x : GRaw) : AV := .agg [.int .i64 x.kind, .int .i64 x.name, .int .i64 x.n0, .int .i64 x.n1, .int .i64 x.n2, .int .i64 x.n3]
def ok (x : GRaw) : Prop := GV.i64ok x.kind ∧ GV.i64ok x.name ∧ GV.i64ok x.n0 ∧ GV.i64ok x.n1 ∧ GV.i64ok x.n2 ∧ GV.i64ok x.n3
def at' (x : GRaw) (i : Nat) : Int := if i = 0 then x.n0 else if i = 1 then x.n1 else if i = 2 then x.n2 else x.n3
def zero : GRaw := ⟨0, 0, 0, 0, 0, 0⟩
theorem enc_mk (k n a b c d : Int) : AV.agg [.int .i64 k, .int .i64 n, .int .i64 a, .int .i64 b, .int .i64 c, .int .i64 d] = enc ⟨k, n, a, b, c, d⟩ := rfl
@[simp] theorem eta (x : GRaw) : (⟨x.kind, x.name, x.n0, x.n1, x.n2, x.n3⟩ : GRaw) = x := rfl
theorem enc_eq (x : GRaw) : x.enc = .agg [.int .i64 x.kind, .int .i64 x.name, .int .i64 x.n0, .int .i64 x.n1, .int .i64 x.n2, .int .i64 x.n3] := rfl
@[simp] theorem enc_cells (x : GRaw) : x.enc.cells = [.int .i64 x.kind, .int .i64 x.name, .int .i64 x.n0, .int .i64 x.n1, .int .i64 x.n2, .int .i64 x.n3] := rfl
@[simp] theorem enc_solid (x : GRaw) : x.enc.solid = true := rfl
@[simp] theorem enc_head (x : GRaw) (xs : List AV) : headYld (x.enc :: xs) = false := by cases x; rfl
@[simp] theorem enc_clean (x : GRaw) : x.enc.clean = true := rfl
@[simp] theorem enc_datR (x : GRaw) : x.enc.datR = true := rfl
@[simp] theorem enc_dat (x : GRaw) : x.enc.dat = true := rfl
@[simp] theorem enc_clo (x : GRaw) : x.enc.clo = true := rfl
@[simp] theorem enc_clo1 (x : GRaw) : x.enc.clo1 = false := rfl
@[simp] theorem enc_closeA (σ : Heap) (x : GRaw) : closeA σ x.enc = some (x.enc, σ) := (clean_close (by simp)).1
@[simp] theorem enc_closeR (σ : Heap) (x : GRaw) : closeR σ x.enc = some (x.enc, σ) := rfl
theorem zero_ok : zero.ok := by simp [ok, zero, GV.i64ok]
theorem at_ok {x : GRaw} (h : x.ok) (i : Nat) : GV.i64ok (x.at' i) := by
  obtain ⟨h1, h2, h3, h4, h5, h6⟩ := h
  unfold at'
  split
  · exact h3
  split
  · exact h4
  split
  · exact h5
  · exact h6
end GRaw
def FactsOk (facts : List GRaw) : Prop := (∀ x ∈ facts, x.ok) ∧ facts.length ≤ 100000000000
theorem tdiv_ok {k : Int} (h : GV.i64ok k) (n : Nat) (hn : 2 ≤ n) : GV.i64ok (k.tdiv n) := by
  unfold GV.i64ok at h ⊢
  have h1 : (k.tdiv n).natAbs = k.natAbs / n := by rw [Int.natAbs_tdiv]; rfl
  have h2 : k.natAbs / n * 2 ≤ k.natAbs := Nat.le_trans (Nat.mul_le_mul_left _ hn) (Nat.div_mul_le_self _ _)
  omega
def relR (x : GRaw) : GD := relsD.getD (pickN x.name 6) ⟨⟨#[]⟩, 0⟩
def addrN (n : Nat) : ByteArray := [⟨#[97]⟩, ⟨#[98]⟩, ⟨#[99]⟩, ⟨#[100]⟩].getD n ⟨#[]⟩
def vTn (n : Nat) : GT := .mk 1 (vName n) (.mk 0 0 ⟨#[]⟩ []) []
theorem vT_n (c : Int) : vT c = vTn (pickN c 6) := rfl
def addrT (n : Nat) : GT := .mk 2 ⟨#[]⟩ (.mk 3 0 (addrN n) []) []
def sumT (n : Nat) : GT := .mk 4 ⟨#[43]⟩ (.mk 0 0 ⟨#[]⟩ []) [vTn n, numT 1]
def argR (k : Int) : GT :=
  if pickN k 12 = 9 then numT (pickN (k.tdiv 12) 4) else if pickN k 12 = 10 then addrT (pickN (k.tdiv 12) 3) else if pickN k 12 = 11 then sumT (pickN (k.tdiv 12) 6) else vT k
def argsR (x : GRaw) (n : Nat) : List GT := (List.range n).map fun i => if i = 0 then vT x.n0 else argR (x.at' i)
def atomR (x : GRaw) : List GT := argsR x (relR x).arity.toNat
def tSix : List ByteArray := [⟨#[61, 61]⟩, ⟨#[33, 61]⟩, ⟨#[60]⟩, ⟨#[60, 61]⟩, ⟨#[62]⟩, ⟨#[62, 61]⟩]
def litR (x : GRaw) : GL :=
  if pickN x.kind 8 < 4 then ⟨1, (relR x).name, atomR x⟩
  else if pickN x.kind 8 = 4 then ⟨2, (relR x).name, atomR x⟩
  else if pickN x.kind 8 < 7 then ⟨3, tSix.getD (pickN x.name 6) ⟨#[]⟩, [vT x.n0, if pickN x.n3 2 = 0 then numT (pickN x.n2 4) else vT x.n1]⟩
  else ⟨4, vName (pickN x.n0 6), [.mk 4 (if pickN x.n3 2 = 0 then ⟨#[43]⟩ else ⟨#[45]⟩) (.mk 0 0 ⟨#[]⟩ []) [vT x.n1, if pickN (x.n3.tdiv 2) 2 = 0 then numT 1 else vT x.n2]]⟩
def bodyR (l : List GRaw) : List GL := if l.length ≤ 1 then [litR .zero] else ((l.take 5).drop 1).map litR
def headR (l : List GRaw) : GRaw := l.headD .zero
def aggR (h : GRaw) : Bool := decide (pickN h.kind 5 = 4) && decide (((atomR h)[1]?).map GT.kind = some 1)
def aggN (n : Nat) : ByteArray := if n = 0 then sMin else if n = 1 then sMax else sCount
def ruleR (l : List GRaw) (n : Nat) : GR :=
  ⟨(⟨#[114]⟩ ++ ⟨#[UInt8.ofNat (97 + n)]⟩), (relR (headR l)).name, atomR (headR l), if aggR (headR l) = true then aggN (pickN ((headR l).kind.tdiv 5) 3) else ⟨#[]⟩, if aggR (headR l) = true then 1 else 0, bodyR l⟩
theorem rel_cases (x : GRaw) : ∃ n, n < 6 ∧ pickN x.name 6 = n ∧ relR x = relsD.getD n ⟨⟨#[]⟩, 0⟩ := ⟨_, pickN_lt (by omega), rfl, rfl⟩
theorem rel_arity (x : GRaw) : 1 ≤ (relR x).arity.toNat ∧ (relR x).arity.toNat ≤ 3 ∧ ((relR x).arity.toNat : Int) = (relR x).arity := by
  obtain ⟨n, hn, _, e⟩ := rel_cases x
  rw [e]
  match n, hn with
  | 0, _ => decide
  | 1, _ => decide
  | 2, _ => decide
  | 3, _ => decide
  | 4, _ => decide
  | 5, _ => decide
theorem rel_OK (x : GRaw) : relOK (relR x).name = true := by
  obtain ⟨n, hn, _, e⟩ := rel_cases x
  rw [e]
  match n, hn with
  | 0, _ => decide +kernel
  | 1, _ => decide +kernel
  | 2, _ => decide +kernel
  | 3, _ => decide +kernel
  | 4, _ => decide +kernel
  | 5, _ => decide +kernel
theorem vTn_R : ∀ n, n < 6 → termR 8 (vTn n) = true := by decide +kernel
theorem vT_R (c : Int) : termR 8 (vT c) = true := vTn_R _ (pickN_lt (by omega))
theorem numT_R : ∀ n : Nat, n < 6 → termR 8 (numT n) = true := by decide +kernel
theorem addrT_R : ∀ n, n < 3 → termR 8 (addrT n) = true := by decide +kernel
theorem sumT_R : ∀ n, n < 6 → termR 8 (sumT n) = true := by decide +kernel
theorem argR_R (k : Int) : termR 8 (argR k) = true := by
  unfold argR
  split
  · exact numT_R _ (Nat.lt_of_lt_of_le (pickN_lt (by omega)) (by omega))
  split
  · exact addrT_R _ (pickN_lt (by omega))
  split
  · exact sumT_R _ (pickN_lt (by omega))
  · exact vT_R k
theorem argsR_R (x : GRaw) (n : Nat) : (argsR x n).all (termR 8) = true := by
  rw [List.all_eq_true]
  intro t ht
  obtain ⟨i, _, rfl⟩ := List.mem_map.1 ht
  split
  · exact vT_R _
  · exact argR_R _
@[simp] theorem argsR_len (x : GRaw) (n : Nat) : (argsR x n).length = n := by simp [argsR]
theorem argsR_succ (x : GRaw) (n : Nat) : argsR x (n + 1) = vT x.n0 :: (List.range' 1 n).map fun i => argR (x.at' i) := by
  unfold argsR
  rw [List.range_eq_range', List.range'_succ, List.map_cons]
  simp only [if_true]
  congr 1
  apply List.map_congr_left
  intro i hi
  rw [List.mem_range'_1] at hi
  rw [if_neg (by omega)]
theorem atom_argsB (x : GRaw) : argsB (atomR x) = true := by
  obtain ⟨h1, h2, _⟩ := rel_arity x
  unfold argsB atomR
  have h3 := argsR_R x (relR x).arity.toNat
  have h4 : headOK (argsR x (relR x).arity.toNat) = true := by
    obtain ⟨m, hm⟩ : ∃ m, (relR x).arity.toNat = m + 1 := ⟨_, (Nat.succ_pred_eq_of_pos h1).symm⟩
    rw [hm, argsR_succ]; rfl
  rw [h3, h4, argsR_len]
  simp; omega
theorem vName_OK : ∀ n, n < 6 → varOK (vName n) = true := by decide +kernel
theorem tSix_OK : ∀ n, n < 6 → tOK (tSix.getD n ⟨#[]⟩) = true := by decide +kernel
theorem opT_R : ∀ a, a < 6 → ∀ b, b < 6 → ∀ o, o < 2 → termR 8 (.mk 4 (if o = 0 then ⟨#[43]⟩ else ⟨#[45]⟩) (.mk 0 0 ⟨#[]⟩ []) [vTn a, vTn b]) = true := by decide +kernel
theorem opN_R : ∀ a, a < 6 → ∀ o, o < 2 → termR 8 (.mk 4 (if o = 0 then ⟨#[43]⟩ else ⟨#[45]⟩) (.mk 0 0 ⟨#[]⟩ []) [vTn a, numT 1]) = true := by decide +kernel
theorem litR_B (x : GRaw) : litB (litR x) = true := by
  unfold litR
  split
  · simp [litB, rel_OK, atom_argsB]
  split
  · simp [litB, rel_OK, atom_argsB]
  split
  · have h1 := tSix_OK _ (pickN_lt (c := x.name) (n := 6) (by omega))
    have h2 := numT_R (pickN x.n2 4) (Nat.lt_of_lt_of_le (pickN_lt (by omega)) (by omega))
    have h3 : termR 8 (if pickN x.n3 2 = 0 then numT (pickN x.n2 4) else vT x.n1) = true := by
      split
      · exact h2
      · exact vT_R _
    generalize tSix.getD (pickN x.name 6) ⟨#[]⟩ = o at *
    simp [litB, h1, vT_R, h3]
  · have h1 := vName_OK _ (pickN_lt (c := x.n0) (n := 6) (by omega))
    have h3 : termR 8 (.mk 4 (if pickN x.n3 2 = 0 then ⟨#[43]⟩ else ⟨#[45]⟩) (.mk 0 0 ⟨#[]⟩ []) [vT x.n1, if pickN (x.n3.tdiv 2) 2 = 0 then numT 1 else vT x.n2]) = true := by
      split
      · rename_i h
        split
        · exact opN_R _ (pickN_lt (c := x.n1) (by omega)) 0 (by omega)
        · exact opT_R _ (pickN_lt (c := x.n1) (by omega)) _ (pickN_lt (c := x.n2) (by omega)) 0 (by omega)
      · split
        · exact opN_R _ (pickN_lt (c := x.n1) (by omega)) 1 (by omega)
        · exact opT_R _ (pickN_lt (c := x.n1) (by omega)) _ (pickN_lt (c := x.n2) (by omega)) 1 (by omega)
    simp [litB, h1, h3]
theorem bodyR_len (l : List GRaw) : 1 ≤ (bodyR l).length ∧ (bodyR l).length ≤ 4 := by
  unfold bodyR
  split
  · simp
  · simp; omega
theorem bodyR_mem (l : List GRaw) {y : GL} (h : y ∈ bodyR l) : ∃ x, y = litR x := by
  unfold bodyR at h
  split at h
  · simp at h; exact ⟨_, h⟩
  · obtain ⟨x, _, rfl⟩ := List.mem_map.1 h; exact ⟨x, rfl⟩
theorem label_OK : ∀ n, n < 26 → relOK (⟨#[114]⟩ ++ ⟨#[UInt8.ofNat (97 + n)]⟩) = true := by decide +kernel
theorem aggN_ne (n : Nat) : aggN n ≠ ⟨#[]⟩ := by
  unfold aggN
  split
  · decide
  split <;> decide
theorem ruleR_B (l : List GRaw) (n : Nat) (hn : n < 26) : ruleB (ruleR l n) = true := by
  have h1 := bodyR_len l
  have h2 : (bodyR l).all litB = true := by
    rw [List.all_eq_true]; intro y hy
    obtain ⟨x, rfl⟩ := bodyR_mem l hy
    exact litR_B x
  have h3 : aggB (ruleR l n) = true := by
    unfold aggB ruleR
    by_cases ha : aggR (headR l) = true
    · simp only [ha, if_true, if_neg (aggN_ne _)]
      have h4 : aggN (pickN ((headR l).kind.tdiv 5) 3) = sMin ∨ aggN (pickN ((headR l).kind.tdiv 5) 3) = sMax ∨ aggN (pickN ((headR l).kind.tdiv 5) 3) = sCount := by
        unfold aggN
        split
        · exact .inl rfl
        split
        · exact .inr (.inl rfl)
        · exact .inr (.inr rfl)
      unfold aggR at ha
      simp only [Bool.and_eq_true, decide_eq_true_eq] at ha
      have h5 : 1 < (atomR (headR l)).length := by
        obtain ⟨x, hx, _⟩ := Option.map_eq_some_iff.1 ha.2
        exact (List.getElem?_eq_some_iff.1 hx).1
      simp only [Bool.and_eq_true, decide_eq_true_eq]
      exact ⟨⟨h4, by omega, by omega⟩, ha.2⟩
    · simp [ha]
  have e1 : (ruleR l n).label = (⟨#[114]⟩ ++ ⟨#[UInt8.ofNat (97 + n)]⟩) := rfl
  have e2 : (ruleR l n).head = (relR (headR l)).name := rfl
  have e3 : (ruleR l n).args = atomR (headR l) := rfl
  have e4 : (ruleR l n).body = bodyR l := rfl
  simp only [ruleB, h3, e1, e2, e3, e4, label_OK n hn, rel_OK, atom_argsB, h2, Bool.and_true, Bool.true_and, decide_eq_true_eq]
  omega
end Go.Proofs.YtjfgjnlocadpbaaGreatDoor
end
section
namespace Go.Mach
def LX (N sz : Nat) (σ : Heap) (es : List AV) (x : AV) : Prop :=
  (es = [] ∧ x = .isl [] true) ∨
  (∃ k cs fz, x = .sl k 0 1 sz true ∧ N ≤ k ∧ σ[k]? = some (.cells cs fz false) ∧ cs.length = sz ∧ cs.all AV.clo1 = true ∧ es = [.agg (cs.map AV.nrm)]) ∨
  (∃ k, x = .own k es ∧ N ≤ k ∧ σ[k]? = some (.tok es.length sz) ∧ es.all (okEl sz true) = true)
theorem closeX_idem {σ : Heap} {j off n sz fj : Nat} {ag ej : Bool} {ds : List AV} (hj : σ[j]? = some (.cells ds fj ej)) (hdc : ds.all AV.clo1 = true) : closeX σ (.sl j off n sz ag) = σ := by
  simp only [closeX, hj, hdc, if_true]
theorem appendC_closeX {σ σ1 : Heap} {sz bytes : Nat} {ag : Bool} {s x : AV} (h : closeX σ x = σ1) (h1 : closeX σ1 x = σ1) : appendC σ sz ag bytes false s x = appendC σ1 sz ag bytes false s x := by
  unfold appendC; simp [h, h1]
theorem LX.closeS_len {σ : Heap} (id sz : Nat) : (closeS σ (.sl id 0 1 sz true)).length = σ.length ∧ ∀ i, i ≠ id → (closeS σ (.sl id 0 1 sz true))[i]? = σ[i]? := by
  simp only [closeS]
  split
  · rename_i cs fz ext h
    split
    · exact ⟨by simp, fun i hi => by rw [List.getElem?_set_ne (Ne.symm hi)]⟩
    · exact ⟨rfl, fun _ _ => rfl⟩
  · exact ⟨rfl, fun _ _ => rfl⟩
def LO (N sz : Nat) (ag : Bool) (σ : Heap) (es : List AV) (x : AV) : Prop :=
  (es = [] ∧ x = .isl [] true) ∨ (∃ k, x = .own k es ∧ N ≤ k ∧ σ[k]? = some (.tok es.length sz) ∧ es.all (okEl sz ag) = true)
theorem LO.nil (N sz : Nat) (ag : Bool) (σ : Heap) : LO N sz ag σ [] (.isl [] true) := .inl ⟨rfl, rfl⟩
theorem LO.toLX {N sz : Nat} {σ : Heap} {es : List AV} {x : AV} (h : LO N sz true σ es x) : LX N sz σ es x := by
  rcases h with h | ⟨k, h⟩
  · exact .inl h
  · exact .inr (.inr ⟨k, h⟩)
theorem LO.closeS {N sz : Nat} {ag : Bool} {σ : Heap} {es : List AV} {x : AV} (h : LO N sz ag σ es x) (τ : Heap) : Go.Mach.closeS τ x = τ := by
  rcases h with ⟨_, rfl⟩ | ⟨k, rfl, _⟩ <;> rfl
theorem LO.len {N sz : Nat} {ag : Bool} {σ : Heap} {es : List AV} {x : AV} (h : LO N sz ag σ es x) : lenV false x = some (.int .i64 (es.length : Int)) := by
  rcases h with ⟨rfl, rfl⟩ | ⟨k, rfl, _⟩ <;> simp
theorem LO.solid {N sz : Nat} {ag : Bool} {σ : Heap} {es : List AV} {x : AV} (h : LO N sz ag σ es x) : x.solid = true := by
  rcases h with ⟨rfl, rfl⟩ | ⟨k, rfl, _⟩ <;> rfl
theorem LO.cells {N sz : Nat} {ag : Bool} {σ : Heap} {es : List AV} {x : AV} (h : LO N sz ag σ es x) : x.cells = [x] := by
  rcases h with ⟨rfl, rfl⟩ | ⟨k, rfl, _⟩ <;> rfl
theorem LO.close {N sz : Nat} {ag : Bool} {σ : Heap} {es : List AV} {x : AV} (h : LO N sz ag σ es x) (τ : Heap) : close0 τ x = some (.isl es false, τ) := by
  rcases h with ⟨rfl, rfl⟩ | ⟨k, rfl, _⟩ <;> rfl
theorem LO.close1 {N sz : Nat} {ag : Bool} {σ : Heap} {es : List AV} {x : AV} (h : LO N sz ag σ es x) (τ : Heap) : Go.Mach.close1 τ x = some (.isl es false, τ) := close1_of0 (h.close τ)
theorem LO.closeA {N sz : Nat} {ag : Bool} {σ : Heap} {es : List AV} {x : AV} (h : LO N sz ag σ es x) (τ : Heap) : Go.Mach.closeA τ x = some (.isl es false, τ) := by
  have hc := h.close1 τ
  rcases h with ⟨rfl, rfl⟩ | ⟨k, rfl, _⟩ <;> exact hc
theorem LO.keep {N sz : Nat} {ag : Bool} {σ τ : Heap} {es : List AV} {x : AV} (h : LO N sz ag σ es x) (hk : ∀ i o, N ≤ i → σ[i]? = some o → τ[i]? = some o) : LO N sz ag τ es x := by
  rcases h with h | ⟨k, h1, h2, h3, h4⟩
  · exact .inl h
  · exact .inr ⟨k, h1, h2, hk _ _ h2 h3, h4⟩
theorem LO.at {N sz : Nat} {ag : Bool} {σ : Heap} {es : List AV} {x : AV} (h : LO N sz ag σ es x) {i : Nat} (hi : i < es.length) (hz : (es[i]).cells.length = sz) : iaddrV sz x (.int .i64 (i : Int)) = some (.iptr (es[i]).cells 0) := by
  rcases h with ⟨rfl, rfl⟩ | ⟨k, rfl, _⟩
  · simp at hi
  · simp [hi, hz]
theorem app_any0 {σ0 σ σ1 : Heap} {j sz bytes fj N : Nat} {ej : Bool} {ds : List AV} {es : List AV} {x : AV}
    (hX : closeX σ (.sl j 0 1 sz true) = σ1) (hj : σ1[j]? = some (.cells ds fj ej)) (hd : ds.length = sz) (hdc : ds.all AV.clo1 = true) (h0 : 0 < sz) (hb : bytes ≤ 1000)
    (hx : LX N sz σ0 es x) (hσ : ∀ i, i < σ0.length → σ1[i]? = σ0[i]?) (hj0 : σ0.length ≤ j) (hN : N ≤ σ0.length) (hl : es.length ≤ 1000000000) :
    ∃ x' σ', appendC σ sz true bytes false x (.sl j 0 1 sz true) = some (x', σ') ∧ LO N sz true σ' (es ++ [.agg (ds.map AV.nrm)]) x' ∧ σ1.length ≤ σ'.length ∧ ∀ i o, σ0[i]? = some o → (i < N ∨ ((∀ n, o ≠ .tok n sz) ∧ ∀ cs fz, o = .cells cs fz false → cs.length ≠ sz)) → σ'[i]? = some o := by
  have hjl : j < σ1.length := (List.getElem?_eq_some_iff.1 hj).1
  rw [appendC_closeX hX (closeX_idem hj hdc)]
  have o2 : okEl sz true (.agg (ds.map AV.nrm)) = true := by simp only [okEl, AV.clo, nrm_all hdc, AV.cells, List.length_map, hd, decide_true, Bool.and_self]
  rcases hx with ⟨rfl, rfl⟩ | ⟨k, cs, fz, rfl, hkN, hk, hcl, hcc, rfl⟩ | ⟨k, rfl, hkN, hk, hes⟩
  · refine ⟨.own σ1.length [.agg (ds.map AV.nrm)], σ1 ++ [.tok 1 sz], by rw [appendC_clo hj hdc]; exact app_ag hj hd hdc h0 hb (app1_nil ..), .inr ⟨σ1.length, rfl, by omega, by simp, by simp [o2]⟩, by simp, fun i o hi h12 => ?_⟩
    have hil := (List.getElem?_eq_some_iff.1 hi).1
    rw [List.getElem?_append_left (by omega), hσ i hil]; exact hi
  · have hkl : k < σ0.length := (List.getElem?_eq_some_iff.1 hk).1
    have hk1 : σ1[k]? = some (.cells cs fz false) := by rw [hσ k hkl]; exact hk
    obtain ⟨c1, c2⟩ := LX.closeS_len (σ := σ1) k sz
    have o1 : okEl sz true (.agg (cs.map AV.nrm)) = true := by simp only [okEl, AV.clo, nrm_all hcc, AV.cells, List.length_map, hcl, decide_true, Bool.and_self]
    refine ⟨_, _, app_slC hk1 hj (by omega) hcl hd hcc hdc h0 hb, .inr ⟨σ1.length, rfl, by omega, ?_, by simp [o1, o2]⟩, by simp [c1], fun i o hi h12 => ?_⟩
    · rw [← c1]; simp
    · have hil := (List.getElem?_eq_some_iff.1 hi).1
      have hne : i ≠ k := by
        rintro rfl
        rw [hk] at hi; injection hi with hi
        rcases h12 with h | ⟨_, h2⟩
        · omega
        · exact h2 cs fz hi.symm hcl
      rw [List.getElem?_append_left (by rw [c1]; omega), c2 i hne, hσ i hil]; exact hi
  · have hkl : k < σ0.length := (List.getElem?_eq_some_iff.1 hk).1
    have hk1 : σ1[k]? = some (.tok es.length sz) := by rw [hσ k hkl]; exact hk
    refine ⟨.own k (es ++ [.agg (ds.map AV.nrm)]), σ1.set k (.tok (es.length + 1) sz), by rw [appendC_clo hj hdc]; exact app_ag hj hd hdc h0 hb (app1_own hes (by omega) hk1), .inr ⟨k, rfl, hkN, ?_, by simp [List.all_append, hes, o2]⟩, by simp, fun i o hi h12 => ?_⟩
    · rw [list_set_at (by omega)]; simp
    · have hil := (List.getElem?_eq_some_iff.1 hi).1
      have hne : i ≠ k := by
        rintro rfl
        rw [hk] at hi; injection hi with hi
        rcases h12 with h | ⟨h1, _⟩
        · omega
        · exact h1 _ hi.symm
      rw [List.getElem?_set_ne (Ne.symm hne), hσ i hil]; exact hi
theorem LX.other {N sz sz2 : Nat} {σ0 σ' : Heap} {es2 : List AV} {y : AV} (hne : sz2 ≠ sz) (h : LX N sz2 σ0 es2 y) (hk : ∀ i o, σ0[i]? = some o → (i < N ∨ ((∀ n, o ≠ .tok n sz) ∧ ∀ cs fz, o = .cells cs fz false → cs.length ≠ sz)) → σ'[i]? = some o) : LX N sz2 σ' es2 y := by
  rcases h with h | ⟨k, cs, fz, h1, h2, h3, h4, h5⟩ | ⟨k, h1, h2, h3, h4⟩
  · exact .inl h
  · exact .inr (.inl ⟨k, cs, fz, h1, h2, hk _ _ h3 (.inr ⟨fun n e => (by cases e), fun cs' fz' e => (by injection e with e1; subst e1; omega)⟩), h4, h5⟩)
  · exact .inr (.inr ⟨k, h1, h2, hk _ _ h3 (.inr ⟨fun n e => (by injection e with e1 e2; exact hne e2), fun cs' fz' e => (by cases e)⟩), h4⟩)
theorem LO.other {N sz sz2 : Nat} {σ0 σ' : Heap} {es2 : List AV} {y : AV} (hne : sz2 ≠ sz) (h : LO N sz2 true σ0 es2 y) (hk : ∀ i o, σ0[i]? = some o → (i < N ∨ ((∀ n, o ≠ .tok n sz) ∧ ∀ cs fz, o = .cells cs fz false → cs.length ≠ sz)) → σ'[i]? = some o) : LO N sz2 true σ' es2 y := by
  rcases h with h | ⟨k, h1, h2, h3, h4⟩
  · exact .inl h
  · exact .inr ⟨k, h1, h2, hk _ _ h3 (.inr ⟨fun n e => (by injection e with e1 e2; exact hne e2), fun cs' fz' e => (by cases e)⟩), h4⟩
theorem app_any {σ0 σ σ1 : Heap} {j sz bytes fj N : Nat} {ej : Bool} {ds : List AV} {es : List AV} {x : AV}
    (hX : closeX σ (.sl j 0 1 sz true) = σ1) (hj : σ1[j]? = some (.cells ds fj ej)) (hd : ds.length = sz) (hdc : ds.all AV.clo1 = true) (h0 : 0 < sz) (hb : bytes ≤ 1000)
    (hx : LX N sz σ0 es x) (hσ : ∀ i, i < σ0.length → σ1[i]? = σ0[i]?) (hj0 : σ0.length ≤ j) (hN : N ≤ σ0.length) (hl : es.length ≤ 1000000000) :
    ∃ x' σ', appendC σ sz true bytes false x (.sl j 0 1 sz true) = some (x', σ') ∧ LX N sz σ' (es ++ [.agg (ds.map AV.nrm)]) x' ∧ σ1.length ≤ σ'.length ∧ (∀ i, i < N → σ'[i]? = σ0[i]?) ∧ ∀ sz2 es2 y, sz2 ≠ sz → LX N sz2 σ0 es2 y → LX N sz2 σ' es2 y := by
  obtain ⟨x', σ', h1, h2, h3, h4⟩ := app_any0 (bytes := bytes) hX hj hd hdc h0 hb hx hσ hj0 hN hl
  exact ⟨x', σ', h1, h2.toLX, h3, fun i hi => by rw [h4 i _ (List.getElem?_eq_getElem (by omega)) (.inl hi), List.getElem?_eq_getElem], fun sz2 es2 y hne hy => hy.other hne h4⟩
theorem LX.len {N sz : Nat} {σ : Heap} {es : List AV} {x : AV} (h : LX N sz σ es x) : lenV false x = some (.int .i64 (es.length : Int)) := by
  rcases h with ⟨rfl, rfl⟩ | ⟨k, cs, fz, rfl, _, _, _, _, rfl⟩ | ⟨k, rfl, _⟩ <;> simp
theorem LX.solid {N sz : Nat} {σ : Heap} {es : List AV} {x : AV} (h : LX N sz σ es x) : x.solid = true := by
  rcases h with ⟨rfl, rfl⟩ | ⟨k, cs, fz, rfl, _⟩ | ⟨k, rfl, _⟩ <;> rfl
theorem LX.cells {N sz : Nat} {σ : Heap} {es : List AV} {x : AV} (h : LX N sz σ es x) : x.cells = [x] := by
  rcases h with ⟨rfl, rfl⟩ | ⟨k, cs, fz, rfl, _⟩ | ⟨k, rfl, _⟩ <;> rfl
theorem LX.keep {N sz : Nat} {σ τ : Heap} {es : List AV} {x : AV} (h : LX N sz σ es x) (hk : ∀ i o, N ≤ i → σ[i]? = some o → τ[i]? = some o) : LX N sz τ es x := by
  rcases h with h | ⟨k, cs, fz, h1, h2, h3, h4⟩ | ⟨k, h1, h2, h3, h4⟩
  · exact .inl h
  · exact .inr (.inl ⟨k, cs, fz, h1, h2, hk _ _ h2 h3, h4⟩)
  · exact .inr (.inr ⟨k, h1, h2, hk _ _ h2 h3, h4⟩)
theorem close0_one {σ : Heap} {k sz fz : Nat} {ext : Bool} {cs : List AV} (hk : σ[k]? = some (.cells cs fz ext)) (hl : cs.length = sz) (hc : cs.all AV.clo1 = true) : close0 σ (.sl k 0 1 sz true) = some (.isl [.agg (cs.map AV.nrm)] false, frz σ k sz) := by
  subst hl
  have hw : window cs 0 cs.length = some cs := window_full rfl
  have hc2 : ¬ (1 : Nat) = 0 := by decide
  simp only [close0, if_neg hc2, hk, Nat.one_mul, Nat.zero_add, hw, Option.bind_some, hc, if_true]
  have ht : List.take cs.length (List.map AV.nrm cs) = List.map AV.nrm cs := List.take_of_length_le (by simp)
  simp [chunk, mk, ht]
theorem LX.frz {N sz k m : Nat} {σ : Heap} {es : List AV} {y : AV} (h : LX N sz σ es y) : LX N sz (Go.Mach.frz σ k m) es y := by
  unfold Go.Mach.frz
  split
  · rename_i cs0 fz0 ext0 h0
    have hk := (List.getElem?_eq_some_iff.1 h0).1
    rcases h with h | ⟨j, cs, fz, h1, h2, h3, h4⟩ | ⟨j, h1, h2, h3, h4⟩
    · exact .inl h
    · by_cases e : k = j
      · subst e
        rw [h0] at h3; injection h3 with h3; injection h3 with e1 e2 e3; subst e1 e3
        exact .inr (.inl ⟨k, cs0, _, h1, h2, list_set_at hk, h4⟩)
      · exact .inr (.inl ⟨j, cs, fz, h1, h2, by rw [List.getElem?_set_ne e]; exact h3, h4⟩)
    · have e : k ≠ j := by rintro rfl; rw [h0] at h3; cases h3
      exact .inr (.inr ⟨j, h1, h2, by rw [List.getElem?_set_ne e]; exact h3, h4⟩)
  · exact h
theorem LX.close {N sz : Nat} {σ : Heap} {es : List AV} {x : AV} (h : LX N sz σ es x) : ∃ σ', close0 σ x = some (.isl es false, σ') ∧ σ'.length = σ.length ∧ (∀ i, i < N → σ'[i]? = σ[i]?) ∧ ∀ N2 sz2 es2 y, LX N2 sz2 σ es2 y → LX N2 sz2 σ' es2 y := by
  rcases h with ⟨rfl, rfl⟩ | ⟨k, cs, fz, rfl, hN, hk, hl, hc, rfl⟩ | ⟨k, rfl, _⟩
  · exact ⟨σ, rfl, rfl, fun _ _ => rfl, fun _ _ _ _ h => h⟩
  · refine ⟨_, close0_one hk hl hc, ?_, fun i hi => ?_, fun _ _ _ _ h => h.frz⟩
    · simp only [Go.Mach.frz, hk, List.length_set]
    · simp only [Go.Mach.frz, hk]; rw [List.getElem?_set_ne (by omega)]
  · exact ⟨σ, rfl, rfl, fun _ _ => rfl, fun _ _ _ _ h => h⟩
theorem LX.closeA {N sz : Nat} {σ : Heap} {es : List AV} {x : AV} (h : LX N sz σ es x) : ∃ σ', Go.Mach.closeA σ x = some (.isl es false, σ') ∧ σ'.length = σ.length ∧ ∀ i, i < N → σ'[i]? = σ[i]? := by
  obtain ⟨σ', h1, h2, h3, _⟩ := h.close
  refine ⟨σ', ?_, h2, h3⟩
  rcases h with ⟨rfl, rfl⟩ | ⟨k, cs, fz, rfl, hN, hk, hl, hc, rfl⟩ | ⟨k, rfl, _⟩ <;> exact close1_of0 h1
theorem chkO_l (ρ : Regs) (σ σ' : Heap) (l : List AX) : (chkO ρ σ σ' l = some ()) = ∀ x ∈ l, objOf σ (ev ρ x) = objOf σ' (ev ρ x) := by
  apply propext
  constructor
  · exact fun h => chkO_some h
  · intro h
    unfold chkO
    rw [if_pos (List.all_eq_true.2 fun x hx => (sameO_iff _ _).2 (h x hx))]
theorem LO.isl {N sz bytes : Nat} {ag b : Bool} {σ : Heap} {es : List AV} {x : AV} (h : LO N sz ag σ es x) (ys : List AV) (hok : ys.all (okEl sz ag) = true) (hl : es.length + ys.length ≤ 1000000000) (h0 : 0 < sz) (hb : bytes ≤ 1000) (hN : N ≤ σ.length) :
    ∃ x' σ', appendA σ sz ag bytes false x (.isl ys b) = some (x', σ') ∧ LO N sz ag σ' (es ++ ys) x' ∧ σ.length ≤ σ'.length ∧ ∀ i, i < N → σ'[i]? = σ[i]? := by
  cases ys with
  | nil =>
    refine ⟨x, σ, ?_, by simpa using h, Nat.le_refl _, fun _ _ => rfl⟩
    rcases h with ⟨_, rfl⟩ | ⟨k, rfl, _⟩ <;> simp [appendA, elemsN, elemsA, isSl]
  | cons y ys =>
    have hn : ¬ (sz = 0 ∨ (es.length + (y :: ys).length) * bytes > 70368744177664 ∨ es.length + (y :: ys).length > 70368744177664) := by
      have : (es.length + (y :: ys).length) * bytes ≤ 1000000000 * 1000 := Nat.mul_le_mul hl hb
      omega
    have hne : (y :: ys) ≠ [] := by simp
    have he2 : elemsN σ sz ag (.isl (y :: ys) b) = some (y :: ys) := rfl
    rcases h with ⟨rfl, rfl⟩ | ⟨k, rfl, hkN, ht, hes⟩
    · refine ⟨.own σ.length (y :: ys), σ ++ [.tok (y :: ys).length sz], ?_, .inr ⟨σ.length, by simp, hN, by simp, hok⟩, by simp, fun j hj => by rw [List.getElem?_append_left (by omega)]⟩
      have he1 : elemsA σ sz ag (.isl [] true) = some [] := rfl
      simp only [List.length_nil] at hn
      simp only [appendA, he1, he2, Option.bind_some, isSl, if_neg hne, List.length_nil, if_neg hn, hok, Bool.false_eq_true, if_false]
      simp
    · have hk := (List.getElem?_eq_some_iff.1 ht).1
      refine ⟨.own k (es ++ y :: ys), σ.set k (.tok (es ++ y :: ys).length sz), ?_, .inr ⟨k, rfl, hkN, list_set_at hk, by rw [List.all_append, hes, hok]; rfl⟩, by simp, fun j hj => by rw [List.getElem?_set_ne (by omega)]⟩
      have he1 : elemsA σ sz ag (.own k es) = some es := rfl
      simp only [appendA, he1, he2, Option.bind_some, isSl, if_neg hne, ht, hok, hes, Bool.false_eq_true, if_false]
      rw [if_neg hn]
      simp
section
variable {T : Tab} {bs n : Nat}
theorem stW_appX {σ0 σ σ1 : Heap} {j sz bytes fj N : Nat} {ej : Bool} {ds : List AV} {es : List AV} {x : AV} {d : Option Nat} {os : List AOper} {k : List Fr} {f : FR} {τ : Heap} {Q : AExit → FR → Heap → Prop}
    (hX : closeX σ (.sl j 0 1 sz true) = σ1) (hj : σ1[j]? = some (.cells ds fj ej)) (hd : ds.length = sz) (hdc : ds.all AV.clo1 = true) (h0 : 0 < sz) (hb : bytes ≤ 1000)
    (hx : LX N sz σ0 es x) (hσ : ∀ i, i < σ0.length → σ1[i]? = σ0[i]?) (hj0 : σ0.length ≤ j) (hN : N ≤ σ0.length) (hl : es.length ≤ 1000000000)
    (h : ∀ x' σ', LX N sz σ' (es ++ [.agg (ds.map AV.nrm)]) x' → σ1.length ≤ σ'.length → (∀ i, i < N → σ'[i]? = σ0[i]?) → wpK T bs n (.ops os :: k) (updO f d x') σ' Q) :
    stW T bs n (appendC σ sz true bytes false x (.sl j 0 1 sz true)) d [] os k f τ Q := by
  obtain ⟨x', σ', h1, h2, h3, h4, _⟩ := app_any (bytes := bytes) hX hj hd hdc h0 hb hx hσ hj0 hN hl
  rw [h1]
  exact ⟨rfl, h x' σ' h2 h3 h4⟩
theorem stW_app1 {σ0 : Heap} {sz bytes fj N : Nat} {ej : Bool} {ds : List AV} {es : List AV} {x : AV} {d : Option Nat} {os : List AOper} {k : List Fr} {f : FR} {τ : Heap} {Q : AExit → FR → Heap → Prop}
    (hx : LX N sz σ0 es x) (hd : ds.length = sz) (hdc : ds.all AV.clo1 = true) (h0 : 0 < sz) (hb : bytes ≤ 1000) (hN : N ≤ σ0.length) (hl : es.length ≤ 1000000000)
    (h : ∀ x' σ', LX N sz σ' (es ++ [.agg (ds.map AV.nrm)]) x' → σ0.length + 1 ≤ σ'.length → (∀ i, i < N → σ'[i]? = σ0[i]?) → wpK T bs n (.ops os :: k) (updO f d x') σ' Q) :
    stW T bs n (appendC (σ0 ++ [.cells ds fj ej]) sz true bytes false x (.sl σ0.length 0 1 sz true)) d [] os k f τ Q := by
  have hj : (σ0 ++ [.cells ds fj ej])[σ0.length]? = some (.cells ds fj ej) := List.getElem?_concat_length
  exact stW_appX (closeX_idem hj hdc) hj hd hdc h0 hb hx (fun i hi => List.getElem?_append_left hi) (Nat.le_refl _) hN hl fun x' σ' h1 h2 h3 => h x' σ' h1 (by simpa using h2) h3
def LastOk (y z : AV) : Prop := (y.clo1 = true ∧ y.nrm = z) ∨ ∃ k ys, y = .own k ys ∧ z = .isl ys false
theorem LastOk.isl (es : List AV) (b : Bool) : LastOk (.isl es b) (.isl es false) := .inl ⟨rfl, rfl⟩
def preOk (pre : List AV) : Bool := pre.all fun v => match v with | .isl _ true => false | .isl _ _ | .int _ _ | .str _ | .bool _ => true | _ => false
theorem preOk_clo {pre : List AV} (h : preOk pre = true) : pre.all AV.clo1 = true ∧ pre.map AV.nrm = pre ∧ ∀ (y z : AV) (τ : Heap), Go.Mach.close1 τ y = some (z, τ) → closeL τ (pre ++ [y]) = some (pre ++ [z], τ) := by
  unfold preOk at h
  refine ⟨?_, ?_, ?_⟩
  · rw [List.all_eq_true] at h ⊢
    intro v hv
    have := h v hv
    cases v <;> first | rfl | cases this
  · rw [List.map_congr_left (g := fun y => y) (fun x hx => ?_), List.map_id']
    have := (List.all_eq_true.1 h) x hx
    cases x with
    | isl es b => cases b with
      | true => cases this
      | false => rfl
    | _ => rfl
  · intro y z τ hy
    induction pre with
    | nil => simp only [List.nil_append, closeL, hy, Option.bind_some, Option.map_some]
    | cons v l ih =>
      simp only [List.all_cons, Bool.and_eq_true] at h
      have hv : Go.Mach.close1 τ v = some (v, τ) := by
        have h1 := h.1
        cases v with
        | isl es b => cases b with
          | true => cases h1
          | false => rfl
        | int _ _ => rfl
        | str _ => rfl
        | bool _ => rfl
        | _ => cases h1
      simp only [List.cons_append, closeL, hv, Option.bind_some, ih h.2, Option.map_some]
theorem list_set_same {σ : Heap} {i : Nat} {o : AObj} (h : σ[i]? = some o) : σ.set i o = σ := by
  apply List.ext_getElem?
  intro j
  by_cases e : i = j
  · subst e
    rw [list_set_at (List.getElem?_eq_some_iff.1 h).1, h]
  · rw [List.getElem?_set_ne e]
theorem closeX_at {j sz : Nat} {σ : Heap} {pre : List AV} {y z : AV} (hj : σ[j]? = some (.cells (pre ++ [y]) 0 false)) (hpre : preOk pre = true) (hy : LastOk y z) :
    ∃ y', closeX σ (.sl j 0 1 sz true) = σ.set j (.cells (pre ++ [y']) 0 false) ∧ (pre ++ [y']).all AV.clo1 = true ∧ (pre ++ [y']).map AV.nrm = pre ++ [z] := by
  obtain ⟨hp1, hp2, hp3⟩ := preOk_clo hpre
  have hjl := (List.getElem?_eq_some_iff.1 hj).1
  rcases hy with ⟨hc, rfl⟩ | ⟨k, ys, rfl, rfl⟩
  · have hall : (pre ++ [y]).all AV.clo1 = true := by rw [List.all_append, hp1]; simp [hc]
    refine ⟨y, ?_, hall, by simp [hp2]⟩
    rw [closeX_idem hj hall, list_set_same hj]
  · have h1 : (pre ++ [AV.own k ys]).all AV.clo1 = false := by rw [List.all_append]; simp [AV.clo1]
    have h3 : (pre ++ [AV.isl ys false]).all AV.clo1 = true ∧ (pre ++ [AV.own k ys]).length = (pre ++ [AV.isl ys false]).length := ⟨by rw [List.all_append, hp1]; rfl, by simp⟩
    refine ⟨.isl ys false, ?_, h3.1, by simp [hp2, AV.nrm]⟩
    simp only [closeX, hj, h1, hp3 (.own k ys) (.isl ys false) σ rfl, h3, and_self, if_true, Bool.false_eq_true, if_false]
def okRef (N : Nat) : AV → Bool
  | .ptr id _ | .map id | .sl id _ _ _ _ => decide (id < N)
  | _ => true
theorem okRef_obj {σ σ' : Heap} {v : AV} (h : okRef σ.length v = true) (hk : ∀ i, i < σ.length → σ'[i]? = σ[i]?) : objOf σ v = objOf σ' v := by
  cases v <;> first | rfl | exact (hk _ (of_decide_eq_true h)).symm
theorem stW_mk {σ : Heap} {A : List AV} {b ag : Bool} {sz bytes : Nat} {d : Option Nat} {chk : List AX} {os : List AOper} {k : List Fr} {f : FR} {Q : AExit → FR → Heap → Prop}
    (hok : A.all (okEl sz ag) = true) (hl : A.length ≤ 1000000000) (h0 : 0 < sz) (hb : bytes ≤ 1000)
    (hchk : ∀ x ∈ chk, okRef σ.length (evF n f x) = true)
    (h : ∀ x' σ', LO σ.length sz ag σ' A x' → σ.length ≤ σ'.length → (∀ i, i < σ.length → σ'[i]? = σ[i]?) → wpK T bs n (.ops os :: k) (updO f d x') σ' Q) :
    stW T bs n (appendA σ sz ag bytes false (.isl [] true) (.isl A b)) d chk os k f σ Q := by
  obtain ⟨x', σ', h1, h2, h3, h4⟩ := (LO.nil σ.length sz ag σ).isl (bytes := bytes) (b := b) A hok (by simpa using hl) h0 hb (Nat.le_refl _)
  rw [h1]
  refine ⟨?_, h x' σ' (by simpa using h2) h3 h4⟩
  rw [chkO_l]
  intro x hx
  rw [ev_lst]
  exact okRef_obj (hchk x hx) h4
theorem stW_rec {σ : Heap} {j N sz bytes : Nat} {pre es : List AV} {x y z : AV} {d : Option Nat} {os : List AOper} {k : List Fr} {f : FR} {τ : Heap} {Q : AExit → FR → Heap → Prop}
    (hx : LO N sz true σ es x) (hj : σ[j]? = some (.cells (pre ++ [y]) 0 false)) (hpre : preOk pre = true) (hy : LastOk y z) (hd : (pre ++ [y]).length = sz) (h0 : 0 < sz) (hb : bytes ≤ 1000) (hN : N ≤ σ.length) (hl : es.length ≤ 1000000000)
    (h : ∀ x' σ', LO N sz true σ' (es ++ [.agg (pre ++ [z])]) x' → σ.length ≤ σ'.length → (∀ i, i < N → i ≠ j → σ'[i]? = σ[i]?) → wpK T bs n (.ops os :: k) (updO f d x') σ' Q) :
    stW T bs n (appendC σ sz true bytes false x (.sl j 0 1 sz true)) d [] os k f τ Q := by
  obtain ⟨y', hX, hcy, hny⟩ := closeX_at (sz := sz) hj hpre hy
  have hjl := (List.getElem?_eq_some_iff.1 hj).1
  have hj1 : (σ.set j (.cells (pre ++ [y']) 0 false))[j]? = some (.cells (pre ++ [y']) 0 false) := list_set_at hjl
  have hlen : (pre ++ [y']).length = sz := by rw [← hd]; simp
  have o2 : okEl sz true (.agg (pre ++ [z])) = true := by
    have := nrm_all hcy
    rw [hny] at this
    have hl2 : (pre ++ [z]).length = sz := by rw [← hd]; simp
    simp only [okEl, AV.clo, this, AV.cells, hl2, decide_true, Bool.and_self]
  rw [appendC_closeX hX (closeX_idem hj1 hcy), appendC_clo hj1 hcy]
  rcases hx with ⟨rfl, rfl⟩ | ⟨m, rfl, hmN, hm, hes⟩
  · have := app_ag (σ := σ.set j (.cells (pre ++ [y']) 0 false)) (bytes := bytes) hj1 hlen hcy h0 hb (app1_nil ..)
    simp only [closeS_isl]
    rw [this, hny]
    refine ⟨rfl, h _ _ (.inr ⟨_, rfl, by simp; omega, by simp, by simp [o2]⟩) (by simp) fun i hi hne => ?_⟩
    rw [List.getElem?_append_left (by simp; omega), List.getElem?_set_ne (Ne.symm hne)]
  · have hmj : j ≠ m := by rintro rfl; rw [hj] at hm; cases hm
    have hm1 : (σ.set j (.cells (pre ++ [y']) 0 false))[m]? = some (.tok es.length sz) := by rw [List.getElem?_set_ne hmj]; exact hm
    have hml := (List.getElem?_eq_some_iff.1 hm).1
    have := app_ag (bytes := bytes) hj1 hlen hcy h0 hb (app1_own hes (by omega) hm1)
    simp only [closeS_own]
    rw [this, hny]
    refine ⟨rfl, h _ _ (.inr ⟨m, rfl, hmN, by rw [list_set_at (by simp; omega)]; simp, by simp [List.all_append, hes, o2]⟩) (by simp) fun i hi hne => ?_⟩
    rw [List.getElem?_set_ne (by omega), List.getElem?_set_ne (Ne.symm hne)]
theorem stW_app2 {σ0 : Heap} {o : AObj} {sz bytes fj N : Nat} {ej : Bool} {ds : List AV} {es : List AV} {x : AV} {d : Option Nat} {os : List AOper} {k : List Fr} {f : FR} {τ : Heap} {Q : AExit → FR → Heap → Prop}
    (hx : LX N sz σ0 es x) (hd : ds.length = sz) (hdc : ds.all AV.clo1 = true) (h0 : 0 < sz) (hb : bytes ≤ 1000) (hN : N ≤ σ0.length) (hl : es.length ≤ 1000000000)
    (h : ∀ x' σ', LX N sz σ' (es ++ [.agg (ds.map AV.nrm)]) x' → σ0.length + 2 ≤ σ'.length → (∀ i, i < N → σ'[i]? = σ0[i]?) → wpK T bs n (.ops os :: k) (updO f d x') σ' Q) :
    stW T bs n (appendC (σ0 ++ [o, .cells ds fj ej]) sz true bytes false x (.sl (σ0.length + 1) 0 1 sz true)) d [] os k f τ Q := by
  have hj : (σ0 ++ [o, .cells ds fj ej])[σ0.length + 1]? = some (.cells ds fj ej) := by simp
  exact stW_appX (closeX_idem hj hdc) hj hd hdc h0 hb hx (fun i hi => List.getElem?_append_left hi) (by omega) hN hl fun x' σ' h1 h2 h3 => h x' σ' h1 (by simpa using h2) h3
end
end Go.Mach
end
section
namespace Go.Mach
def apart (x y : AV) : Prop := ∀ k es es2, x = .own k es → y ≠ .own k es2
theorem apart.symm {x y : AV} (h : apart x y) : apart y x := fun k es es2 h1 h2 => h k es2 es h2 h1
section
variable {T : Tab} {bs n : Nat}
theorem stW_s1 {σ0 : Heap} {v : AV} {bytes fj N : Nat} {ej : Bool} {es : List AV} {x : AV} {d : Option Nat} {os : List AOper} {k : List Fr} {f : FR} {τ : Heap} {Q : AExit → FR → Heap → Prop}
    (hx : LO N 1 false σ0 es x) (hv : v.clo1 = true) (hok : okEl 1 false v = true) (hnr : v.nrm = v) (hb : bytes ≤ 1000) (hN : N ≤ σ0.length) (hl : es.length ≤ 1000000000)
    (h : ∀ x' σ', LO N 1 false σ' (es ++ [v]) x' → σ0.length + 1 ≤ σ'.length → (∀ i, i < N → σ'[i]? = σ0[i]?) → (∀ (i : Nat) (o : AObj), σ0[i]? = some o → (∀ n s, o ≠ .tok n s) → σ'[i]? = some o) → wpK T bs n (.ops os :: k) (updO f d x') σ' Q) :
    stW T bs n (appendC (σ0 ++ [.cells [v] fj ej]) 1 false bytes false x (.sl σ0.length 0 1 1 false)) d [] os k f τ Q := by
  have hj : (σ0 ++ [.cells [v] fj ej])[σ0.length]? = some (.cells [v] fj ej) := List.getElem?_concat_length
  have hall : [v].all AV.clo1 = true := by simp [hv]
  rw [appendC_clo hj hall]
  have e2 : elemsN (σ0 ++ [.cells [v] fj ej]) 1 false (.sl σ0.length 0 1 1 false) = some [v] := by rw [elemsN_s1 hj, hnr]
  rcases hx with ⟨rfl, rfl⟩ | ⟨m, rfl, hmN, hm, hes⟩
  · have := app1_eq (bytes := bytes) e2 hok (by omega) hb (app1_nil ..)
    simp only [closeS_isl]
    rw [this]
    refine ⟨rfl, h _ _ (.inr ⟨_, rfl, by simp; omega, by simp, by simp [hok]⟩) (by simp) (fun i hi => ?_) fun i o ho _ => ?_⟩
    · rw [List.getElem?_append_left (by simp; omega), List.getElem?_append_left (by omega)]
    · have := (List.getElem?_eq_some_iff.1 ho).1
      rw [List.getElem?_append_left (by simp; omega), List.getElem?_append_left this]; exact ho
  · have hml := (List.getElem?_eq_some_iff.1 hm).1
    have hm1 : (σ0 ++ [AObj.cells [v] fj ej])[m]? = some (.tok es.length 1) := by rw [List.getElem?_append_left hml]; exact hm
    have := app1_eq (bytes := bytes) e2 hok (by omega) hb (app1_own hes (by omega) hm1)
    simp only [closeS_own]
    rw [this]
    refine ⟨rfl, h _ _ (.inr ⟨m, rfl, hmN, by rw [list_set_at (by simp; omega)]; simp, by simp [List.all_append, hes, hok]⟩) (by simp) (fun i hi => ?_) fun i o ho hno => ?_⟩
    · rw [List.getElem?_set_ne (by omega), List.getElem?_append_left (by omega)]
    · have hne : m ≠ i := by rintro rfl; rw [hm] at ho; injection ho with ho; exact hno _ _ ho.symm
      rw [List.getElem?_set_ne hne, List.getElem?_append_left (List.getElem?_eq_some_iff.1 ho).1]; exact ho
theorem stW_s3 {σ0 : Heap} {o1 o2 : AObj} {v : AV} {bytes fj N : Nat} {ej : Bool} {es : List AV} {x : AV} {d : Option Nat} {os : List AOper} {k : List Fr} {f : FR} {τ : Heap} {Q : AExit → FR → Heap → Prop}
    (hx : LO N 1 false σ0 es x) (hv : v.clo1 = true) (hok : okEl 1 false v = true) (hnr : v.nrm = v) (hb : bytes ≤ 1000) (hN : N ≤ σ0.length) (hl : es.length ≤ 1000000000)
    (h : ∀ x' σ', LO N 1 false σ' (es ++ [v]) x' → σ0.length + 3 ≤ σ'.length → (∀ i, i < N → σ'[i]? = σ0[i]?) → (∀ (i : Nat) (o : AObj), (σ0 ++ [o1, o2])[i]? = some o → (∀ n s, o ≠ .tok n s) → σ'[i]? = some o) → wpK T bs n (.ops os :: k) (updO f d x') σ' Q) :
    stW T bs n (appendC (σ0 ++ [o1, o2, .cells [v] fj ej]) 1 false bytes false x (.sl (σ0.length + 2) 0 1 1 false)) d [] os k f τ Q := by
  have e1 : σ0 ++ [o1, o2, .cells [v] fj ej] = (σ0 ++ [o1, o2]) ++ [.cells [v] fj ej] := by simp
  have e2 : σ0.length + 2 = (σ0 ++ [o1, o2]).length := by simp
  rw [e1, e2]
  exact stW_s1 (hx.keep fun i q _ hi => by rw [List.getElem?_append_left (List.getElem?_eq_some_iff.1 hi).1]; exact hi) hv hok hnr hb (by simp; omega) hl fun x' σ' h1 h2 h3 h4 => h x' σ' h1 (by simp at h2; omega) (fun i hi => by rw [h3 i hi, List.getElem?_append_left (by omega)]) h4
end
end Go.Mach
end
section
namespace Go.Mach
variable {T : Tab} {bs n : Nat}
theorem frz_get {σ : Heap} {k m i : Nat} (h : i ≠ k) : (frz σ k m)[i]? = σ[i]? := by
  unfold frz
  cases hk : σ[k]? with
  | none => rfl
  | some o =>
    cases o with
    | cells cs fz ext => show (σ.set k _)[i]? = _; rw [List.getElem?_set_ne (by omega)]
    | _ => rfl
theorem frz_len (σ : Heap) (k m : Nat) : (frz σ k m).length = σ.length := by
  unfold frz
  cases hk : σ[k]? with
  | none => rfl
  | some o =>
    cases o with
    | cells cs fz ext => simp
    | _ => rfl
theorem closeL_pre {pre : List AV} (h : preOk pre = true) : ∀ (σ : Heap) (y z : AV) (τ : Heap), Go.Mach.close1 σ y = some (z, τ) → closeL σ (pre ++ [y]) = some (pre ++ [z], τ) := by
  intro σ y z τ hy
  unfold preOk at h
  induction pre with
  | nil => simp only [List.nil_append, closeL, hy, Option.bind_some, Option.map_some]
  | cons v l ih =>
    simp only [List.all_cons, Bool.and_eq_true] at h
    have hv : Go.Mach.close1 σ v = some (v, σ) := by
      have h1 := h.1
      cases v with
      | isl es b => cases b with
        | true => cases h1
        | false => rfl
      | int _ _ => rfl
      | str _ => rfl
      | bool _ => rfl
      | _ => cases h1
    simp only [List.cons_append, closeL, hv, Option.bind_some, ih h.2, Option.map_some]
theorem closeX_sl {j k sz szy n : Nat} {σ : Heap} {pre cs es : List AV} {fz : Nat} {ext : Bool} (hj : σ[j]? = some (.cells (pre ++ [.sl k 0 n szy true]) 0 false)) (hpre : preOk pre = true) (hk : σ[k]? = some (.cells cs fz ext)) (hlen : cs.length = n * szy) (hcs : cs.all AV.clo1 = true) (hn : n ≠ 0) (hch : chunk szy true n (cs.map AV.nrm) = some es) (hkj : j ≠ k) :
    closeX σ (.sl j 0 1 sz true) = (frz σ k (0 + n * szy)).set j (.cells (pre ++ [.isl es false]) 0 false) := by
  have hw : window cs 0 (n * szy) = some cs := window_full hlen
  have h0 : Go.Mach.close1 σ (.sl k 0 n szy true) = some (.isl es false, frz σ k (0 + n * szy)) := close1_of0 (by simp only [close0, if_neg hn, hk, hw, Option.bind_some, hcs, if_true, hch, Option.map_some])
  obtain ⟨hp1, _, _⟩ := preOk_clo hpre
  have h1 : (pre ++ [AV.sl k 0 n szy true]).all AV.clo1 = false := by rw [List.all_append]; simp [AV.clo1]
  have h3 : (pre ++ [AV.isl es false]).all AV.clo1 = true := by rw [List.all_append, hp1]; rfl
  have h4 : (pre ++ [AV.sl k 0 n szy true]).length = (pre ++ [AV.isl es false]).length := by simp
  have hj1 : (frz σ k (0 + n * szy))[j]? = some (.cells (pre ++ [.sl k 0 n szy true]) 0 false) := by rw [frz_get hkj]; exact hj
  simp only [closeX, hj, h1, closeL_pre hpre σ _ _ _ h0, hj1, h3, h4, and_self, if_true, Bool.false_eq_true, if_false]
theorem stW_recS {σ : Heap} {j k2 N sz szy nn bytes fz : Nat} {ext : Bool} {pre cs ys es : List AV} {x : AV} {d : Option Nat} {os : List AOper} {k : List Fr} {f : FR} {τ : Heap} {Q : AExit → FR → Heap → Prop}
    (hx : LO N sz true σ es x) (hj : σ[j]? = some (.cells (pre ++ [.sl k2 0 nn szy true]) 0 false)) (hpre : preOk pre = true) (hk2 : σ[k2]? = some (.cells cs fz ext)) (hlen : cs.length = nn * szy) (hcs : cs.all AV.clo1 = true) (hn : nn ≠ 0) (hch : chunk szy true nn (cs.map AV.nrm) = some ys) (hkj : j ≠ k2)
    (hd : (pre ++ [AV.isl ys false]).length = sz) (h0 : 0 < sz) (hb : bytes ≤ 1000) (hN : N ≤ σ.length) (hl : es.length ≤ 1000000000)
    (h : ∀ x' σ', LO N sz true σ' (es ++ [.agg (pre ++ [.isl ys false])]) x' → σ.length ≤ σ'.length → (∀ i, i < N → i ≠ j → i ≠ k2 → σ'[i]? = σ[i]?) → wpK T bs n (.ops os :: k) (updO f d x') σ' Q) :
    stW T bs n (appendC σ sz true bytes false x (.sl j 0 1 sz true)) d [] os k f τ Q := by
  have hX := closeX_sl (sz := sz) hj hpre hk2 hlen hcs hn hch hkj
  have hjl : j < (frz σ k2 (0 + nn * szy)).length := by rw [frz_len]; exact (List.getElem?_eq_some_iff.1 hj).1
  obtain ⟨hp1, _, _⟩ := preOk_clo hpre
  have hcl : (pre ++ [AV.isl ys false]).all AV.clo1 = true := by rw [List.all_append, hp1]; rfl
  have hj1 : ((frz σ k2 (0 + nn * szy)).set j (.cells (pre ++ [AV.isl ys false]) 0 false))[j]? = some (.cells (pre ++ [AV.isl ys false]) 0 false) := list_set_at hjl
  rw [appendC_closeX hX (closeX_idem hj1 hcl)]
  have hx2 : LO N sz true ((frz σ k2 (0 + nn * szy)).set j (.cells (pre ++ [AV.isl ys false]) 0 false)) es x := by
    rcases hx with h | ⟨m, h1, h2, h3, h4⟩
    · exact .inl h
    · refine .inr ⟨m, h1, h2, ?_, h4⟩
      rw [List.getElem?_set_ne, frz_get]
      · exact h3
      · rintro rfl; rw [hk2] at h3; cases h3
      · rintro rfl; rw [hj] at h3; cases h3
  refine stW_rec hx2 hj1 hpre (LastOk.isl _ _) hd h0 hb (by simp [frz_len]; omega) hl fun x' σ' L l kk => ?_
  exact h x' σ' L (by simpa [frz_len] using l) fun i hi h1 h2 => by rw [kk i hi h1, List.getElem?_set_ne (Ne.symm h1), frz_get h2]
theorem stW_twoS {σ : Heap} {A : List AV} {b : Bool} {j k2 sz szy nn bytes fz t4 t5 t6 : Nat} {ext : Bool} {pre cs ys : List AV} {chk : List AX} {os : List AOper} {k : List Fr} {f : FR} {Q : AExit → FR → Heap → Prop}
    (hf4 : f t4 = .sl j 0 1 sz true) (hj : σ[j]? = some (.cells (pre ++ [.sl k2 0 nn szy true]) 0 false)) (hpre : preOk pre = true) (hk2 : σ[k2]? = some (.cells cs fz ext)) (hlen : cs.length = nn * szy) (hcs : cs.all AV.clo1 = true) (hn : nn ≠ 0) (hch : chunk szy true nn (cs.map AV.nrm) = some ys) (hkj : j ≠ k2)
    (hd : (pre ++ [AV.isl ys false]).length = sz)
    (hok : A.all (okEl sz true) = true) (hl : A.length ≤ 100000000) (h0 : 0 < sz) (hb : bytes ≤ 1000) (ht5 : t5 < n) (ht4 : t4 < n) (hne : t4 ≠ t5)
    (hchk : ∀ x ∈ chk, okRef σ.length (evF n f x) = true)
    (h : ∀ x1 x σ', LO σ.length sz true σ' (A ++ [.agg (pre ++ [.isl ys false])]) x → σ.length ≤ σ'.length → (∀ i, i < σ.length → i ≠ j → i ≠ k2 → σ'[i]? = σ[i]?) → wpK T bs n (.ops os :: k) (upF (upF f t5 x1) t6 x) σ' Q) :
    stW T bs n (appendA σ sz true bytes false (.isl [] true) (.isl A b)) (some t5) chk (⟨some t6, .append sz true bytes false (.t t5) (.t t4), none, []⟩ :: os) k f σ Q := by
  have hjl := (List.getElem?_eq_some_iff.1 hj).1
  have hkl := (List.getElem?_eq_some_iff.1 hk2).1
  refine stW_mk hok (by omega) h0 hb hchk fun x1 σ1 L1 l1 k1 => ?_
  have h4 : evF n (upF f t5 x1) (.t t4) = .sl j 0 1 sz true := by simp [evF, ht4, upF, hne, hf4]
  have h5 : evF n (upF f t5 x1) (.t t5) = x1 := by simp [evF, ht5, upF]
  simp only [updO]
  have e : wpK T bs n (.ops (⟨some t6, .append sz true bytes false (.t t5) (.t t4), none, []⟩ :: os) :: k) (upF f t5 x1) σ1 Q = stW T bs n (appendC σ1 sz true bytes false x1 (.sl j 0 1 sz true)) (some t6) [] os k (upF f t5 x1) σ1 Q := by
    simp only [wpK, stW, stepAll, stepOp, ev_lst, h4, h5]
  rw [e]
  refine stW_recS L1 (by rw [k1 j hjl]; exact hj) hpre (by rw [k1 k2 hkl]; exact hk2) hlen hcs hn hch hkj hd h0 hb (by omega) (by omega) fun x2 σ2 L2 l2 kk => ?_
  exact h x1 x2 σ2 L2 (by omega) fun i hi hne h2 => by rw [kk i hi hne h2, k1 i hi]
end Go.Mach
end
section
set_option maxRecDepth 100000
namespace Go.Proofs.YtjfgjnlocadpbaaGreatDoor
open Go.Mach
theorem rels_get (x : GRaw) : (relsD.map GD.enc)[pickN x.name 6]? = some (relR x).enc := by
  have hlt := pickN_lt (c := x.name) (n := 6) (by omega)
  rw [List.getElem?_map]
  have : relsD[pickN x.name 6]? = some (relR x) := by
    unfold relR
    generalize pickN x.name 6 = n at *
    match n, hlt with
    | 0, _ => rfl
    | 1, _ => rfl
    | 2, _ => rfl
    | 3, _ => rfl
    | 4, _ => rfl
    | 5, _ => rfl
  rw [this]; rfl
theorem raw_at (x : GRaw) (i : Nat) (h : i < 4) : window [AV.int .i64 x.kind, .int .i64 x.name, .int .i64 x.n0, .int .i64 x.n1, .int .i64 x.n2, .int .i64 x.n3] (2 + i) 1 = some [.int .i64 (x.at' i)] := by
  match i, h with
  | 0, _ => rfl
  | 1, _ => rfl
  | 2, _ => rfl
  | 3, _ => rfl
theorem pick6_6 (c : Int) (h1 : GV.i64ok c) (bs : Nat) (σ : Heap) : callT T 27 [.int .i64 c, .int .i64 6] bs σ = some (.int .i64 (pickN c 6 : Int), σ) := pick6 c 6 (by omega) h1 bs σ
theorem pick6_12 (c : Int) (h1 : GV.i64ok c) (bs : Nat) (σ : Heap) : callT T 27 [.int .i64 c, .int .i64 12] bs σ = some (.int .i64 (pickN c 12 : Int), σ) := pick6 c 12 (by omega) h1 bs σ
theorem pick6_4 (c : Int) (h1 : GV.i64ok c) (bs : Nat) (σ : Heap) : callT T 27 [.int .i64 c, .int .i64 4] bs σ = some (.int .i64 (pickN c 4 : Int), σ) := pick6 c 4 (by omega) h1 bs σ
theorem pick6_3 (c : Int) (h1 : GV.i64ok c) (bs : Nat) (σ : Heap) : callT T 27 [.int .i64 c, .int .i64 3] bs σ = some (.int .i64 (pickN c 3 : Int), σ) := pick6 c 3 (by omega) h1 bs σ
theorem pick6_2 (c : Int) (h1 : GV.i64ok c) (bs : Nat) (σ : Heap) : callT T 27 [.int .i64 c, .int .i64 2] bs σ = some (.int .i64 (pickN c 2 : Int), σ) := pick6 c 2 (by omega) h1 bs σ
theorem pick6_5 (c : Int) (h1 : GV.i64ok c) (bs : Nat) (σ : Heap) : callT T 27 [.int .i64 c, .int .i64 5] bs σ = some (.int .i64 (pickN c 5 : Int), σ) := pick6 c 5 (by omega) h1 bs σ
theorem pick6_8 (c : Int) (h1 : GV.i64ok c) (bs : Nat) (σ : Heap) : callT T 27 [.int .i64 c, .int .i64 8] bs σ = some (.int .i64 (pickN c 8 : Int), σ) := pick6 c 8 (by omega) h1 bs σ
theorem pick6_26 (c : Int) (h1 : GV.i64ok c) (bs : Nat) (σ : Heap) : callT T 27 [.int .i64 c, .int .i64 26] bs σ = some (.int .i64 (pickN c 26 : Int), σ) := pick6 c 26 (by omega) h1 bs σ
abbrev cT (t : GT) : List AV := [.int .i64 t.kind, .str t.name, .int .i64 t.value.kind, .int .i64 t.value.num, .str t.value.text, .isl (GV.encs t.value.items) false, .isl (GT.encs t.args) false]
theorem LX.snocT {N : Nat} {σ : Heap} {es : List GT} {x : AV} (t : GT) (h : LX N 7 σ (GT.encs es ++ [.agg ((cT t).map AV.nrm)]) x) : LX N 7 σ (GT.encs (es ++ [t])) x := by
  rw [← GT.encs_snoc, GT.enc_eq t]; exact h
abbrev opC (nm : ByteArray) (x : AV) : List AV := [.int .i64 4, .str nm, .int .i64 0, .int .i64 0, .str ⟨#[]⟩, .isl [] true, x]
def opT (nm : ByteArray) (a b : GT) : GT := .mk 4 nm (.mk 0 0 ⟨#[]⟩ []) [a, b]
theorem closeX_op {σ0 : Heap} (nm : ByteArray) (a b : GT) : closeX (σ0 ++ [.cells (cT a ++ cT b) 0 false, .cells (opC nm (.sl σ0.length 0 2 7 true)) 0 false]) (.sl (σ0.length + 1) 0 1 7 true) =
    σ0 ++ [.cells (cT a ++ cT b) 14 false, .cells (cT (opT nm a b)) 0 false] := by
  have g0 : (σ0 ++ [.cells (cT a ++ cT b) 0 false, .cells (opC nm (.sl σ0.length 0 2 7 true)) 0 false])[σ0.length]? = some (.cells (cT a ++ cT b) 0 false) := by simp
  have g1 : (σ0 ++ [.cells (cT a ++ cT b) 0 false, .cells (opC nm (.sl σ0.length 0 2 7 true)) 0 false])[σ0.length + 1]? = some (.cells (opC nm (.sl σ0.length 0 2 7 true)) 0 false) := by simp
  have hw : window (cT a ++ cT b) 0 14 = some (cT a ++ cT b) := rfl
  have hc : close0 (σ0 ++ [.cells (cT a ++ cT b) 0 false, .cells (opC nm (.sl σ0.length 0 2 7 true)) 0 false]) (.sl σ0.length 0 2 7 true) = some (.isl (GT.encs [a, b]) false, σ0 ++ [.cells (cT a ++ cT b) 14 false, .cells (opC nm (.sl σ0.length 0 2 7 true)) 0 false]) := by
    have hc2 : ¬ (2 : Nat) = 0 := by decide
    simp only [close0, if_neg hc2, g0, Nat.reduceMul, Nat.zero_add, hw, Option.bind_some]
    have h14 : ((cT a ++ cT b).all AV.clo1) = true := rfl
    rw [if_pos h14]
    have hch : chunk 7 true 2 ((cT a ++ cT b).map AV.nrm) = some (GT.encs [a, b]) := by simp [GT.encs, GT.enc_eq a, GT.enc_eq b]
    rw [hch]
    simp only [frz, g0, Option.map_some]
    simp
  have i1 : ∀ (σ : Heap) k n, close1 σ (AV.int k n) = some (.int k n, σ) := fun _ _ _ => rfl
  have s1 : ∀ (σ : Heap) n, close1 σ (AV.str n) = some (.str n, σ) := fun _ _ => rfl
  have l1 : ∀ (σ : Heap) n b, close1 σ (AV.isl n b) = some (.isl n false, σ) := fun _ _ _ => rfl
  have hL : closeL (σ0 ++ [.cells (cT a ++ cT b) 0 false, .cells (opC nm (.sl σ0.length 0 2 7 true)) 0 false]) (opC nm (.sl σ0.length 0 2 7 true)) = some (cT (opT nm a b), σ0 ++ [.cells (cT a ++ cT b) 14 false, .cells (opC nm (.sl σ0.length 0 2 7 true)) 0 false]) := by
    simp only [closeL, i1, s1, l1, close1_of0 hc, Option.bind_some, Option.map_some]
    rfl
  have h2 : (opC nm (.sl σ0.length 0 2 7 true)).all AV.clo1 = false := rfl
  have g2 : (σ0 ++ [.cells (cT a ++ cT b) 14 false, .cells (opC nm (.sl σ0.length 0 2 7 true)) 0 false])[σ0.length + 1]? = some (.cells (opC nm (.sl σ0.length 0 2 7 true)) 0 false) := by simp
  have h3 : ((cT (opT nm a b)).all AV.clo1 = true ∧ (opC nm (.sl σ0.length 0 2 7 true)).length = (cT (opT nm a b)).length) := ⟨rfl, rfl⟩
  simp only [closeX, g1, h2, hL, g2, h3, and_self, if_true, Bool.false_eq_true, if_false]
  simp
theorem atom_ok (x : GRaw) (hx : x.ok) : pureT T c28 [x.enc] = some (.tup [.str (relR x).name, .isl (GT.encs (atomR x)) false]) := by
  have hp := pick6_6 x.name hx.2.1
  have hr := rels_get x
  obtain ⟨a1, a2, a3⟩ := rel_arity x
  have hv := callV6 x.n0 hx.2.2.1
  have hlt := pickN_lt (c := x.name) (n := 6) (by omega)
  have hlt' : (pickN x.name 6 : Int) < 6 := by omega
  have hl6 : relsD.length = 6 := rfl
  unfold atomR
  generalize hn : (relR x).arity.toNat = n at *
  apply pure_enter (by simp [c28])
  simp [c28, callRelations6, setRun, hp, hr, hv]
  refine W_for T 0 72 (n - 1) (fun i f σ => f 1 = .ptr 0 0 ∧ f 4 = .ptr 1 0 ∧ f 6 = .int .i64 ((i : Int) + 1) ∧ 2 ≤ σ.length ∧ σ[0]? = some (.cells x.enc.cells 0 false) ∧ σ[1]? = some (.cells (relR x).enc.cells 0 false) ∧ LX 2 7 σ (GT.encs (argsR x (i + 1))) (f 5)) ?_ _ _ ?_
  · rintro i f σ hi ⟨h1, h4, h6, hN, h0, hd, hL⟩
    by_cases hlt : i + 1 < n
    · have hlt2 : (i : Int) + 1 < (n : Int) := by omega
      have hb4 : 0 ≤ (i : Int) + 1 ∧ (i : Int) + 1 < 4 := by omega
      have hw : IntKind.i64.wrap ((i : Int) + 1 + 1) = (i : Int) + 1 + 1 := wr64 (by omega) (by omega)
      have hk := GRaw.at_ok hx (i + 1)
      have hpp := pick6_12 _ hk
      have hx0 := raw_at x (i + 1) (by omega)
      have hsucc : argsR x (i + 1 + 1) = argsR x (i + 1) ++ [argR (x.at' (i + 1))] := by
        unfold argsR; rw [List.range_succ, List.map_append]; simp
      have hal := argsR_len x (i + 1)
      rw [hsucc]
      generalize argsR x (i + 1) = es at *
      generalize x.at' (i + 1) = m at *
      have hq : GV.i64ok (m.tdiv 12) := tdiv_ok hk 12 (by omega)
      have hwm : IntKind.i64.wrap (m.tdiv 12) = m.tdiv 12 := wr64 hq.1 hq.2
      have hel : (GT.encs es).length ≤ 1000000000 := by simp; omega
      by_cases c9 : pickN m 12 = 9
      · have h2 := pick6_4 (m.tdiv 12) hq
        have hnu := callNum6
        rw [c9] at hpp
        have ea : argR m = numT (pickN (m.tdiv 12) 4) := by simp [argR, c9]
        rw [ea]
        simp [h1, h4, h6, h0, hd, ← a3, hn, hlt2, hb4, hx0, hpp, h2, hnu, hwm, mk, setRun, -appendA_ag]
        refine stW_app1 (N := 2) hL rfl rfl (by omega) (by omega) hN hel fun x' σ' hL' hlen' hk' => ?_
        simp [h1, h4, h6, hw, hk', h0, hd]
        exact ⟨by omega, by omega, a3.symm, LX.snocT _ hL'⟩
      · by_cases c10 : pickN m 12 = 10
        · have h2 := pick6_3 (m.tdiv 12) hq
          have hl3 := pickN_lt (c := m.tdiv 12) (n := 3) (by omega)
          have hl3' : (pickN (m.tdiv 12) 3 : Int) < 3 := by omega
          rw [c10] at hpp
          have ea : argR m = addrT (pickN (m.tdiv 12) 3) := by simp [argR, c9, c10]
          have hget : window [AV.str ⟨#[97]⟩, .str ⟨#[98]⟩, .str ⟨#[99]⟩] (pickN (m.tdiv 12) 3) 1 = some [.str (addrN (pickN (m.tdiv 12) 3))] := by
            generalize pickN (m.tdiv 12) 3 = q at *
            match q, hl3 with
            | 0, _ => rfl
            | 1, _ => rfl
            | 2, _ => rfl
          rw [ea]
          simp [h1, h4, h6, h0, hd, ← a3, hn, hlt2, hb4, hx0, hpp, h2, hwm, mk, setRun, hl3', hget, -appendA_ag]
          refine stW_app2 (N := 2) hL rfl rfl (by omega) (by omega) hN hel fun x' σ' hL' hlen' hk' => ?_
          simp [h1, h4, h6, hw, hk', h0, hd]
          exact ⟨by omega, by omega, a3.symm, LX.snocT _ hL'⟩
        · by_cases c11 : pickN m 12 = 11
          · rw [c11] at hpp
            have ea : argR m = opT ⟨#[43]⟩ (vT (m.tdiv 12)) (numT 1) := by simp [argR, c9, c10, c11, sumT, vT_n, opT]
            have hvv := callV6 _ hq
            have hnu := callNum6 1
            rw [ea]
            simp [h1, h4, h6, h0, hd, ← a3, hn, hlt2, hb4, hx0, hpp, hvv, hnu, hwm, mk, setRun, -appendA_ag]
            refine stW_appX (N := 2) (closeX_op ⟨#[43]⟩ (vT (m.tdiv 12)) (numT 1)) (by rw [List.getElem?_append_right (by omega), Nat.add_sub_cancel_left]; rfl) rfl rfl (by omega) (by omega) hL (fun i hi => List.getElem?_append_left hi) (by omega) hN hel fun x' σ' hL' hlen' hk' => ?_
            simp at hlen'
            simp [h1, h4, h6, hw, hk', h0, hd]
            exact ⟨by omega, by omega, a3.symm, LX.snocT _ hL'⟩
          · have ea : argR m = vT m := by simp [argR, c9, c10, c11]
            have hvv := callV6 m hk
            rw [ea]
            have n9 : ¬ (pickN m 12 : Int) = 9 := by omega
            have n10 : ¬ (pickN m 12 : Int) = 10 := by omega
            have n11 : ¬ (pickN m 12 : Int) = 11 := by omega
            simp [h1, h4, h6, h0, hd, ← a3, hn, hlt2, hb4, hx0, hpp, hvv, mk, setRun, n9, n10, n11, -appendA_ag]
            refine stW_app1 (N := 2) hL rfl rfl (by omega) (by omega) hN hel fun x' σ' hL' hlen' hk' => ?_
            simp [h1, h4, h6, hw, hk', h0, hd]
            exact ⟨by omega, by omega, a3.symm, LX.snocT _ hL'⟩
    · have he : i + 1 = n := by omega
      subst he
      obtain ⟨σ', hcl, _⟩ := hL.closeA
      have hlt2 : ¬ (i : Int) + 1 < ((i + 1 : Nat) : Int) := by omega
      simp [h1, h4, h6, h0, hd, ← a3, hn, hlt2, hcl]
  · simp
    refine .inr (.inl ⟨2, _, 0, rfl, by omega, by simp; rfl, rfl, rfl, ?_⟩)
    simp [AV.nrm, argsR_succ]
    rw [GT.enc_eq]
end Go.Proofs.YtjfgjnlocadpbaaGreatDoor
end
section
set_option maxRecDepth 100000
namespace Go.Proofs.YtjfgjnlocadpbaaGreatDoor
open Go.Mach
abbrev cV (t : GV) : List AV := [.int .i64 t.kind, .int .i64 t.num, .str t.text, .isl (GV.encs t.items) false]
theorem callAtom6 (x : GRaw) (hx : x.ok) (bs : Nat) (σ : Heap) : callT T 28 [x.enc] bs σ = some (.tup [.str (relR x).name, .isl (GT.encs (atomR x)) false], σ) := call_clean rfl rfl rfl (by simp) (atom_ok x hx)
end Go.Proofs.YtjfgjnlocadpbaaGreatDoor
end
section
set_option maxRecDepth 100000
namespace Go.Proofs.YtjfgjnlocadpbaaGreatDoor
open Go.Mach
theorem test_get (q : Nat) (h : q < 6) : window [AV.str ⟨#[61, 61]⟩, .str ⟨#[33, 61]⟩, .str ⟨#[60]⟩, .str ⟨#[60, 61]⟩, .str ⟨#[62]⟩, .str ⟨#[62, 61]⟩] q 1 = some [.str (tSix.getD q ⟨#[]⟩)] := by
  match q, h with
  | 0, _ => rfl
  | 1, _ => rfl
  | 2, _ => rfl
  | 3, _ => rfl
  | 4, _ => rfl
  | 5, _ => rfl
theorem two_get (q : Nat) (h : q < 2) : window [AV.str ⟨#[43]⟩, .str ⟨#[45]⟩] q 1 = some [.str (if q = 0 then ⟨#[43]⟩ else ⟨#[45]⟩)] := by
  match q, h with
  | 0, _ => rfl
  | 1, _ => rfl
theorem two_getT (a b : GT) (q : Nat) (h : q < 2) : window (cT a ++ cT b) (q * 7) 7 = some (cT (if q = 0 then a else b)) := by
  match q, h with
  | 0, _ => rfl
  | 1, _ => rfl
theorem close1_two {σ : Heap} {k fz : Nat} {e : Bool} (a b : GT) (h : σ[k]? = some (.cells (cT a ++ cT b) fz e)) : close1 σ (.sl k 0 2 7 true) = some (.isl (GT.encs [a, b]) false, frz σ k 14) := by
  refine close1_of0 ?_
  have hc2 : ¬ (2 : Nat) = 0 := by decide
  have hw : window (cT a ++ cT b) 0 14 = some (cT a ++ cT b) := rfl
  simp only [close0, if_neg hc2, h, Nat.reduceMul, Nat.zero_add, hw, Option.bind_some]
  have h14 : ((cT a ++ cT b).all AV.clo1) = true := rfl
  rw [if_pos h14]
  have hch : chunk 7 true 2 ((cT a ++ cT b).map AV.nrm) = some (GT.encs [a, b]) := by simp [GT.encs, GT.enc_eq a, GT.enc_eq b]
  rw [hch]; rfl
theorem close0_two {σ : Heap} {k fz : Nat} {e : Bool} (a b : GT) (h : σ[k]? = some (.cells (cT a ++ cT b) fz e)) : close0 σ (.sl k 0 2 7 true) = some (.isl (GT.encs [a, b]) false, frz σ k 14) := by
  have hc2 : ¬ (2 : Nat) = 0 := by decide
  have hw : window (cT a ++ cT b) 0 14 = some (cT a ++ cT b) := rfl
  simp only [close0, if_neg hc2, h, Nat.reduceMul, Nat.zero_add, hw, Option.bind_some]
  have h14 : ((cT a ++ cT b).all AV.clo1) = true := rfl
  rw [if_pos h14]
  have hch : chunk 7 true 2 ((cT a ++ cT b).map AV.nrm) = some (GT.encs [a, b]) := by simp [GT.encs, GT.enc_eq a, GT.enc_eq b]
  rw [hch]; rfl
theorem close1_opT {σ : Heap} {k m fz fm : Nat} {e em : Bool} (nm : ByteArray) (a b : GT) (h : σ[k]? = some (.cells (opC nm (.sl m 0 2 7 true)) fz e)) (hm : σ[m]? = some (.cells (cT a ++ cT b) fm em)) (hne : k ≠ m) :
    ∃ σ', close1 σ (.sl k 0 1 7 true) = some (.isl (GT.encs [opT nm a b]) false, σ') := by
  have h2 : close0 σ (.sl k 0 1 7 true) = none := by
    have hc2 : ¬ (1 : Nat) = 0 := by decide
    have hw : window (opC nm (.sl m 0 2 7 true)) 0 7 = some (opC nm (.sl m 0 2 7 true)) := rfl
    simp only [close0, if_neg hc2, h, Nat.one_mul, hw, Option.bind_some]
    rfl
  have hfz : (frz σ k 7)[m]? = some (.cells (cT a ++ cT b) fm em) := by
    simp only [frz, h]; rw [List.getElem?_set_ne hne]; exact hm
  have i1 : ∀ c (σ : Heap) k n, closeUp c σ (AV.int k n) = some (.int k n, σ) := fun _ _ _ _ => rfl
  have s1 : ∀ c (σ : Heap) n, closeUp c σ (AV.str n) = some (.str n, σ) := fun _ _ _ => rfl
  have l1 : ∀ c (σ : Heap) n b, closeUp c σ (AV.isl n b) = some (.isl n false, σ) := fun _ _ _ _ => rfl
  have i0 : ∀ (σ : Heap) k n, close0 σ (AV.int k n) = some (.int k n, σ) := fun _ _ _ => rfl
  have s0 : ∀ (σ : Heap) n, close0 σ (AV.str n) = some (.str n, σ) := fun _ _ => rfl
  have l0 : ∀ (σ : Heap) n b, close0 σ (AV.isl n b) = some (.isl n false, σ) := fun _ _ _ => rfl
  have hw : window (opC nm (.sl m 0 2 7 true)) 0 7 = some (opC nm (.sl m 0 2 7 true)) := rfl
  have hw2 : window (cT a ++ cT b) 0 14 = some (cT a ++ cT b) := rfl
  have hb := close0_two a b hfz
  have hU : ∀ c, (∀ (σ : Heap) n, c σ (AV.str n) = some (.str n, σ)) → (∀ (σ : Heap) k n, c σ (AV.int k n) = some (.int k n, σ)) → (∀ (σ : Heap) n b, c σ (AV.isl n b) = some (.isl n false, σ)) →
      (∃ σ', c (frz σ k 7) (.sl m 0 2 7 true) = some (.isl (GT.encs [a, b]) false, σ')) → ∃ σ', closeUp c σ (.sl k 0 1 7 true) = some (.isl (GT.encs [opT nm a b]) false, σ') := by
    rintro c c1 c2 c3 ⟨σ', c4⟩
    refine ⟨σ', ?_⟩
    simp only [closeUp, h, Nat.one_mul, Nat.zero_add, hw, Option.bind_some, closeLW, c1, c2, c3, c4, Option.map_some]
    simp [AV.clo1, chunk, mk, GT.encs, opT, GT.enc_eq]
  have hlen14 : ((cT a ++ cT b).all AV.clo1) = true := rfl
  have up : ∀ c (τ : Heap) fm em, τ[m]? = some (.cells (cT a ++ cT b) fm em) → (∀ (σ : Heap) n, c σ (AV.str n) = some (.str n, σ)) → (∀ (σ : Heap) k n, c σ (AV.int k n) = some (.int k n, σ)) → (∀ (σ : Heap) n b, c σ (AV.isl n b) = some (.isl n false, σ)) →
      closeUp c τ (.sl m 0 2 7 true) = some (.isl (GT.encs [a, b]) false, frz τ m 14) := by
    intro c τ fm em hτ c1 c2 c3
    have hlw : ∀ τ', closeLW c τ' (cT a ++ cT b) = some (cT a ++ cT b, τ') := fun τ' => by simp [closeLW, c1, c2, c3]
    have hch : chunk 7 true 2 (cT a ++ cT b) = some (GT.encs [a, b]) := by simp [GT.encs, GT.enc_eq a, GT.enc_eq b, chunk, mk]
    simp only [closeUp, hτ, Nat.reduceMul, Nat.zero_add, hw2, Option.bind_some, hlw, hlen14, if_true, hch, Option.map_some]
  unfold close1
  rw [h2]
  exact hU _ (s1 _) (i1 _) (l1 _) ⟨_, up _ _ _ _ hfz (s1 _) (i1 _) (l1 _)⟩
theorem close_ex {σ : Heap} {x y : AV} {F : AV × Heap → Option (AV × Heap)} {r : AV} (h : ∃ σ', close1 σ x = some (y, σ')) (hF : ∀ σ', ∃ z, F (y, σ') = some (r, z)) : ∃ z, (close1 σ x).bind F = some (r, z) := by
  obtain ⟨σ', h⟩ := h
  rw [h]; exact hF σ'
theorem lit6_ok (x : GRaw) (hx : x.ok) : pureT T c29 [x.enc] = some (litR x).enc := by
  have hA := callAtom6 x hx
  have h8 := pick6_8 x.kind hx.1
  have hl8 := pickN_lt (c := x.kind) (n := 8) (by omega)
  unfold litR
  apply pure_enter (by simp [c29])
  by_cases c4 : pickN x.kind 8 < 4
  · have : pickN x.kind 8 = 0 ∨ pickN x.kind 8 = 1 ∨ pickN x.kind 8 = 2 ∨ pickN x.kind 8 = 3 := by omega
    rw [if_pos c4]
    rcases this with h | h | h | h <;> (rw [h] at h8; simp [c29, hA, ← GRaw.enc_eq, h8, setRun, GL.enc_eq])
  · by_cases c5 : pickN x.kind 8 = 4
    · rw [if_neg c4, if_pos c5]
      rw [c5] at h8
      simp [c29, hA, ← GRaw.enc_eq, h8, setRun, GL.enc_eq]
    · by_cases c7 : pickN x.kind 8 < 7
      · rw [if_neg c4, if_neg c5, if_pos c7]
        have p6 := pick6_6 x.name hx.2.1
        have q6 := pickN_lt (c := x.name) (n := 6) (by omega)
        have q6' : (pickN x.name 6 : Int) < 6 := by omega
        have g6 := test_get _ q6
        have v0 := callV6 x.n0 hx.2.2.1
        have v1 := callV6 x.n1 hx.2.2.2.1
        have p4 := pick6_4 x.n2 hx.2.2.2.2.1
        have p2 := pick6_2 x.n3 hx.2.2.2.2.2
        have q2 := pickN_lt (c := x.n3) (n := 2) (by omega)
        have q2' : (pickN x.n3 2 : Int) < 2 := by omega
        have hnu := callNum6 (pickN x.n2 4)
        have hg2 := two_getT (numT (pickN x.n2 4)) (vT x.n1) _ q2
        simp only [cT, List.cons_append, List.nil_append] at hg2
        have : pickN x.kind 8 = 5 ∨ pickN x.kind 8 = 6 := by omega
        rcases this with h | h <;> (rw [h] at h8; simp [c29, hA, ← GRaw.enc_eq, h8, setRun, GL.enc_eq, p6, q6', g6, mk, v0, v1, p4, p2, q2', hnu, hg2]; rw [close1_two (vT x.n0) _ rfl]; simp)
      · rw [if_neg c4, if_neg c5, if_neg c7]
        have h : pickN x.kind 8 = 7 := by omega
        rw [h] at h8
        have v0 := callV6 x.n0 hx.2.2.1
        have v1 := callV6 x.n1 hx.2.2.2.1
        have v2 := callV6 x.n2 hx.2.2.2.2.1
        have p2 := pick6_2 x.n3 hx.2.2.2.2.2
        have hq : GV.i64ok (x.n3.tdiv 2) := tdiv_ok hx.2.2.2.2.2 2 (by omega)
        have hwm : IntKind.i64.wrap (x.n3.tdiv 2) = x.n3.tdiv 2 := wr64 hq.1 hq.2
        have p2b := pick6_2 _ hq
        have q2 := pickN_lt (c := x.n3) (n := 2) (by omega)
        have q2' : (pickN x.n3 2 : Int) < 2 := by omega
        have q3 := pickN_lt (c := x.n3.tdiv 2) (n := 2) (by omega)
        have q3' : (pickN (x.n3.tdiv 2) 2 : Int) < 2 := by omega
        have g2 := two_get _ q2
        have hnu := callNum6 1
        have hfd : fieldV 1 1 false (vT x.n0).enc = some (.str (vName (pickN x.n0 6))) := by rw [GT.enc_eq]; rfl
        have hg2 := two_getT (numT 1) (vT x.n2) _ q3
        simp only [cT, List.cons_append, List.nil_append] at hg2
        simp [c29, hA, ← GRaw.enc_eq, h8, setRun, GL.enc_eq, v0, v1, v2, p2, p2b, hwm, q2', q3', g2, mk, hnu, hg2, hfd]
        refine close_ex (close1_opT (if pickN x.n3 2 = 0 then ⟨#[43]⟩ else ⟨#[45]⟩) (vT x.n1) (if pickN (x.n3.tdiv 2) 2 = 0 then numT 1 else vT x.n2) rfl rfl (by decide)) fun σ' => ?_
        simp [opT]
theorem callLit6 (x : GRaw) (hx : x.ok) (bs : Nat) (σ : Heap) : callT T 29 [x.enc] bs σ = some ((litR x).enc, σ) := call_clean rfl rfl rfl (by simp) (lit6_ok x hx)
end Go.Proofs.YtjfgjnlocadpbaaGreatDoor
end
section
set_option maxRecDepth 100000
namespace Go.Proofs.YtjfgjnlocadpbaaGreatDoor
open Go.Mach
theorem agg_get (q : Nat) (h : q < 3) : window [AV.str ⟨#[109, 105, 110]⟩, .str ⟨#[109, 97, 120]⟩, .str ⟨#[99, 111, 117, 110, 116]⟩] q 1 = some [.str (aggN q)] := by
  match q, h with
  | 0, _ => rfl
  | 1, _ => rfl
  | 2, _ => rfl
abbrev RT : ACode := sndC (sndC (sndC (sndC (sndC (sndC (sndC c13.body))))))
theorem rule_tail6 (h : GRaw) (hh : h.ok) (lab : ByteArray) (body : List GL) (lst : AV) (f : FR) (σ : Heap) (h4 : f 4 = .ptr 0 0) (h5 : f 5 = .ptr 2 0) (h6 : f 6 = .ptr 3 0) (hN : 4 ≤ σ.length)
    (c0 : ∃ a b c d e g, σ[0]? = some (.cells [a, b, c, d, e, g] 0 false)) (c2 : σ[2]? = some (.cells [.str lab, .str (relR h).name, .isl (GT.encs (atomR h)) false, .str ⟨#[]⟩, .int .i64 0, lst] 0 false))
    (c3 : σ[3]? = some (.cells h.enc.cells 0 false)) (hL : LX 4 3 σ (body.map GL.enc) lst) :
    wpK T 0 88 [.code RT] f σ (endP 88 [.cell 4 6 true] (GR.enc ⟨lab, (relR h).name, atomR h, if aggR h = true then aggN (pickN (h.kind.tdiv 5) 3) else ⟨#[]⟩, if aggR h = true then 1 else 0, body⟩)) := by
  obtain ⟨a, b, c, d, e, g, c0⟩ := c0
  have p5 := pick6_5 h.kind hh.1
  have hq : GV.i64ok (h.kind.tdiv 5) := tdiv_ok hh.1 5 (by omega)
  have hwm : IntKind.i64.wrap (h.kind.tdiv 5) = h.kind.tdiv 5 := wr64 hq.1 hq.2
  have p3 := pick6_3 _ hq
  have q3 := pickN_lt (c := h.kind.tdiv 5) (n := 3) (by omega)
  have q3' : (pickN (h.kind.tdiv 5) 3 : Int) < 3 := by omega
  have g3 := agg_get _ q3
  have hs0 : ∀ o, (σ.set 0 o)[0]? = some o := fun o => list_set_at (by omega)
  have hcl : ∀ o, ∃ σ', close1 (σ.set 0 o) lst = some (.isl (body.map GL.enc) false, σ') := fun o => by
    obtain ⟨σ', h1, _⟩ := (hL.keep (τ := σ.set 0 o) fun i o hi ho => by rw [List.getElem?_set_ne (by omega)]; exact ho).close
    exact ⟨σ', close1_of0 h1⟩
  have ga3 : ∀ o, (σ ++ [o])[3]? = some (.cells [.int .i64 h.kind, .int .i64 h.name, .int .i64 h.n0, .int .i64 h.n1, .int .i64 h.n2, .int .i64 h.n3] 0 false) := fun o => by rw [List.getElem?_append_left (by omega)]; exact c3
  have ga2 : ∀ o, (σ ++ [o])[2]? = some (.cells [.str lab, .str (relR h).name, .isl (GT.encs (atomR h)) false, .str ⟨#[]⟩, .int .i64 0, lst] 0 false) := fun o => by rw [List.getElem?_append_left (by omega)]; exact c2
  have hs2 : ∀ o o', ((σ ++ [o]).set 2 o')[2]? = some o' := fun o o' => list_set_at (by simp; omega)
  have ga0 : ∀ o o' h, ((σ ++ [o]).set 2 o')[0]'h = .cells [a, b, c, d, e, g] 0 false := fun o o' h => Option.some_inj.1 ((List.getElem?_eq_getElem h).symm.trans (by rw [List.getElem?_set_ne (by decide), List.getElem?_append_left (by omega)]; exact c0))
  have ga0' : ∀ o o', ((σ ++ [o]).set 2 o')[0]? = some (.cells [a, b, c, d, e, g] 0 false) := fun o o' => by rw [List.getElem?_set_ne (by decide), List.getElem?_append_left (by omega)]; exact c0
  have hs20 : ∀ o o' o'', (((σ ++ [o]).set 2 o').set 0 o'')[0]? = some o'' := fun o o' o'' => list_set_at (by simp)
  have hcl2 : ∀ o o' o'', ∃ σ', close1 (((σ ++ [o]).set 2 o').set 0 o'') lst = some (.isl (body.map GL.enc) false, σ') := fun o o' o'' => by
    obtain ⟨σ', h1, _⟩ := (hL.keep (τ := ((σ ++ [o]).set 2 o').set 0 o'') fun i q hi ho => by
      rw [List.getElem?_set_ne (by omega), List.getElem?_set_ne (by omega), List.getElem?_append_left (List.getElem?_eq_some_iff.1 ho).1]; exact ho).close
    exact ⟨σ', close1_of0 h1⟩
  by_cases k4 : pickN h.kind 5 = 4
  · rw [k4] at p5
    by_cases k1 : 1 < (atomR h).length
    · have k1' : (1 : Int) < ((atomR h).length : Int) := by omega
      have e1 : (atomR h)[1]? = some (atomR h)[1] := List.getElem?_eq_getElem k1
      by_cases k2 : (atomR h)[1].kind = 1
      · have ha : aggR h = true := by unfold aggR; rw [e1]; simp [k4, k2]
        simp [RT, c13, sndC, h4, h5, h6, c0, c2, c3, p5, k1', k1, e1, k2, hwm, p3, q3', g3, mk, setRun, ha, ga2, ga3, hs2, ga0, ga0', hs20]
        refine close_ex (hcl2 _ _ _) fun σ' => ?_
        simp [GR.enc_eq]
      · have ha : aggR h = false := by unfold aggR; rw [e1]; simp [k4, k2]
        simp [RT, c13, sndC, h4, h5, h6, c0, c2, c3, p5, k1', k1, e1, k2, setRun, ha, hs0]
        refine close_ex (hcl _) fun σ' => ?_
        simp [GR.enc_eq]
    · have k1' : ¬ (1 : Int) < ((atomR h).length : Int) := by omega
      have ha : aggR h = false := by unfold aggR; rw [List.getElem?_eq_none (by omega)]; simp
      simp [RT, c13, sndC, h4, h5, h6, c0, c2, c3, p5, k1', setRun, ha, hs0]
      refine close_ex (hcl _) fun σ' => ?_
      simp [GR.enc_eq]
  · have k4' : ¬ (pickN h.kind 5 : Int) = 4 := by omega
    have ha : aggR h = false := by unfold aggR; simp [k4]
    simp [RT, c13, sndC, h4, h5, h6, c0, c2, c3, p5, k4, k4', setRun, ha, hs0]
    refine close_ex (hcl _) fun σ' => ?_
    simp [GR.enc_eq]
theorem pickN_small (n : Nat) (h : n < 26) : pickN n 26 = n := by
  unfold pickN; rw [if_neg (by omega)]; simp; omega
theorem body_take (l : List GRaw) (h : 1 < l.length) : bodyR l = (((l.take 5).drop 1)).map litR := by
  unfold bodyR; rw [if_neg (by omega)]
abbrev RL : ACode := sndC (sndC (sndC (sndC (sndC c13.body))))
theorem rule_loop6 (l : List GRaw) (hl : ∀ x ∈ l, x.ok) (hlen : l.length ≤ 100000000000) (h : GRaw) (hh : h.ok) (lab : ByteArray) (f : FR) (σ : Heap) (h0 : f 0 = .isl (l.map GRaw.enc) false) (h4 : f 4 = .ptr 0 0) (h5 : f 5 = .ptr 2 0) (h6 : f 6 = .ptr 3 0) (hN : 4 ≤ σ.length)
    (c0 : ∃ a b c d e g, σ[0]? = some (.cells [a, b, c, d, e, g] 0 false)) (c2 : σ[2]? = some (.cells [.str lab, .str (relR h).name, .isl (GT.encs (atomR h)) false, .str ⟨#[]⟩, .int .i64 0, .isl [] true] 0 false))
    (c3 : σ[3]? = some (.cells h.enc.cells 0 false)) :
    wpK T 0 88 [.code RL] f σ (endP 88 [.cell 4 6 true] (GR.enc ⟨lab, (relR h).name, atomR h, if aggR h = true then aggN (pickN (h.kind.tdiv 5) 3) else ⟨#[]⟩, if aggR h = true then 1 else 0, bodyR l⟩)) := by
  have tail := rule_tail6 h hh lab (bodyR l)
  have hL0 : ∀ bs σ, callT T 29 [.agg [.int .i64 0, .int .i64 0, .int .i64 0, .int .i64 0, .int .i64 0, .int .i64 0]] bs σ = some ((litR .zero).enc, σ) := callLit6 .zero GRaw.zero_ok
  have hb : RL = .seq (fstC RL) (.seq (fstC (sndC RL)) RT) := rfl
  rw [hb]
  generalize RT = K at tail
  generalize GR.enc ⟨lab, (relR h).name, atomR h, if aggR h = true then aggN (pickN (h.kind.tdiv 5) 3) else ⟨#[]⟩, if aggR h = true then 1 else 0, bodyR l⟩ = res at *
  have fin : ∀ (v : GL) (es : List GL) (σ σ' : Heap) x' (es' : List AV), es' = (es ++ [v]).map GL.enc → LX 4 3 σ' es' x' → 4 ≤ σ.length → σ.length + 1 ≤ σ'.length → (∀ i, i < 4 → σ'[i]? = σ[i]?) → ∀ o, LX 4 3 (σ'.set 2 o) ((es ++ [v]).map GL.enc) x' := fun v es σ σ' x' es' he hL' h4 hl' hk' o => by
    subst he
    exact hL'.keep fun i o hi ho => by rw [List.getElem?_set_ne (by omega)]; exact ho
  simp [RL, c13, sndC, fstC]
  refine W_for T 0 88 (min l.length 5 - 1) (fun i f σ => f 0 = .isl (l.map GRaw.enc) false ∧ f 4 = .ptr 0 0 ∧ f 5 = .ptr 2 0 ∧ f 6 = .ptr 3 0 ∧ f 7 = .int .i64 ((i : Int) + 1) ∧ 4 ≤ σ.length ∧ (∃ a b c d e g, σ[0]? = some (.cells [a, b, c, d, e, g] 0 false)) ∧
    σ[3]? = some (.cells h.enc.cells 0 false) ∧ ∃ lst, σ[2]? = some (.cells [.str lab, .str (relR h).name, .isl (GT.encs (atomR h)) false, .str ⟨#[]⟩, .int .i64 0, lst] 0 false) ∧ LX 4 3 σ (((((l.take 5).drop 1).take i).map litR).map GL.enc) lst) ?_ _ _ ?_
  · rintro i f σ hi ⟨h0, h4, h5, h6, h7, hN, c0, c3, lst, c2, hL⟩
    by_cases hlt : i + 1 < min l.length 5
    · have hlt1 : i + 1 < l.length := by omega
      have hlt2 : (i : Int) + 1 < (l.length : Int) := by omega
      have hlt3 : (i : Int) + 1 < 5 := by omega
      have h0i : 0 ≤ (i : Int) + 1 := by omega
      have hw : IntKind.i64.wrap ((i : Int) + 1 + 1) = (i : Int) + 1 + 1 := wr64 (by omega) (by omega)
      have e1 : l[i + 1]? = some l[i + 1] := List.getElem?_eq_getElem hlt1
      have hc := callLit6 l[i + 1] (hl _ (List.getElem_mem hlt1))
      have htk : (((l.take 5).drop 1).take (i + 1)).map litR = (((l.take 5).drop 1).take i).map litR ++ [litR l[i + 1]] := by
        have hd : i < ((l.take 5).drop 1).length := by simp; omega
        rw [List.take_succ_eq_append_getElem hd, List.map_append]
        have : ((l.take 5).drop 1)[i] = l[i + 1] := by simp [Nat.add_comm]
        rw [this]; rfl
      have hal : ((((l.take 5).drop 1).take i).map litR).length ≤ 5 := by simp; omega
      rw [htk]
      generalize (((l.take 5).drop 1).take i).map litR = es at *
      simp [h0, h4, h5, h6, h7, hlt2, hlt3, hlt1, h0i, c2, e1, hc, ← GRaw.enc_eq, setRun, -appendA_ag]
      refine stW_app1 (N := 4) hL rfl rfl (by omega) (by omega) hN (by simp; omega) fun x' σ' hL' hlen' hk' => ?_
      simp [h0, h4, h5, h6, h7, hw, hk', c0, c3, c2, hL'.solid, hL'.cells, setRun]
      refine ⟨by omega, by omega, x', list_set_at (by omega), ?_⟩
      have := fin (litR l[i + 1]) es σ σ' x' _ (by rw [List.map_append]; rfl) hL' hN (by omega) hk' (.cells [.str lab, .str (relR h).name, .isl (GT.encs (atomR h)) false, .str ⟨#[]⟩, .int .i64 0, x'] 0 false)
      rwa [List.map_append] at this
    · have he : i = min l.length 5 - 1 := by omega
      have htk : ((l.take 5).drop 1).take i = (l.take 5).drop 1 := List.take_of_length_le (by simp; omega)
      rw [htk] at hL
      by_cases hl1 : l.length ≤ 1
      · have hnil : (l.take 5).drop 1 = [] := List.drop_eq_nil_of_le (by simp; omega)
        have hbd : bodyR l = [litR .zero] := by unfold bodyR; rw [if_pos hl1]
        rw [hnil] at hL
        have hlt2 : ¬ ((i : Int) + 1 < (l.length : Int)) := by omega
        have hlv := hL.len
        simp [h0, h4, h5, h6, h7, hlt2, c2, hlv, hL0, setRun, -appendA_ag]
        refine stW_app1 (N := 4) hL rfl rfl (by omega) (by omega) hN (by simp) fun x' σ' hL' hlen' hk' => ?_
        obtain ⟨a, b, c, d, e, g, c0⟩ := c0
        simp [h0, h4, h5, h6, h7, hk', c0, c3, c2, hL'.solid, hL'.cells, setRun]
        refine tail x' _ _ (by simp [h4]) (by simp [h5]) (by simp [h6]) (by simp; omega) ⟨a, b, c, d, e, g, by rw [List.getElem?_set_ne (by decide), hk' 0 (by omega)]; exact c0⟩ (list_set_at (by omega)) (by rw [List.getElem?_set_ne (by decide), hk' 3 (by omega)]; exact c3) ?_
        rw [hbd]
        exact fin (litR .zero) [] σ σ' x' _ rfl hL' hN (by omega) hk' _
      · have hbd := body_take l (by omega)
        rw [← hbd] at hL
        have hbl := bodyR_len l
        have hlv := hL.len
        have hne : ¬ ((bodyR l).length : Int) = 0 := by omega
        have hne2 : ¬ bodyR l = [] := fun e => by rw [e] at hbl; simp at hbl
        by_cases h5l : (i : Int) + 1 < (l.length : Int)
        · have hlt3 : ¬ (i : Int) + 1 < 5 := by omega
          simp [h0, h4, h5, h6, h7, h5l, hlt3, c2, hlv, hne, hne2]
          exact tail lst _ σ (by simp [h4]) (by simp [h5]) (by simp [h6]) hN c0 c2 c3 hL
        · simp [h0, h4, h5, h6, h7, h5l, c2, hlv, hne, hne2]
          exact tail lst _ σ (by simp [h4]) (by simp [h5]) (by simp [h6]) hN c0 c2 c3 hL
  · simp [h0, h4, h5, h6, c2, c3, hN, c0]
    exact .inl ⟨rfl, rfl⟩
theorem rule6_ok (l : List GRaw) (hl : ∀ x ∈ l, x.ok) (hlen : l.length ≤ 100000000000) (n : Nat) (hn : n < 26) : pureT T c13 [.isl (l.map GRaw.enc) false, .int .i64 (n : Int)] = some (ruleR l n).enc := by
  have hp := pick6_26 (n : Int) (by unfold GV.i64ok; omega)
  rw [pickN_small n hn] at hp
  have hho : (headR l).ok := by
    cases l with
    | nil => exact GRaw.zero_ok
    | cons x l => exact hl x (by simp)
  have loop := rule_loop6 l hl hlen (headR l) hho (⟨#[114]⟩ ++ ⟨#[UInt8.ofNat (97 + n)]⟩)
  have hw97 : IntKind.i64.wrap (97 + (n : Int)) = 97 + (n : Int) := wr64 (by omega) (by omega)
  have hu8 : IntKind.u8.wrap (97 + (n : Int)) = 97 + (n : Int) := wru8 (by omega) (by omega)
  have hb2 : ∀ o : AObj, b2sV [o, .cells [.int .u8 (97 + (n : Int))] 0 false] (.sl 1 0 1 1 false) = some (.str ⟨#[UInt8.ofNat (97 + n)]⟩) := fun o =>
    b2s_bv (l := [UInt8.ofNat (97 + n)]) (fz := 0) (ext := false) (by simp [bv]; omega) (by simp)
  have hs1 : (⟨#[114]⟩ : ByteArray).size = 1 := rfl
  have hs2 : (⟨#[UInt8.ofNat (97 + n)]⟩ : ByteArray).size = 1 := rfl
  unfold ruleR
  generalize UInt8.ofNat (97 + n) = lb at *
  apply pure_enter (by simp [c13])
  show wpK T 0 88 [.code c13.body] _ [] (endP 88 [.cell 4 6 true] _)
  have hb : c13.body = .seq (fstC c13.body) (.seq (fstC (sndC c13.body)) (.seq (fstC (sndC (sndC c13.body))) (.seq (fstC (sndC (sndC (sndC c13.body)))) (.seq (fstC (sndC (sndC (sndC (sndC c13.body))))) RL)))) := rfl
  rw [hb]
  generalize RL = K at loop
  cases l with
  | nil =>
    have hA : ∀ bs σ, callT T 28 [.agg [.int .i64 0, .int .i64 0, .int .i64 0, .int .i64 0, .int .i64 0, .int .i64 0]] bs σ = some (.tup [.str (relR .zero).name, .isl (GT.encs (atomR .zero)) false], σ) := callAtom6 .zero GRaw.zero_ok
    simp [c13, sndC, fstC, hp, hw97, hu8, setRun, hb2, hs1, hs2, hA]
    refine loop _ _ (by simp) (by simp) (by simp) (by simp) (by simp) ⟨_, _, _, _, _, _, rfl⟩ (by simp [headR]) (by simp [headR, GRaw.zero])
  | cons x l =>
    have hA := callAtom6 x (hl x (by simp))
    simp [c13, sndC, fstC, hp, hw97, hu8, setRun, hb2, hs1, hs2, hA, ← GRaw.enc_eq]
    refine loop _ _ (by simp) (by simp) (by simp) (by simp) (by simp) ⟨_, _, _, _, _, _, rfl⟩ (by simp [headR]) (by simp [headR, GRaw.zero])
theorem callRule6R (l : List GRaw) (hl : ∀ x ∈ l, x.ok) (hlen : l.length ≤ 100000000000) (n : Nat) (hn : n < 26) (bs : Nat) (σ : Heap) : callT T 13 [.isl (l.map GRaw.enc) false, .int .i64 (n : Int)] bs σ = some ((ruleR l n).enc, σ) := call_clean rfl rfl rfl (by simp) (rule6_ok l hl hlen n hn)
end Go.Proofs.YtjfgjnlocadpbaaGreatDoor
end
section
set_option maxRecDepth 100000
namespace Go.Proofs.YtjfgjnlocadpbaaGreatDoor
open Go.Mach
end Go.Proofs.YtjfgjnlocadpbaaGreatDoor
end
section
namespace Go.Proofs.YtjfgjnlocadpbaaGreatDoor
open Go.Mach
theorem bulkAs_le {α : Type} (enc : α → AV) (c : Nat) : ∀ l : List α, (∀ x ∈ l, bulkA (enc x) ≤ c) → bulkAs (l.map enc) ≤ c * l.length
  | [], _ => by simp [bulkAs]
  | x :: l, h => by
    have h1 := bulkAs_le enc c l fun y hy => h y (by simp [hy])
    have h2 := h x (by simp)
    simp only [List.map_cons, bulkAs, List.length_cons, Nat.mul_add]; omega
theorem tsizes_le (c : Nat) (l : List GT) (h : ∀ t ∈ l, t.size ≤ c) : GT.sizes l ≤ c * l.length := by
  rw [← GT.bulk_encs, GT.encs_map]
  exact bulkAs_le GT.enc c l fun t ht => by rw [GT.bulk_enc]; exact h t ht
theorem vTn_size : ∀ n, n < 6 → (vTn n).size ≤ 40 := by decide +kernel
theorem vT_size (c : Int) : (vT c).size ≤ 40 := vTn_size _ (pickN_lt (by omega))
theorem numT_size (n : Int) : (numT n).size ≤ 40 := by
  have h0 : (ByteArray.mk #[]).size = 0 := rfl
  simp [numT, GT.size, GT.sizes, GV.size, GV.sizes, h0]
theorem addrT_size : ∀ n, n < 3 → (addrT n).size ≤ 40 := by decide +kernel
theorem sumT_size : ∀ n, n < 6 → (sumT n).size ≤ 40 := by decide +kernel
theorem argR_size (k : Int) : (argR k).size ≤ 40 := by
  unfold argR
  split
  · exact numT_size _
  split
  · exact addrT_size _ (pickN_lt (by omega))
  split
  · exact sumT_size _ (pickN_lt (by omega))
  · exact vT_size k
theorem atomR_size (x : GRaw) : GT.sizes (atomR x) ≤ 120 := by
  obtain ⟨_, h2, _⟩ := rel_arity x
  have := tsizes_le 40 (atomR x) (fun t ht => by
    obtain ⟨i, _, rfl⟩ := List.mem_map.1 ht
    split
    · exact vT_size _
    · exact argR_size _)
  have hl : (atomR x).length = (relR x).arity.toNat := by simp [atomR]
  rw [hl] at this; omega
theorem relR_size (x : GRaw) : (relR x).name.size ≤ 4 := by
  obtain ⟨n, hn, _, e⟩ := rel_cases x
  rw [e]
  match n, hn with
  | 0, _ => decide
  | 1, _ => decide
  | 2, _ => decide
  | 3, _ => decide
  | 4, _ => decide
  | 5, _ => decide
theorem tSix_size : ∀ n, n < 6 → (tSix.getD n ⟨#[]⟩).size ≤ 4 := by decide +kernel
theorem vName_size : ∀ n, n < 6 → (vName n).size ≤ 4 := by decide +kernel
theorem litR_size (x : GRaw) : (litR x).size ≤ 200 := by
  have h1 := atomR_size x
  have h2 := relR_size x
  unfold litR
  split
  · simp only [GL.size, GL.enc, bulkA, bulkAs, GT.bulk_encs]; omega
  split
  · simp only [GL.size, GL.enc, bulkA, bulkAs, GT.bulk_encs]; omega
  split
  · have h3 := tSix_size _ (pickN_lt (c := x.name) (n := 6) (by omega))
    have h4 : GT.sizes [vT x.n0, if pickN x.n3 2 = 0 then numT (pickN x.n2 4) else vT x.n1] ≤ 80 := tsizes_le 40 _ fun t ht => by
      simp only [List.mem_cons, List.not_mem_nil, or_false] at ht
      rcases ht with rfl | rfl
      · exact vT_size _
      · split
        · exact numT_size _
        · exact vT_size _
    simp only [GL.size, GL.enc, bulkA, bulkAs, GT.bulk_encs]; omega
  · have h3 := vName_size _ (pickN_lt (c := x.n0) (n := 6) (by omega))
    have h4 : GT.sizes [vT x.n1, if pickN (x.n3.tdiv 2) 2 = 0 then numT 1 else vT x.n2] ≤ 80 := tsizes_le 40 _ fun t ht => by
      simp only [List.mem_cons, List.not_mem_nil, or_false] at ht
      rcases ht with rfl | rfl
      · exact vT_size _
      · split
        · exact numT_size _
        · exact vT_size _
    have h5 : (if pickN x.n3 2 = 0 then (⟨#[43]⟩ : ByteArray) else ⟨#[45]⟩).size ≤ 1 := by split <;> decide
    have h0 : (ByteArray.mk #[]).size = 0 := rfl
    simp only [GL.size, GL.enc, bulkA, bulkAs, GT.bulk_encs, GT.sizes, GT.size, GV.size, GV.sizes, h0] at h4 ⊢; omega
theorem aggN_size (n : Nat) : (aggN n).size ≤ 5 := by
  unfold aggN
  split
  · decide
  split <;> decide
theorem ruleR_size (l : List GRaw) (n : Nat) : (ruleR l n).size ≤ 1000 := by
  have h1 := atomR_size (headR l)
  have h2 := relR_size (headR l)
  have h3 := aggN_size (pickN ((headR l).kind.tdiv 5) 3)
  have h4 : bulkAs ((bodyR l).map GL.enc) ≤ 200 * (bodyR l).length := bulkAs_le GL.enc 200 _ fun y hy => by
    obtain ⟨x, rfl⟩ := bodyR_mem l hy
    exact litR_size x
  have h5 := (bodyR_len l).2
  have h6 : ((⟨#[114]⟩ : ByteArray) ++ ⟨#[UInt8.ofNat (97 + n)]⟩).size = 2 := by rw [ByteArray.size_append]; rfl
  have h7 : (if aggR (headR l) = true then aggN (pickN ((headR l).kind.tdiv 5) 3) else ⟨#[]⟩).size ≤ 5 := by
    split
    · exact h3
    · decide
  simp only [ruleR, GR.size, GR.enc, bulkA, bulkAs, GT.bulk_encs, h6]; omega
end Go.Proofs.YtjfgjnlocadpbaaGreatDoor
end
section
set_option maxRecDepth 100000
namespace Go.Proofs.YtjfgjnlocadpbaaGreatDoor
open Go.Mach
end Go.Proofs.YtjfgjnlocadpbaaGreatDoor
end
section
set_option maxRecDepth 100000
namespace Go.Proofs.YtjfgjnlocadpbaaGreatDoor
open Go.Mach
def bN (n : ByteArray) : ByteArray := ⟨#[78]⟩ ++ n
mutual
def turnT : GT → GT
  | .mk k n v l => if k = 1 then .mk 1 (bN n) (.mk 0 0 ⟨#[]⟩ []) [] else .mk k n v (turnL l)
def turnL : List GT → List GT
  | [] => []
  | t :: l => turnT t :: turnL l
end
mutual
theorem vs1_turn : ∀ t : GT, vs1 (turnT t) = (vs1 t).map bN
  | .mk k n v l => by
    by_cases h : k = 1
    · simp [turnT, vs1, h]
    · simp only [turnT, vs1, if_neg h]
      exact vsL_turn l
theorem vsL_turn : ∀ l : List GT, vsL (turnL l) = (vsL l).map bN
  | [] => rfl
  | t :: l => by simp only [turnL, vsL, List.map_append, vs1_turn t, vsL_turn l]
end
end Go.Proofs.YtjfgjnlocadpbaaGreatDoor
end
section
namespace Go.Proofs.YtjfgjnlocadpbaaGreatDoor
open Go.Mach
structure IsRaw (P : Program) (tR tA tI : TypeId) : Prop where
  fs : ∃ fs : Array Field, P.underlying tR = some (.struct fs) ∧ fs.toList.map (·.type) = [tI, tI, tA]
  arr : P.underlying tA = some (.array 4 tI)
  int : P.underlying tI = some (.int .i64)
theorem asRaw {P : Program} {tR tA tI : TypeId} (hT : IsRaw P tR tA tI) {x : AV} (h : TyA P tR x) : ∃ v : GRaw, x = v.enc ∧ v.ok := by
  have e1 : IntKind.i64.min = -9223372036854775808 := by decide
  have e2 : IntKind.i64.max = 9223372036854775807 := by decide
  obtain ⟨fs0, hf0, hts⟩ := hT.fs
  obtain ⟨vs, rfl, hl, hv⟩ := h.asStruct hf0
  have hlen : vs.length = 3 := by rw [hl, ← List.length_map (f := (·.type)), hts]; rfl
  match vs, hlen with
  | [x0, x1, x2], _ =>
    obtain ⟨y0, rfl, p0, q0⟩ := (field_ty hts hv (i := 0) rfl rfl).asInt hT.int
    obtain ⟨y1, rfl, p1, q1⟩ := (field_ty hts hv (i := 1) rfl rfl).asInt hT.int
    obtain ⟨ws, rfl, hwl, hw⟩ := (field_ty hts hv (i := 2) rfl rfl).asArray hT.arr
    match ws, hwl with
    | [w0, w1, w2, w3], _ =>
      obtain ⟨z0, rfl, a0, b0⟩ := (hw w0 (by simp)).asInt hT.int
      obtain ⟨z1, rfl, a1, b1⟩ := (hw w1 (by simp)).asInt hT.int
      obtain ⟨z2, rfl, a2, b2⟩ := (hw w2 (by simp)).asInt hT.int
      obtain ⟨z3, rfl, a3, b3⟩ := (hw w3 (by simp)).asInt hT.int
      rw [e1] at p0 p1 a0 a1 a2 a3; rw [e2] at q0 q1 b0 b1 b2 b3
      exact ⟨⟨y0, y1, z0, z1, z2, z3⟩, by simp [GRaw.enc, flat], ⟨p0, q0⟩, ⟨p1, q1⟩, ⟨a0, b0⟩, ⟨a1, b1⟩, ⟨a2, b2⟩, ⟨a3, b3⟩⟩
theorem argRaws {P : Program} {tL tR tA tI : TypeId} (hT : IsRaw P tR tA tI) (hL : P.underlying tL = some (.slice tR)) {x : AV} (h : TyA P tL x) (hb : bulkA x ≤ 1048576) : ∃ l : List GRaw, x = .isl (l.map GRaw.enc) false ∧ FactsOk l := by
  obtain ⟨es, rfl, hes⟩ := h.asSlice hL
  obtain ⟨l, rfl, hl⟩ := list_enc GRaw.enc GRaw.ok es fun z hz => asRaw hT (hes z hz)
  have := bulk_len (l.map GRaw.enc)
  simp only [bulkA, List.length_map] at hb this
  exact ⟨l, rfl, hl, by omega⟩
theorem tyRaw : IsRaw Tryz.prog 66 64 3 := ⟨fieldTys_some (by kernel_rfl), by kernel_rfl, by kernel_rfl⟩
theorem argF6 {x : AV} (h : TyA Tryz.prog 48 x) (hb : bulkA x ≤ 1048576) : ∃ l : List GRaw, x = .isl (l.map GRaw.enc) false ∧ FactsOk l := argRaws tyRaw (by kernel_rfl) h hb
end Go.Proofs.YtjfgjnlocadpbaaGreatDoor
end
section
namespace Go.Proofs.YtjfgjnlocadpbaaGreatDoor
open Go.Mach
structure GPl where
  from' : ByteArray
  to : ByteArray
  head : ByteArray
abbrev nilB : ByteArray := ⟨#[]⟩
def nilPl : GPl := ⟨nilB, nilB, nilB⟩
def GPl.enc (p : GPl) : AV := .agg [.str p.from', .str p.to, .str p.head]
abbrev sLink : ByteArray := ⟨#[108, 105, 110, 107]⟩
structure RS where
  all : List ByteArray
  links : List ((ByteArray × ByteArray) × Int)
  atoms : Nat
def lookW (m : List ((ByteArray × ByteArray) × Int)) (a b : ByteArray) : Option Int := (m.find? fun p => decide (p.1.1 = a ∧ p.1.2 = b)).map (·.2)
def linkL (l : GL) : Bool := decide (l.name = sLink) && decide ((l.args[1]?).map GT.kind = some 1)
def arg1 (l : GL) : ByteArray := ((l.args[1]?).map GT.name).getD nilB
def setW (m : List ((ByteArray × ByteArray) × Int)) (a b : ByteArray) (i : Int) : List ((ByteArray × ByteArray) × Int) := if (lookW m a b).isSome = true then m else m ++ [((a, b), i)]
def stepR (s : RS) (l : GL) (a : GT) (i : Nat) : RS :=
  if l.kind = 2 then ⟨addB s.all a.name, s.links, s.atoms⟩
  else ⟨addB s.all a.name, if linkL l = true then setW s.links a.name (arg1 l) i else s.links, s.atoms + 1⟩
def readGo : List GL → Nat → RS → Option RS
  | [], _, s => some s
  | l :: ls, i, s => if l.kind = 1 ∨ l.kind = 2 then (match l.args with
      | [] => none
      | a :: _ => if a.kind = 1 then readGo ls (i + 1) (stepR s l a i) else none) else readGo ls (i + 1) s
def readP (body : List GL) : Option RS := match readGo body 0 ⟨[], [], 0⟩ with
  | some s => if 0 < s.atoms then some s else none
  | none => none
def oneP (s : RS) (a head : ByteArray) : Option GPl := if head = a ∨ (lookW s.links a head).isSome = true then some ⟨a, nilB, head⟩ else none
def twoP (s : RS) (a b head : ByteArray) : Option GPl := match lookW s.links a b, lookW s.links b a with
  | none, none => none
  | some _, none => if head = a ∨ head = b then some ⟨a, b, head⟩ else none
  | none, some _ => if head = a ∨ head = b then some ⟨b, a, head⟩ else none
  | some i, some k => if head = a ∨ head = b then some (if k < i then ⟨b, a, head⟩ else ⟨a, b, head⟩) else none
def placeQ (s : RS) (head : ByteArray) : Option GPl := match s.all with
  | [a] => oneP s a head
  | [a, b] => twoP s a b head
  | _ => none
def headK (r : GR) : Int := ((r.args[0]?).map GT.kind).getD 0
def headN (r : GR) : ByteArray := ((r.args[0]?).map GT.name).getD nilB
def aggOk (r : GR) (p : GPl) : Bool := decide (r.agg = nilB) || (decide (p.to = nilB) && decide (p.head = p.from'))
def placeP (r : GR) : Option GPl :=
  if ruleB r = true ∧ r.head ≠ sLink ∧ headK r = 1 then (match readP r.body with
    | none => none
    | some s => match placeQ s (headN r) with
      | none => none
      | some p => if aggOk r p = true then some p else none) else none
theorem mem_addB7 (b : List ByteArray) (n m : ByteArray) : m ∈ addB b n ↔ m ∈ b ∨ m = n := by
  unfold addB
  split
  · rename_i h
    have := (memB_iff n b).1 h
    constructor
    · exact .inl
    · rintro (h | rfl)
      · exact h
      · exact this
  · simp
theorem nodup_addB7 {b : List ByteArray} (h : b.Nodup) (n : ByteArray) : (addB b n).Nodup := by
  unfold addB
  split
  · exact h
  · rename_i hn
    rw [List.nodup_append]
    refine ⟨h, by simp, fun x hx y hy e => ?_⟩
    simp at hy; subst hy e
    exact hn ((memB_iff x b).2 hx)
theorem lookW_set (m : List ((ByteArray × ByteArray) × Int)) (a b c d : ByteArray) (i : Int) : lookW (setW m a b i) c d = if (lookW m c d).isSome = true then lookW m c d else if a = c ∧ b = d then some i else none := by
  unfold setW
  split
  · rename_i h
    split
    · rfl
    · rename_i h2
      split
      · rename_i e; obtain ⟨rfl, rfl⟩ := e; exact absurd h h2
      · cases h3 : lookW m c d with
        | none => rfl
        | some _ => rw [h3] at h2; simp at h2
  · rename_i h
    unfold lookW
    rw [List.find?_append]
    cases h3 : m.find? fun p => decide (p.1.1 = c ∧ p.1.2 = d) with
    | some q => simp
    | none =>
      simp only [Option.none_or, Option.map_none, Option.isSome_none, Bool.false_eq_true, if_false, List.find?_cons, List.find?_nil]
      by_cases e : a = c ∧ b = d
      · simp [e]
      · simp [e]
theorem lookW_some {m : List ((ByteArray × ByteArray) × Int)} {a b c d : ByteArray} {i : Int} : (lookW (setW m a b i) c d).isSome = true ↔ (lookW m c d).isSome = true ∨ (a = c ∧ b = d) := by
  rw [lookW_set]
  split
  · rename_i h; simp [h]
  · rename_i h
    split
    · rename_i e; simp [e]
    · rename_i e; simp [h, e]
def linkOf (l : GL) (a b : ByteArray) : Prop := l.kind = 1 ∧ linkL l = true ∧ (∃ t, l.args[0]? = some t ∧ t.name = a) ∧ arg1 l = b
theorem read_spec : ∀ (ls : List GL) (i : Nat) (s t : RS), readGo ls i s = some t →
    (∀ m, m ∈ t.all ↔ m ∈ s.all ∨ ∃ l ∈ ls, (l.kind = 1 ∨ l.kind = 2) ∧ ∃ x, l.args[0]? = some x ∧ x.name = m) ∧
    (∀ l ∈ ls, l.kind = 1 ∨ l.kind = 2 → ∃ x, l.args[0]? = some x ∧ x.kind = 1) ∧
    (∀ a b, (lookW t.links a b).isSome = true ↔ (lookW s.links a b).isSome = true ∨ ∃ l ∈ ls, linkOf l a b) ∧ (s.all.Nodup → t.all.Nodup)
  | [], i, s, t, h => by
    injection h with h; subst h
    simp
  | l :: ls, i, s, t, h => by
    simp only [readGo] at h
    by_cases hk : l.kind = 1 ∨ l.kind = 2
    · rw [if_pos hk] at h
      cases ha : l.args with
      | nil => rw [ha] at h; cases h
      | cons a as' =>
        rw [ha] at h
        simp only at h
        by_cases hv : a.kind = 1
        · rw [if_pos hv] at h
          obtain ⟨h1, h2, h3, h4⟩ := read_spec ls (i + 1) _ t h
          have hall : (stepR s l a i).all = addB s.all a.name := by unfold stepR; split <;> rfl
          have hl0 : l.args[0]? = some a := by rw [ha]; rfl
          refine ⟨fun m => ?_, fun x hx => ?_, fun c d => ?_, fun hn => h4 ?_⟩
          · rw [h1, hall, mem_addB7]
            constructor
            · rintro ((h | rfl) | ⟨x, hx, h⟩)
              · exact .inl h
              · exact .inr ⟨l, by simp, hk, a, hl0, rfl⟩
              · exact .inr ⟨x, by simp [hx], h⟩
            · rintro (h | ⟨x, hx, hxk, y, hy, rfl⟩)
              · exact .inl (.inl h)
              · rcases List.mem_cons.1 hx with rfl | hx
                · rw [hl0] at hy; injection hy with hy; subst hy; exact .inl (.inr rfl)
                · exact .inr ⟨x, hx, hxk, y, hy, rfl⟩
          · rcases List.mem_cons.1 hx with rfl | hx
            · exact fun _ => ⟨a, hl0, hv⟩
            · exact h2 x hx
          · rw [h3]
            have hs : (lookW (stepR s l a i).links c d).isSome = true ↔ (lookW s.links c d).isSome = true ∨ linkOf l c d := by
              unfold stepR
              by_cases hk2 : l.kind = 2
              · rw [if_pos hk2]
                constructor
                · exact .inl
                · rintro (h | ⟨h, _⟩)
                  · exact h
                  · omega
              · rw [if_neg hk2]
                have hk1 : l.kind = 1 := by rcases hk with h | h; exact h; exact absurd h hk2
                simp only
                by_cases hll : linkL l = true
                · rw [if_pos hll, lookW_some]
                  constructor
                  · rintro (h | ⟨rfl, rfl⟩)
                    · exact .inl h
                    · exact .inr ⟨hk1, hll, ⟨a, hl0, rfl⟩, rfl⟩
                  · rintro (h | ⟨_, _, ⟨y, hy, rfl⟩, rfl⟩)
                    · exact .inl h
                    · rw [hl0] at hy; injection hy with hy; subst hy; exact .inr ⟨rfl, rfl⟩
                · rw [if_neg hll]
                  constructor
                  · exact .inl
                  · rintro (h | ⟨_, h, _⟩)
                    · exact h
                    · exact absurd h hll
            rw [hs]
            constructor
            · rintro ((h | h) | ⟨x, hx, h⟩)
              · exact .inl h
              · exact .inr ⟨l, by simp, h⟩
              · exact .inr ⟨x, by simp [hx], h⟩
            · rintro (hq | ⟨x, hx, hq⟩)
              · exact .inl (.inl hq)
              · rcases List.mem_cons.1 hx with rfl | hx
                · exact .inl (.inr hq)
                · exact .inr ⟨x, hx, hq⟩
          · rw [hall]; exact nodup_addB7 hn a.name
        · rw [if_neg hv] at h; cases h
    · rw [if_neg hk] at h
      obtain ⟨h1, h2, h3, h4⟩ := read_spec ls (i + 1) s t h
      refine ⟨fun m => ?_, fun x hx => ?_, fun c d => ?_, h4⟩
      · rw [h1]
        constructor
        · rintro (h | ⟨x, hx, h⟩)
          · exact .inl h
          · exact .inr ⟨x, by simp [hx], h⟩
        · rintro (h | ⟨x, hx, hxk, h⟩)
          · exact .inl h
          · rcases List.mem_cons.1 hx with rfl | hx
            · exact absurd hxk hk
            · exact .inr ⟨x, hx, hxk, h⟩
      · rcases List.mem_cons.1 hx with rfl | hx
        · exact fun h => absurd h hk
        · exact h2 x hx
      · rw [h3]
        constructor
        · rintro (h | ⟨x, hx, h⟩)
          · exact .inl h
          · exact .inr ⟨x, by simp [hx], h⟩
        · rintro (hq | ⟨x, hx, hq⟩)
          · exact .inl hq
          · rcases List.mem_cons.1 hx with rfl | hx
            · exact absurd (.inl hq.1) hk
            · exact .inr ⟨x, hx, hq⟩
end Go.Proofs.YtjfgjnlocadpbaaGreatDoor
end
section
namespace Go.Proofs.YtjfgjnlocadpbaaGreatDoor
open Go.Mach
def link1 (a b : ByteArray) (l : GL) : Bool := decide (l.kind = 1) && decide (l.name = sLink) && decide (1 < l.args.length) && decide ((l.args[0]?).map GT.name = some a) && decide ((l.args[1]?).map GT.kind = some 1) && decide ((l.args[1]?).map GT.name = some b)
def linkedB (body : List GL) (a b : ByteArray) : Bool := body.any (link1 a b)
theorem link1_iff (a b : ByteArray) (l : GL) : link1 a b l = true ↔ linkOf l a b := by
  unfold link1 linkOf linkL arg1
  simp only [Bool.and_eq_true, decide_eq_true_eq]
  constructor
  · rintro ⟨⟨⟨⟨⟨h1, h2⟩, h3⟩, h4⟩, h5⟩, h6⟩
    refine ⟨h1, ⟨h2, h5⟩, ?_, by rw [h6]; rfl⟩
    obtain ⟨t, ht, e⟩ := Option.map_eq_some_iff.1 h4
    exact ⟨t, ht, e⟩
  · rintro ⟨h1, ⟨h2, h5⟩, ⟨t, ht, e⟩, h6⟩
    obtain ⟨y, hy, _⟩ := Option.map_eq_some_iff.1 h5
    have h3 := (List.getElem?_eq_some_iff.1 hy).1
    refine ⟨⟨⟨⟨⟨h1, h2⟩, h3⟩, by rw [ht, ← e]; rfl⟩, h5⟩, ?_⟩
    rw [hy] at h6 ⊢
    simp at h6 ⊢
    exact h6
theorem linked_iff (body : List GL) (a b : ByteArray) : linkedB body a b = true ↔ ∃ l ∈ body, linkOf l a b := by
  unfold linkedB
  rw [List.any_eq_true]
  constructor
  · rintro ⟨l, h1, h2⟩; exact ⟨l, h1, (link1_iff a b l).1 h2⟩
  · rintro ⟨l, h1, h2⟩; exact ⟨l, h1, (link1_iff a b l).2 h2⟩
theorem var_ne {t : GT} (h : termR 8 t = true) (hk : t.kind = 1) : t.name ≠ nilB := by
  intro e
  have : termR 8 t = termB t (t.args.all (termR 7)) := rfl
  rw [this] at h
  unfold termB at h
  rw [if_pos hk, e] at h
  simp only [Bool.and_eq_true] at h
  exact absurd h.2 (by decide)
theorem lit_names {l : GL} (h : litB l = true) (hk : l.kind = 1 ∨ l.kind = 2) : (∃ t, l.args[0]? = some t) ∧ ∀ t ∈ l.args, t.kind = 1 → t.name ≠ nilB := by
  unfold litB at h
  rw [if_pos hk] at h
  simp only [Bool.and_eq_true, argsB] at h
  obtain ⟨_, ⟨h1, h2⟩, h3⟩ := h
  refine ⟨?_, fun t ht htk => var_ne (List.all_eq_true.1 h2 t ht) htk⟩
  cases ha : l.args with
  | nil => rw [ha] at h3; cases h3
  | cons a as' => exact ⟨a, rfl⟩
theorem readP_spec {body : List GL} {s : RS} (h : readP body = some s) : (∀ m, m ∈ s.all ↔ ∃ l ∈ body, (l.kind = 1 ∨ l.kind = 2) ∧ ∃ x, l.args[0]? = some x ∧ x.name = m) ∧
    (∀ l ∈ body, l.kind = 1 ∨ l.kind = 2 → ∃ x, l.args[0]? = some x ∧ x.kind = 1) ∧ (∀ a b, (lookW s.links a b).isSome = true ↔ linkedB body a b = true) ∧ s.all.Nodup := by
  unfold readP at h
  cases hg : readGo body 0 ⟨[], [], 0⟩ with
  | none => rw [hg] at h; cases h
  | some t =>
    rw [hg] at h
    simp only at h
    split at h
    · injection h with h; subst h
      obtain ⟨h1, h2, h3, h4⟩ := read_spec body 0 _ _ hg
      refine ⟨fun m => ?_, h2, fun a b => ?_, h4 List.nodup_nil⟩
      · rw [h1]; simp
      · rw [h3, linked_iff]
        constructor
        · rintro (h | h)
          · cases h
          · exact h
        · exact .inr
    · cases h
def atB (p : GPl) (l : GL) : Bool := decide (0 < l.args.length) && decide ((l.args[0]?).map GT.kind = some 1) && (decide ((l.args[0]?).map GT.name = some p.from') || (decide (p.to ≠ nilB) && decide ((l.args[0]?).map GT.name = some p.to)))
structure PlaceOk (r : GR) (p : GPl) : Prop where
  at' : ∀ l ∈ r.body, l.kind = 1 ∨ l.kind = 2 → atB p l = true
  ne : p.from' ≠ p.to
  head : headN r = p.head
  two : p.to ≠ nilB → linkedB r.body p.from' p.to = true ∧ (p.head = p.from' ∨ p.head = p.to)
  one : p.to = nilB → p.head ≠ p.from' → linkedB r.body p.from' p.head = true
  agg : r.agg ≠ nilB → p.to = nilB ∧ p.head = p.from'
theorem place_cases {r : GR} {p : GPl} (h : placeP r = some p) : ruleB r = true ∧ r.head ≠ sLink ∧ headK r = 1 ∧ ∃ s, readP r.body = some s ∧ placeQ s (headN r) = some p ∧ aggOk r p = true := by
  unfold placeP at h
  split at h
  · rename_i hc
    obtain ⟨h1, h2, h3⟩ := hc
    refine ⟨h1, h2, h3, ?_⟩
    cases hr : readP r.body with
    | none => rw [hr] at h; cases h
    | some s =>
      rw [hr] at h
      simp only at h
      cases hq : placeQ s (headN r) with
      | none => rw [hq] at h; cases h
      | some q =>
        rw [hq] at h
        simp only at h
        split at h
        · rename_i ha
          injection h with h; subst h
          exact ⟨s, rfl, hq, ha⟩
        · cases h
  · cases h
end Go.Proofs.YtjfgjnlocadpbaaGreatDoor
end
section
namespace Go.Proofs.YtjfgjnlocadpbaaGreatDoor
open Go.Mach
theorem names_ne {r : GR} (hb : ruleB r = true) {s : RS} (hr : readP r.body = some s) : ∀ m ∈ s.all, m ≠ nilB := fun m hm => by
  obtain ⟨h1, h2, _, _⟩ := readP_spec hr
  unfold ruleB at hb
  simp only [Bool.and_eq_true] at hb
  obtain ⟨l, hl, hk, x, hx, rfl⟩ := (h1 m).1 hm
  obtain ⟨y, hy, hyk⟩ := h2 l hl hk
  rw [hx] at hy; injection hy with hy; subst hy
  exact (lit_names (List.all_eq_true.1 hb.1.2 l hl) hk).2 x (List.mem_of_getElem? hx) hyk
theorem read_more : ∀ (ls : List GL) (x : GL) (i : Nat) (s : RS), readGo (ls ++ [x]) i s = (readGo ls i s).bind (readGo [x] (i + ls.length))
  | [], x, i, s => rfl
  | l :: ls, x, i, s => by
    simp only [List.cons_append, readGo]
    have e : i + (l :: ls).length = (i + 1) + ls.length := by simp only [List.length_cons]; omega
    rw [e]
    split
    · cases l.args with
      | nil => rfl
      | cons a as' =>
        simp only
        split
        · exact read_more ls x (i + 1) _
        · rfl
    · exact read_more ls x (i + 1) s
theorem from_mem {s : RS} {head : ByteArray} {p : GPl} (h : placeQ s head = some p) : p.from' ∈ s.all := by
  unfold placeQ at h
  split at h
  · rename_i a hall
    rw [hall]
    unfold oneP at h
    split at h
    · injection h with h; subst h; simp
    · cases h
  · rename_i a b hall
    rw [hall]
    unfold twoP at h
    split at h
    · cases h
    · split at h
      · injection h with h; subst h; simp
      · cases h
    · split at h
      · injection h with h; subst h; simp
      · cases h
    · split at h
      · injection h with h; subst h
        split <;> simp
      · cases h
  · cases h
def moreR (r : GR) (x : GL) : GR := { r with body := r.body ++ [x] }
theorem more_B {r : GR} {x : GL} (h : ruleB r = true) (hx : litB x = true) (hl : r.body.length < 8) : ruleB (moreR r x) = true := by
  unfold ruleB at h ⊢
  simp only [Bool.and_eq_true] at h
  obtain ⟨⟨⟨⟨⟨b1, b2⟩, b3⟩, b4⟩, b5⟩, b6⟩ := h
  have e1 : (moreR r x).label = r.label := rfl
  have e2 : (moreR r x).head = r.head := rfl
  have e3 : (moreR r x).args = r.args := rfl
  have e4 : (moreR r x).body = r.body ++ [x] := rfl
  have e6 : aggB (moreR r x) = true := b6
  have e7 : decide (1 ≤ (r.body ++ [x]).length ∧ (r.body ++ [x]).length ≤ 8) = true := by simp; omega
  rw [e1, e2, e3, e4, e6, e7, b1, b2, b3, List.all_append, b5]
  simp [hx]
theorem place_more {r : GR} {p : GPl} {x : GL} (h : placeP r = some p) (hb : ruleB (moreR r x) = true) (hx : ∀ s i, readP r.body = some s → p.from' ∈ s.all → ∃ n, readGo [x] i s = some ⟨s.all, s.links, n⟩ ∧ s.atoms ≤ n) : placeP (moreR r x) = some p := by
  obtain ⟨h1, h2, h3, s, hr, hq, ha⟩ := place_cases h
  have hr2 : ∃ n, readP (r.body ++ [x]) = some ⟨s.all, s.links, n⟩ := by
    unfold readP at hr ⊢
    rw [read_more]
    cases hg : readGo r.body 0 ⟨[], [], 0⟩ with
    | none => rw [hg] at hr; cases hr
    | some t =>
      rw [hg] at hr
      simp only at hr
      split at hr
      · rename_i hat
        injection hr with hr; subst hr
        obtain ⟨n, hn, hle⟩ := hx t (0 + r.body.length) (by unfold readP; rw [hg]; simp only [if_pos hat]) (from_mem hq)
        refine ⟨n, ?_⟩
        simp only [Option.bind_some, hn]
        rw [if_pos (by omega)]
      · cases hr
  obtain ⟨n, hr2⟩ := hr2
  have hc : ruleB (moreR r x) = true ∧ (moreR r x).head ≠ sLink ∧ headK (moreR r x) = 1 := ⟨hb, h2, h3⟩
  unfold placeP
  rw [if_pos hc]
  have e4 : (moreR r x).body = r.body ++ [x] := rfl
  have e5 : headN (moreR r x) = headN r := rfl
  have e6 : placeQ ⟨s.all, s.links, n⟩ (headN r) = some p := hq
  have e7 : aggOk (moreR r x) p = true := ha
  rw [e4, hr2, e5]
  simp only [e6, e7, if_true]
theorem place_other {r : GR} {p : GPl} {x : GL} {a : GT} {o : ByteArray} (h : placeP r = some p) (hk : x.kind = 1) (hxa : x.args = [a]) (hak : a.kind = 1) (han : a.name = o) (hnl : x.name ≠ sLink)
    (ho : ∀ l ∈ r.body, (l.kind = 1 ∨ l.kind = 2) → ∀ t ∈ l.args, t.kind = 1 → t.name ≠ o) : placeP (moreR r x) = none := by
  obtain ⟨h1, h2, h3, s, hr, hq, ha⟩ := place_cases h
  obtain ⟨q1, q2, q3, q4⟩ := readP_spec hr
  have hno : o ∉ s.all := fun hm => by
    obtain ⟨l, hl, hlk, y, hy, e⟩ := (q1 o).1 hm
    obtain ⟨z, hz, hzk⟩ := q2 l hl hlk
    rw [hy] at hz; injection hz with hz; subst hz
    exact ho l hl hlk y (List.mem_of_getElem? hy) hzk e
  have hmem : memB o s.all = false := by
    cases hm : memB o s.all with
    | false => rfl
    | true => exact absurd ((memB_iff _ _).1 hm) hno
  have hadd : addB s.all o = s.all ++ [o] := by unfold addB; rw [hmem]; rfl
  have hll : linkL x = false := by unfold linkL; rw [decide_eq_false hnl]; rfl
  have hstep : ∀ i, readGo [x] i s = some ⟨s.all ++ [o], s.links, s.atoms + 1⟩ := fun i => by
    simp only [readGo, hk, true_or, if_true, hxa, hak, stepR, han, hadd, hll, Bool.false_eq_true, if_false]
    rfl
  have hr2 : readP (r.body ++ [x]) = some ⟨s.all ++ [o], s.links, s.atoms + 1⟩ := by
    unfold readP at hr ⊢
    rw [read_more]
    cases hg : readGo r.body 0 ⟨[], [], 0⟩ with
    | none => rw [hg] at hr; cases hr
    | some t =>
      rw [hg] at hr
      simp only at hr
      split at hr
      · injection hr with hr; subst hr
        simp only [Option.bind_some, hstep]
        rw [if_pos (by omega)]
      · cases hr
  have hno1 : ∀ c, lookW s.links c o = none := fun c => by
    cases hl : lookW s.links c o with
    | none => rfl
    | some v =>
      exfalso
      have := (q3 c o).1 (by rw [hl]; rfl)
      obtain ⟨l, hl, hk, hll, _, e⟩ := (linked_iff _ _ _).1 this
      unfold linkL at hll
      simp only [Bool.and_eq_true, decide_eq_true_eq] at hll
      obtain ⟨t, ht, htk⟩ := Option.map_eq_some_iff.1 hll.2
      unfold arg1 at e
      rw [ht] at e
      exact ho l hl (.inl hk) t (List.mem_of_getElem? ht) htk e
  have hno2 : ∀ c, lookW s.links o c = none := fun c => by
    cases hl : lookW s.links o c with
    | none => rfl
    | some v =>
      exfalso
      have := (q3 o c).1 (by rw [hl]; rfl)
      obtain ⟨l, hl, hk, _, ⟨t, ht, e⟩, _⟩ := (linked_iff _ _ _).1 this
      obtain ⟨z, hz, hzk⟩ := q2 l hl (.inl hk)
      rw [ht] at hz; injection hz with hz; subst hz
      exact ho l hl (.inl hk) t (List.mem_of_getElem? ht) hzk e
  have hq2 : placeQ ⟨s.all ++ [o], s.links, s.atoms + 1⟩ (headN r) = none := by
    unfold placeQ at hq ⊢
    split at hq
    · rename_i b hall
      simp only [hall, List.cons_append, List.nil_append, twoP, hno1, hno2]
    · rename_i b c hall
      simp only [hall, List.cons_append, List.nil_append]
    · cases hq
  unfold placeP
  have e4 : (moreR r x).body = r.body ++ [x] := rfl
  have e5 : headN (moreR r x) = headN r := rfl
  split
  · rw [e4, hr2, e5]
    simp only [hq2]
  · rfl
end Go.Proofs.YtjfgjnlocadpbaaGreatDoor
end
section
namespace Go.Proofs.YtjfgjnlocadpbaaGreatDoor
open Go.Mach
abbrev kW (a b : ByteArray) : AV := .agg [.str a, .str b]
def encW (m : List ((ByteArray × ByteArray) × Int)) : List (AV × AV) := m.map fun p => (kW p.1.1 p.1.2, .int .i64 p.2)
def idxW (a b : ByteArray) : List ((ByteArray × ByteArray) × Int) → Nat
  | [] => 0
  | p :: m => if a = p.1.1 ∧ b = p.1.2 then 0 else idxW a b m + 1
theorem mfind_w (a b : ByteArray) : ∀ (m : List ((ByteArray × ByteArray) × Int)) (i : Nat), mfind true [2, 2] [.str a, .str b] i (encW m) = some ((lookW m a b).map fun v => (i + idxW a b m, .int .i64 v))
  | [], i => rfl
  | p :: m, i => by
    have ih := mfind_w a b m (i + 1)
    simp only [encW, List.map_cons, mfind, keyC, if_true, Option.bind_some, eqcs_str, eqcs_nil, Option.map_some, Bool.and_true] at ih ⊢
    by_cases h : a = p.1.1 ∧ b = p.1.2
    · obtain ⟨h1, h2⟩ := h
      simp [lookW, List.find?_cons, idxW, h1, h2]
    · have hl : lookW (p :: m) a b = lookW m a b := by
        unfold lookW
        rw [List.find?_cons]
        have : decide (p.1.1 = a ∧ p.1.2 = b) = false := decide_eq_false fun e => h ⟨e.1.symm, e.2.symm⟩
        rw [this]
      have hd : (decide (a = p.1.1) && decide (b = p.1.2)) = false := by
        rw [← Bool.not_eq_true, Bool.and_eq_true, decide_eq_true_eq, decide_eq_true_eq]; exact h
      rw [hd, hl]
      simp only [ih, idxW, if_neg h]
      congr 2
      funext v
      congr 1
      omega
theorem mlook_w {σ : Heap} {id : Nat} {m : List ((ByteArray × ByteArray) × Int)} (h : σ[id]? = some (.mp (encW m))) (a b : ByteArray) : mlookA σ true [2, 2] (.int .i64 0) true (.map id) (kW a b) = some (.tup [.int .i64 ((lookW m a b).getD 0), .bool (lookW m a b).isSome]) := by
  simp only [mlookA, keyC, if_true, Option.bind_some, eqcs_str, eqcs_nil, Option.map_some, Option.isSome_some, mapOf, h, mfind_w]
  cases lookW m a b <;> simp [lookV]
theorem mset_w {σ : Heap} {id : Nat} {m : List ((ByteArray × ByteArray) × Int)} (h : σ[id]? = some (.mp (encW m))) (a b : ByteArray) (i : Int) (hn : lookW m a b = none) : msetA σ true [2, 2] (.map id) (kW a b) (.int .i64 i) = some (σ.set id (.mp (encW (setW m a b i)))) := by
  have hcl : closeA σ (.int .i64 i) = some (.int .i64 i, σ) := by simp
  have hk : (kW a b).clo = true := rfl
  simp only [msetA, keyC, if_true, Option.bind_some, eqcs_str, eqcs_nil, Option.map_some, Option.isSome_some, true_and, hk, hcl, h, mfind_w, hn, Option.map_none]
  have hs : setW m a b i = m ++ [((a, b), i)] := by unfold setW; rw [hn]; rfl
  rw [hs]
  simp [encW, AV.clo, AV.clo1]
end Go.Proofs.YtjfgjnlocadpbaaGreatDoor
end
