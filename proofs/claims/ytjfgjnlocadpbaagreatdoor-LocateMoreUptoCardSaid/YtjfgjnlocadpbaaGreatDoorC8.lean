import Derived.Test.YtjfgjnlocadpbaaGreatDoorC7
set_option linter.unusedVariables false
set_option linter.unusedSimpArgs false
set_option linter.unnecessarySimpa false
section
set_option maxRecDepth 100000
namespace Go.Proofs.YtjfgjnlocadpbaaGreatDoor
open Go.Mach
abbrev plA (j : Nat) (l : List ByteArray) (k : Nat) (n : Int) : AV := .agg [.own j (l.map .str), .map k, .int .i64 n]
theorem has7 {σ : Heap} {k : Nat} {m : List ((ByteArray × ByteArray) × Int)} (hk : σ[k]? = some (.mp (encW m))) (j : Nat) (l : List ByteArray) (n : Int) (a b : ByteArray) (bs : Nat) :
    callT T 49 [plA j l k n, .str a, .str b] bs σ = some (.bool (lookW m a b).isSome, σ) := by
  have hkl : k < σ.length := (List.getElem?_eq_some_iff.1 hk).1
  have hk2 : ∀ o, (σ ++ [o])[k]? = some (.mp (encW m)) := fun o => by rw [List.getElem?_append_left hkl]; exact hk
  refine heap_enter (args' := [plA j l k n, .str a, .str b]) (σ1 := σ) (af := c49) rfl rfl (by simp [c49]) (by simp [c49]) rfl ?_
  simp [c49, baseA, setRun, mlook_w (hk2 _), res1, dropA_gc, refLt, refLt2_bool]
theorem one7 {σ : Heap} {k : Nat} {m : List ((ByteArray × ByteArray) × Int)} (hk : σ[k]? = some (.mp (encW m))) (j : Nat) (a head : ByteArray) (n : Int) (bs : Nat) :
    callT T 25 [plA j [a] k n, .str head] bs σ = some (.tup [.agg [.str a, .str nilB, .str head], .bool (decide (head = a) || (lookW m a head).isSome)], σ) := by
  have hkl : k < σ.length := (List.getElem?_eq_some_iff.1 hk).1
  have hk2 : ∀ o o', (σ ++ [o, o'])[k]? = some (.mp (encW m)) := fun o o' => by rw [List.getElem?_append_left hkl]; exact hk
  have hh := fun o o' => has7 (hk2 o o') j [a] n a head
  simp only [plA, List.map_cons, List.map_nil] at hh
  refine heap_enter (args' := [plA j [a] k n, .str head]) (σ1 := σ) (af := c25) rfl rfl (by simp [c25]) (by simp [c25]) rfl ?_
  by_cases he : head = a
  · simp [c25, baseA, setRun, he, res1, dropA_gc, refLt]
    exact ⟨rfl, refLt2_bool _ _⟩
  · simp [c25, baseA, setRun, he, hh, res1, dropA_gc, refLt]
    exact ⟨rfl, refLt2_bool _ _⟩
theorem con7 (l : List ByteArray) (s : ByteArray) (hl : l.length ≤ 100000000000) (j : Nat) (bs : Nat) (σ : Heap) : callT T 48 [.own j (l.map .str), .str s] bs σ = some (.bool (memB s l), σ) := by
  have h := conS_ok l s hl
  have := call_pure (T := T) (f := 48) (bs := bs) (σ := σ) (σ' := σ) (args := [.own j (l.map .str), .str s]) rfl rfl rfl (by simp [closeT, closeA, close1, close0]) (by simp) h
  exact this
theorem two7 {σ : Heap} {k : Nat} {m : List ((ByteArray × ByteArray) × Int)} (hk : σ[k]? = some (.mp (encW m))) (j : Nat) (a b head : ByteArray) (n : Int) (bs : Nat) :
    callT T 26 [plA j [a, b] k n, .str head] bs σ = some (match lookW m a b, lookW m b a with
      | none, none => .tup [.agg [.str nilB, .str nilB, .str nilB], .bool false]
      | some _, none => .tup [.agg [.str a, .str b, .str head], .bool (memB head [a, b])]
      | none, some _ => .tup [.agg [.str b, .str a, .str head], .bool (memB head [a, b])]
      | some i, some q => if q < i then .tup [.agg [.str b, .str a, .str head], .bool (memB head [a, b])] else .tup [.agg [.str a, .str b, .str head], .bool (memB head [a, b])], σ) := by
  have hkl : k < σ.length := (List.getElem?_eq_some_iff.1 hk).1
  have hk2 : ∀ l, (σ ++ l)[k]? = some (.mp (encW m)) := fun l => by rw [List.getElem?_append_left hkl]; exact hk
  have hc := con7 [a, b] head (by simp) j
  simp only [List.map_cons, List.map_nil] at hc
  refine heap_enter (args' := [plA j [a, b] k n, .str head]) (σ1 := σ) (af := c26) rfl rfl (by simp [c26]) (by simp [c26]) rfl ?_
  cases e1 : lookW m a b with
  | none =>
    cases e2 : lookW m b a with
    | none =>
      simp [c26, baseA, setRun, mlook_w (hk2 _), e1, e2, res1, dropA_gc, refLt]
      exact ⟨rfl, refLt2_bool _ _⟩
    | some q =>
      simp [c26, baseA, setRun, mlook_w (hk2 _), e1, e2, hc, res1, dropA_gc, refLt]
      exact ⟨rfl, refLt2_bool _ _⟩
  | some i =>
    cases e2 : lookW m b a with
    | none =>
      simp [c26, baseA, setRun, mlook_w (hk2 _), e1, e2, hc, res1, dropA_gc, refLt]
      exact ⟨rfl, refLt2_bool _ _⟩
    | some q =>
      by_cases hq : q < i
      · simp [c26, baseA, setRun, mlook_w (hk2 _), e1, e2, hc, hq, res1, dropA_gc, refLt]
        exact ⟨rfl, refLt2_bool _ _⟩
      · simp [c26, baseA, setRun, mlook_w (hk2 _), e1, e2, hc, hq, res1, dropA_gc, refLt]
        exact ⟨rfl, refLt2_bool _ _⟩
theorem conLO {N : Nat} {σ : Heap} {l : List ByteArray} {x : AV} (h : LO N 1 false σ (l.map .str) x) (s : ByteArray) (hl : l.length ≤ 100000000000) (bs : Nat) (τ : Heap) : callT T 48 [x, .str s] bs τ = some (.bool (memB s l), τ) := by
  have h1 := h.closeA τ
  have := call_pure (T := T) (f := 48) (bs := bs) (σ := τ) (σ' := τ) (args := [x, .str s]) (args' := [.isl (l.map .str) false, .str s]) rfl rfl rfl (by simp [closeT, h1, close1, close0]) (by simp) (conS_ok l s hl)
  exact this
def ReadQ (σ : Heap) (o : Option RS) (r : AV × Heap) : Prop :=
  σ.length + 2 ≤ r.2.length ∧ (∀ m, m < σ.length → r.2[m]? = σ[m]?) ∧ (match o with
    | none => ∃ x n, r.1 = .tup [.agg [x, .map (σ.length + 1), .int .i64 n], .bool false] ∧ x.cells = [x] ∧ x.solid = true
    | some s => ∃ x, r.1 = .tup [.agg [x, .map (σ.length + 1), .int .i64 (s.atoms : Int)], .bool (decide (0 < s.atoms))] ∧ LO (σ.length + 2) 1 false r.2 (s.all.map .str) x ∧ r.2[σ.length + 1]? = some (.mp (encW s.links)))
structure ReadI (σ : Heap) (body : List GL) (i : Nat) (f : FR) (τ : Heap) : Prop where
  h2 : f 2 = .ptr σ.length 0
  h12 : f 12 = .isl (body.map GL.enc) false
  h13 : f 13 = .int .i64 (body.length : Int)
  h14 : f 14 = .int .i64 (i : Int)
  len : σ.length + 2 ≤ τ.length
  frame : ∀ m, m < σ.length → τ[m]? = σ[m]?
  st : ∃ s x, readGo body 0 ⟨[], [], 0⟩ = readGo (body.drop i) i s ∧ s.atoms ≤ i ∧ s.all.length ≤ i ∧ τ[σ.length]? = some (.cells [x, .map (σ.length + 1), .int .i64 (s.atoms : Int)] 0 false) ∧ τ[σ.length + 1]? = some (.mp (encW s.links)) ∧ LO (σ.length + 2) 1 false τ (s.all.map .str) x
theorem step2 {s : RS} {l : GL} {a : GT} {i : Nat} (h : l.kind = 2) : stepR s l a i = ⟨addB s.all a.name, s.links, s.atoms⟩ := by unfold stepR; rw [if_pos h]
theorem step1n {s : RS} {l : GL} {a : GT} {i : Nat} (h : l.kind = 1) (hl : linkL l = false) : stepR s l a i = ⟨addB s.all a.name, s.links, s.atoms + 1⟩ := by unfold stepR; rw [if_neg (by omega), hl]; rfl
theorem step1l {s : RS} {l : GL} {a : GT} {i : Nat} (h : l.kind = 1) (hl : linkL l = true) : stepR s l a i = ⟨addB s.all a.name, setW s.links a.name (arg1 l) i, s.atoms + 1⟩ := by unfold stepR; rw [if_neg (by omega), hl]; rfl
set_option maxHeartbeats 4000000 in
theorem read7 (body : List GL) (ha : ∀ l ∈ body, l.kind = 1 ∨ l.kind = 2 → l.args ≠ []) (hb : body.length ≤ 100000000) (bs : Nat) (σ : Heap) (hbs : bs ≤ σ.length) :
    ∃ r, callT T 24 [.isl (body.map GL.enc) false] bs σ = some r ∧ ReadQ σ (readGo body 0 ⟨[], [], 0⟩) r := by
  refine heap_enterE (args' := [.isl (body.map GL.enc) false]) (σ1 := σ) (af := c24) rfl rfl (by simp [c24]) (by simp [c24]) (by simp [closeArgs, c24]) ?_
  have hbs1 : bs ≤ σ.length + 1 := by omega
  simp [c24, baseA, hbs, hbs1]
  refine W_for T bs 98 body.length (ReadI σ body) ?_ _ _ ?_
  · rintro i f τ hi ⟨h2, h12, h13, h14, hN, hall, s, x, hgo, hat, hal, cp, cm, hO⟩
    rw [hgo]
    have i0 : σ.length < τ.length := by omega
    have i1 : σ.length + 1 < τ.length := by omega
    have ix : x.cells = [x] := hO.cells
    have iy : x.solid = true := hO.solid
    have mlW : ∀ (τ' : Heap) (h : τ'[σ.length + 1]? = some (.mp (encW s.links))) (a b : ByteArray), mlookA τ' true [2, 2] (.int .i64 0) true (.map (σ.length + 1)) (kW a b) = some (.tup [.int .i64 ((lookW s.links a b).getD 0), .bool (lookW s.links a b).isSome]) := fun τ' h a b => mlook_w h a b
    have msW : ∀ (τ' : Heap) (h : τ'[σ.length + 1]? = some (.mp (encW s.links))) (a b : ByteArray) (hn : lookW s.links a b = none), msetA τ' true [2, 2] (.map (σ.length + 1)) (kW a b) (.int .i64 i) = some (τ'.set (σ.length + 1) (.mp (encW (setW s.links a b i)))) := fun τ' h a b hn => mset_w h a b i hn
    by_cases hlt : i < body.length
    · have hw : IntKind.i64.wrap ((i : Int) + 1) = (i : Int) + 1 := wr64 (by omega) (by omega)
      have e1 : body[i]? = some body[i] := List.getElem?_eq_getElem hlt
      rw [List.drop_eq_getElem_cons hlt] at hgo ⊢
      simp only [readGo] at hgo ⊢
      have hbody := List.getElem_mem hlt
      have ha' := ha _ hbody
      generalize hl : body[i] = l at *
      by_cases hk : l.kind = 1 ∨ l.kind = 2
      · simp only [if_pos hk] at hgo ⊢
        cases hargs : l.args with
        | nil => exact absurd hargs (ha' hk)
        | cons a rest =>
          simp only [hargs] at hgo ⊢
          have hal1 : (addB s.all a.name).length ≤ i + 1 := by
            unfold addB
            split
            · omega
            · simp; omega
          have hcon := fun bs τ' => conLO hO a.name (by omega) bs τ'
          have e0 : GT.encs (a :: rest) = a.enc :: GT.encs rest := rfl
          by_cases hav : a.kind = 1
          · simp only [if_pos hav] at hgo ⊢
            have hwa : IntKind.i64.wrap ((s.atoms : Int) + 1) = (s.atoms : Int) + 1 := wr64 (by omega) (by omega)
            rcases hk with hk | hk
            · by_cases hm : memB a.name s.all = true
              · have hadd : addB s.all a.name = s.all := by unfold addB; rw [if_pos hm]
                rw [hadd] at hal1
                by_cases hln : l.name = sLink
                · cases hrest : rest with
                  | nil =>
                    have hll : linkL l = false := by unfold linkL; rw [hargs, hrest]; simp
                    rw [step1n hk hll, hadd] at hgo ⊢
                    simp [h2, h12, h13, h14, hlt, hw, setRun, e1, hk, hav, e0, hcon, cp, cm, i0, i1, hbs, hbs1, hargs, hwa, ix, iy, hm, hln, hrest, -appendA_s, -getElem?_pos, List.getElem?_append_left, List.getElem?_append_right, List.getElem?_set_ne, list_set_at, List.getElem?_cons_zero, List.getElem?_cons_succ]
                    refine ⟨by simp [h2], by simp [h12], by simp [h13], by simp, by simp; omega, fun m hm => ?_, _, x, hgo, by simp only; omega, hal1, ?_, ?_, ?_⟩
                    · simp [-getElem?_pos, List.getElem?_append_left, List.getElem?_append_right, List.getElem?_set_ne, list_set_at, List.getElem?_cons_zero, List.getElem?_cons_succ, (show m < τ.length by omega), (show σ.length ≠ m by omega), (show σ.length + 1 ≠ m by omega)]
                      exact hall m hm
                    · simp [-getElem?_pos, List.getElem?_append_left, List.getElem?_append_right, List.getElem?_set_ne, list_set_at, List.getElem?_cons_zero, List.getElem?_cons_succ, i0, i1, cp, cm]
                    · simp [-getElem?_pos, List.getElem?_append_left, List.getElem?_append_right, List.getElem?_set_ne, list_set_at, List.getElem?_cons_zero, List.getElem?_cons_succ, i0, i1, cp, cm]
                    · refine hO.keep fun m o hm ho => ?_
                      have hml := (List.getElem?_eq_some_iff.1 ho).1
                      simp [-getElem?_pos, List.getElem?_append_left, List.getElem?_append_right, List.getElem?_set_ne, list_set_at, List.getElem?_cons_zero, List.getElem?_cons_succ, hml, (show σ.length ≠ m by omega), (show σ.length + 1 ≠ m by omega)]
                      exact ho
                  | cons b rest' =>
                    have e3 : GT.encs (b :: rest') = b.enc :: GT.encs rest' := rfl
                    have hl2 : (1 : Int) < (rest'.length : Int) + 1 + 1 := by omega
                    by_cases hbk : b.kind = 1
                    · have hll : linkL l = true := by unfold linkL; rw [hargs, hrest, hln]; simp [hbk]
                      have har : arg1 l = b.name := by unfold arg1; rw [hargs, hrest]; rfl
                      rw [step1l hk hll, har, hadd] at hgo ⊢
                      cases hlook : lookW s.links a.name b.name with
                      | some v =>
                        have hset : setW s.links a.name b.name i = s.links := by unfold setW; rw [hlook]; rfl
                        rw [hset] at hgo ⊢
                        simp [h2, h12, h13, h14, hlt, hw, setRun, e1, hk, hav, e0, hcon, cp, cm, i0, i1, hbs, hbs1, hargs, hwa, ix, iy, hm, hln, hrest, hbk, e3, hl2, hlook, mlW, -appendA_s, -getElem?_pos, List.getElem?_append_left, List.getElem?_append_right, List.getElem?_set_ne, list_set_at, List.getElem?_cons_zero, List.getElem?_cons_succ]
                        refine ⟨by simp [h2], by simp [h12], by simp [h13], by simp, by simp; omega, fun m hm => ?_, _, x, hgo, by simp only; omega, hal1, ?_, ?_, ?_⟩
                        · simp [-getElem?_pos, List.getElem?_append_left, List.getElem?_append_right, List.getElem?_set_ne, list_set_at, List.getElem?_cons_zero, List.getElem?_cons_succ, (show m < τ.length by omega), (show σ.length ≠ m by omega), (show σ.length + 1 ≠ m by omega)]
                          exact hall m hm
                        · simp [-getElem?_pos, List.getElem?_append_left, List.getElem?_append_right, List.getElem?_set_ne, list_set_at, List.getElem?_cons_zero, List.getElem?_cons_succ, i0, i1, cp, cm]
                        · simp [-getElem?_pos, List.getElem?_append_left, List.getElem?_append_right, List.getElem?_set_ne, list_set_at, List.getElem?_cons_zero, List.getElem?_cons_succ, i0, i1, cp, cm]
                        · refine hO.keep fun m o hm ho => ?_
                          have hml := (List.getElem?_eq_some_iff.1 ho).1
                          simp [-getElem?_pos, List.getElem?_append_left, List.getElem?_append_right, List.getElem?_set_ne, list_set_at, List.getElem?_cons_zero, List.getElem?_cons_succ, hml, (show σ.length ≠ m by omega), (show σ.length + 1 ≠ m by omega)]
                          exact ho
                      | none =>
                        simp [h2, h12, h13, h14, hlt, hw, setRun, e1, hk, hav, e0, hcon, cp, cm, i0, i1, hbs, hbs1, hargs, hwa, ix, iy, hm, hln, hrest, hbk, e3, hl2, hlook, mlW, msW, -appendA_s, -getElem?_pos, List.getElem?_append_left, List.getElem?_append_right, List.getElem?_set_ne, list_set_at, List.getElem?_cons_zero, List.getElem?_cons_succ]
                        refine ⟨by simp [h2], by simp [h12], by simp [h13], by simp, by simp; omega, fun m hm => ?_, _, x, hgo, by simp only; omega, hal1, ?_, ?_, ?_⟩
                        · simp [-getElem?_pos, List.getElem?_append_left, List.getElem?_append_right, List.getElem?_set_ne, list_set_at, List.getElem?_cons_zero, List.getElem?_cons_succ, (show m < τ.length by omega), (show σ.length ≠ m by omega), (show σ.length + 1 ≠ m by omega)]
                          exact hall m hm
                        · simp [-getElem?_pos, List.getElem?_append_left, List.getElem?_append_right, List.getElem?_set_ne, list_set_at, List.getElem?_cons_zero, List.getElem?_cons_succ, i0, i1, cp, cm]
                        · simp [-getElem?_pos, List.getElem?_append_left, List.getElem?_append_right, List.getElem?_set_ne, list_set_at, List.getElem?_cons_zero, List.getElem?_cons_succ, i0, i1, cp, cm]
                        · refine hO.keep fun m o hm ho => ?_
                          have hml := (List.getElem?_eq_some_iff.1 ho).1
                          simp [-getElem?_pos, List.getElem?_append_left, List.getElem?_append_right, List.getElem?_set_ne, list_set_at, List.getElem?_cons_zero, List.getElem?_cons_succ, hml, (show σ.length ≠ m by omega), (show σ.length + 1 ≠ m by omega)]
                          exact ho
                    · have hll : linkL l = false := by unfold linkL; rw [hargs, hrest]; simp [hbk]
                      rw [step1n hk hll, hadd] at hgo ⊢
                      simp [h2, h12, h13, h14, hlt, hw, setRun, e1, hk, hav, e0, hcon, cp, cm, i0, i1, hbs, hbs1, hargs, hwa, ix, iy, hm, hln, hrest, hbk, e3, hl2, -appendA_s, -getElem?_pos, List.getElem?_append_left, List.getElem?_append_right, List.getElem?_set_ne, list_set_at, List.getElem?_cons_zero, List.getElem?_cons_succ]
                      refine ⟨by simp [h2], by simp [h12], by simp [h13], by simp, by simp; omega, fun m hm => ?_, _, x, hgo, by simp only; omega, hal1, ?_, ?_, ?_⟩
                      · simp [-getElem?_pos, List.getElem?_append_left, List.getElem?_append_right, List.getElem?_set_ne, list_set_at, List.getElem?_cons_zero, List.getElem?_cons_succ, (show m < τ.length by omega), (show σ.length ≠ m by omega), (show σ.length + 1 ≠ m by omega)]
                        exact hall m hm
                      · simp [-getElem?_pos, List.getElem?_append_left, List.getElem?_append_right, List.getElem?_set_ne, list_set_at, List.getElem?_cons_zero, List.getElem?_cons_succ, i0, i1, cp, cm]
                      · simp [-getElem?_pos, List.getElem?_append_left, List.getElem?_append_right, List.getElem?_set_ne, list_set_at, List.getElem?_cons_zero, List.getElem?_cons_succ, i0, i1, cp, cm]
                      · refine hO.keep fun m o hm ho => ?_
                        have hml := (List.getElem?_eq_some_iff.1 ho).1
                        simp [-getElem?_pos, List.getElem?_append_left, List.getElem?_append_right, List.getElem?_set_ne, list_set_at, List.getElem?_cons_zero, List.getElem?_cons_succ, hml, (show σ.length ≠ m by omega), (show σ.length + 1 ≠ m by omega)]
                        exact ho
                · have hll : linkL l = false := by unfold linkL; rw [decide_eq_false hln]; rfl
                  rw [step1n hk hll, hadd] at hgo ⊢
                  simp [h2, h12, h13, h14, hlt, hw, setRun, e1, hk, hav, e0, hcon, cp, cm, i0, i1, hbs, hbs1, hargs, hwa, ix, iy, hm, hln, -appendA_s, -getElem?_pos, List.getElem?_append_left, List.getElem?_append_right, List.getElem?_set_ne, list_set_at, List.getElem?_cons_zero, List.getElem?_cons_succ]
                  refine ⟨by simp [h2], by simp [h12], by simp [h13], by simp, by simp; omega, fun m hm => ?_, _, x, hgo, by simp only; omega, hal1, ?_, ?_, ?_⟩
                  · simp [-getElem?_pos, List.getElem?_append_left, List.getElem?_append_right, List.getElem?_set_ne, list_set_at, List.getElem?_cons_zero, List.getElem?_cons_succ, (show m < τ.length by omega), (show σ.length ≠ m by omega), (show σ.length + 1 ≠ m by omega)]
                    exact hall m hm
                  · simp [-getElem?_pos, List.getElem?_append_left, List.getElem?_append_right, List.getElem?_set_ne, list_set_at, List.getElem?_cons_zero, List.getElem?_cons_succ, i0, i1, cp, cm]
                  · simp [-getElem?_pos, List.getElem?_append_left, List.getElem?_append_right, List.getElem?_set_ne, list_set_at, List.getElem?_cons_zero, List.getElem?_cons_succ, i0, i1, cp, cm]
                  · refine hO.keep fun m o hm ho => ?_
                    have hml := (List.getElem?_eq_some_iff.1 ho).1
                    simp [-getElem?_pos, List.getElem?_append_left, List.getElem?_append_right, List.getElem?_set_ne, list_set_at, List.getElem?_cons_zero, List.getElem?_cons_succ, hml, (show σ.length ≠ m by omega), (show σ.length + 1 ≠ m by omega)]
                    exact ho
              · have hm' : memB a.name s.all = false := by simpa using hm
                have hadd : addB s.all a.name = s.all ++ [a.name] := by unfold addB; rw [if_neg hm]
                simp [h2, h12, h13, h14, hlt, hw, setRun, e1, hk, hav, e0, hcon, cp, cm, i0, i1, hbs, hbs1, hargs, hwa, ix, iy, hm', -appendA_s, -getElem?_pos, List.getElem?_append_left, List.getElem?_append_right, List.getElem?_set_ne, list_set_at, List.getElem?_cons_zero, List.getElem?_cons_succ]
                refine stW_s3 (N := σ.length + 2) hO rfl rfl rfl (by omega) hN (by simp; omega) fun x1 τ1 hO1 l1 q3 q4 => ?_
                have np1 : σ.length ≠ τ.length := by omega
                have np2 : σ.length ≠ τ.length + 1 := by omega
                have np3 : σ.length + 1 ≠ τ.length := by omega
                have np4 : σ.length + 1 ≠ τ.length + 1 := by omega
                have j0 : σ.length < τ1.length := by omega
                have j1 : σ.length + 1 < τ1.length := by omega
                have ix1 : x1.cells = [x1] := hO1.cells
                have iy1 : x1.solid = true := hO1.solid
                have dp : τ1[σ.length]? = _ := (q3 _ (by omega)).trans cp
                have dm : τ1[σ.length + 1]? = _ := (q3 _ (by omega)).trans cm
                have dl : τ1[τ.length]? = some (.cells [.int .i64 1, .str l.name, .isl (a.enc :: GT.encs rest) false] 0 false) := q4 τ.length _ (by simp) (fun _ _ e => by cases e)
                have da : τ1[τ.length + 1]? = some (.cells [.int .i64 1, .str a.name, .int .i64 a.value.kind, .int .i64 a.value.num, .str a.value.text, .isl (GV.encs a.value.items) false, .isl (GT.encs a.args) false] 0 false) := q4 (τ.length + 1) _ (by simp) (fun _ _ e => by cases e)
                rw [show s.all.map AV.str ++ [.str a.name] = (addB s.all a.name).map .str by rw [hadd, List.map_append]; rfl] at hO1
                by_cases hln : l.name = sLink
                · cases hrest : rest with
                  | nil =>
                    have hll : linkL l = false := by unfold linkL; rw [hargs, hrest]; simp
                    rw [step1n hk hll] at hgo ⊢
                    simp [h2, h12, h13, h14, hlt, hw, setRun, e1, hk, hav, e0, dp, dm, dl, da, j0, j1, np1, np2, np3, np4, hbs, hbs1, hargs, hwa, ix1, iy1, hm', hln, hrest, -appendA_s, -getElem?_pos, List.getElem?_append_left, List.getElem?_append_right, List.getElem?_set_ne, list_set_at, List.getElem?_cons_zero, List.getElem?_cons_succ]
                    refine ⟨by simp [h2], by simp [h12], by simp [h13], by simp, by simp; omega, fun m hm => ?_, _, x1, hgo, by simp only; omega, hal1, ?_, ?_, ?_⟩
                    · simp [-getElem?_pos, List.getElem?_append_left, List.getElem?_append_right, List.getElem?_set_ne, list_set_at, List.getElem?_cons_zero, List.getElem?_cons_succ, (show m < τ1.length by omega), (show σ.length ≠ m by omega), (show σ.length + 1 ≠ m by omega)]
                      exact (q3 m (by omega)).trans (hall m hm)
                    · simp [-getElem?_pos, List.getElem?_append_left, List.getElem?_append_right, List.getElem?_set_ne, list_set_at, List.getElem?_cons_zero, List.getElem?_cons_succ, j0, j1, dp, dm]
                    · simp [-getElem?_pos, List.getElem?_append_left, List.getElem?_append_right, List.getElem?_set_ne, list_set_at, List.getElem?_cons_zero, List.getElem?_cons_succ, j0, j1, dp, dm]
                    · refine hO1.keep fun m o hm ho => ?_
                      have hml := (List.getElem?_eq_some_iff.1 ho).1
                      simp [-getElem?_pos, List.getElem?_append_left, List.getElem?_append_right, List.getElem?_set_ne, list_set_at, List.getElem?_cons_zero, List.getElem?_cons_succ, hml, (show σ.length ≠ m by omega), (show σ.length + 1 ≠ m by omega)]
                      exact ho
                  | cons b rest' =>
                    have e3 : GT.encs (b :: rest') = b.enc :: GT.encs rest' := rfl
                    have hl2 : (1 : Int) < (rest'.length : Int) + 1 + 1 := by omega
                    by_cases hbk : b.kind = 1
                    · have hll : linkL l = true := by unfold linkL; rw [hargs, hrest, hln]; simp [hbk]
                      have har : arg1 l = b.name := by unfold arg1; rw [hargs, hrest]; rfl
                      rw [step1l hk hll, har] at hgo ⊢
                      cases hlook : lookW s.links a.name b.name with
                      | some v =>
                        have hset : setW s.links a.name b.name i = s.links := by unfold setW; rw [hlook]; rfl
                        rw [hset] at hgo ⊢
                        simp [h2, h12, h13, h14, hlt, hw, setRun, e1, hk, hav, e0, dp, dm, dl, da, j0, j1, np1, np2, np3, np4, hbs, hbs1, hargs, hwa, ix1, iy1, hm', hln, hrest, hbk, e3, hl2, hlook, mlW, -appendA_s, -getElem?_pos, List.getElem?_append_left, List.getElem?_append_right, List.getElem?_set_ne, list_set_at, List.getElem?_cons_zero, List.getElem?_cons_succ]
                        refine ⟨by simp [h2], by simp [h12], by simp [h13], by simp, by simp; omega, fun m hm => ?_, _, x1, hgo, by simp only; omega, hal1, ?_, ?_, ?_⟩
                        · simp [-getElem?_pos, List.getElem?_append_left, List.getElem?_append_right, List.getElem?_set_ne, list_set_at, List.getElem?_cons_zero, List.getElem?_cons_succ, (show m < τ1.length by omega), (show σ.length ≠ m by omega), (show σ.length + 1 ≠ m by omega)]
                          exact (q3 m (by omega)).trans (hall m hm)
                        · simp [-getElem?_pos, List.getElem?_append_left, List.getElem?_append_right, List.getElem?_set_ne, list_set_at, List.getElem?_cons_zero, List.getElem?_cons_succ, j0, j1, dp, dm]
                        · simp [-getElem?_pos, List.getElem?_append_left, List.getElem?_append_right, List.getElem?_set_ne, list_set_at, List.getElem?_cons_zero, List.getElem?_cons_succ, j0, j1, dp, dm]
                        · refine hO1.keep fun m o hm ho => ?_
                          have hml := (List.getElem?_eq_some_iff.1 ho).1
                          simp [-getElem?_pos, List.getElem?_append_left, List.getElem?_append_right, List.getElem?_set_ne, list_set_at, List.getElem?_cons_zero, List.getElem?_cons_succ, hml, (show σ.length ≠ m by omega), (show σ.length + 1 ≠ m by omega)]
                          exact ho
                      | none =>
                        simp [h2, h12, h13, h14, hlt, hw, setRun, e1, hk, hav, e0, dp, dm, dl, da, j0, j1, np1, np2, np3, np4, hbs, hbs1, hargs, hwa, ix1, iy1, hm', hln, hrest, hbk, e3, hl2, hlook, mlW, msW, -appendA_s, -getElem?_pos, List.getElem?_append_left, List.getElem?_append_right, List.getElem?_set_ne, list_set_at, List.getElem?_cons_zero, List.getElem?_cons_succ]
                        refine ⟨by simp [h2], by simp [h12], by simp [h13], by simp, by simp; omega, fun m hm => ?_, _, x1, hgo, by simp only; omega, hal1, ?_, ?_, ?_⟩
                        · simp [-getElem?_pos, List.getElem?_append_left, List.getElem?_append_right, List.getElem?_set_ne, list_set_at, List.getElem?_cons_zero, List.getElem?_cons_succ, (show m < τ1.length by omega), (show σ.length ≠ m by omega), (show σ.length + 1 ≠ m by omega)]
                          exact (q3 m (by omega)).trans (hall m hm)
                        · simp [-getElem?_pos, List.getElem?_append_left, List.getElem?_append_right, List.getElem?_set_ne, list_set_at, List.getElem?_cons_zero, List.getElem?_cons_succ, j0, j1, dp, dm]
                        · simp [-getElem?_pos, List.getElem?_append_left, List.getElem?_append_right, List.getElem?_set_ne, list_set_at, List.getElem?_cons_zero, List.getElem?_cons_succ, j0, j1, dp, dm]
                        · refine hO1.keep fun m o hm ho => ?_
                          have hml := (List.getElem?_eq_some_iff.1 ho).1
                          simp [-getElem?_pos, List.getElem?_append_left, List.getElem?_append_right, List.getElem?_set_ne, list_set_at, List.getElem?_cons_zero, List.getElem?_cons_succ, hml, (show σ.length ≠ m by omega), (show σ.length + 1 ≠ m by omega)]
                          exact ho
                    · have hll : linkL l = false := by unfold linkL; rw [hargs, hrest]; simp [hbk]
                      rw [step1n hk hll] at hgo ⊢
                      simp [h2, h12, h13, h14, hlt, hw, setRun, e1, hk, hav, e0, dp, dm, dl, da, j0, j1, np1, np2, np3, np4, hbs, hbs1, hargs, hwa, ix1, iy1, hm', hln, hrest, hbk, e3, hl2, -appendA_s, -getElem?_pos, List.getElem?_append_left, List.getElem?_append_right, List.getElem?_set_ne, list_set_at, List.getElem?_cons_zero, List.getElem?_cons_succ]
                      refine ⟨by simp [h2], by simp [h12], by simp [h13], by simp, by simp; omega, fun m hm => ?_, _, x1, hgo, by simp only; omega, hal1, ?_, ?_, ?_⟩
                      · simp [-getElem?_pos, List.getElem?_append_left, List.getElem?_append_right, List.getElem?_set_ne, list_set_at, List.getElem?_cons_zero, List.getElem?_cons_succ, (show m < τ1.length by omega), (show σ.length ≠ m by omega), (show σ.length + 1 ≠ m by omega)]
                        exact (q3 m (by omega)).trans (hall m hm)
                      · simp [-getElem?_pos, List.getElem?_append_left, List.getElem?_append_right, List.getElem?_set_ne, list_set_at, List.getElem?_cons_zero, List.getElem?_cons_succ, j0, j1, dp, dm]
                      · simp [-getElem?_pos, List.getElem?_append_left, List.getElem?_append_right, List.getElem?_set_ne, list_set_at, List.getElem?_cons_zero, List.getElem?_cons_succ, j0, j1, dp, dm]
                      · refine hO1.keep fun m o hm ho => ?_
                        have hml := (List.getElem?_eq_some_iff.1 ho).1
                        simp [-getElem?_pos, List.getElem?_append_left, List.getElem?_append_right, List.getElem?_set_ne, list_set_at, List.getElem?_cons_zero, List.getElem?_cons_succ, hml, (show σ.length ≠ m by omega), (show σ.length + 1 ≠ m by omega)]
                        exact ho
                · have hll : linkL l = false := by unfold linkL; rw [decide_eq_false hln]; rfl
                  rw [step1n hk hll] at hgo ⊢
                  simp [h2, h12, h13, h14, hlt, hw, setRun, e1, hk, hav, e0, dp, dm, dl, da, j0, j1, np1, np2, np3, np4, hbs, hbs1, hargs, hwa, ix1, iy1, hm', hln, -appendA_s, -getElem?_pos, List.getElem?_append_left, List.getElem?_append_right, List.getElem?_set_ne, list_set_at, List.getElem?_cons_zero, List.getElem?_cons_succ]
                  refine ⟨by simp [h2], by simp [h12], by simp [h13], by simp, by simp; omega, fun m hm => ?_, _, x1, hgo, by simp only; omega, hal1, ?_, ?_, ?_⟩
                  · simp [-getElem?_pos, List.getElem?_append_left, List.getElem?_append_right, List.getElem?_set_ne, list_set_at, List.getElem?_cons_zero, List.getElem?_cons_succ, (show m < τ1.length by omega), (show σ.length ≠ m by omega), (show σ.length + 1 ≠ m by omega)]
                    exact (q3 m (by omega)).trans (hall m hm)
                  · simp [-getElem?_pos, List.getElem?_append_left, List.getElem?_append_right, List.getElem?_set_ne, list_set_at, List.getElem?_cons_zero, List.getElem?_cons_succ, j0, j1, dp, dm]
                  · simp [-getElem?_pos, List.getElem?_append_left, List.getElem?_append_right, List.getElem?_set_ne, list_set_at, List.getElem?_cons_zero, List.getElem?_cons_succ, j0, j1, dp, dm]
                  · refine hO1.keep fun m o hm ho => ?_
                    have hml := (List.getElem?_eq_some_iff.1 ho).1
                    simp [-getElem?_pos, List.getElem?_append_left, List.getElem?_append_right, List.getElem?_set_ne, list_set_at, List.getElem?_cons_zero, List.getElem?_cons_succ, hml, (show σ.length ≠ m by omega), (show σ.length + 1 ≠ m by omega)]
                    exact ho
            · by_cases hm : memB a.name s.all = true
              · have hadd : addB s.all a.name = s.all := by unfold addB; rw [if_pos hm]
                rw [hadd] at hal1
                rw [step2 hk, hadd] at hgo ⊢
                simp [h2, h12, h13, h14, hlt, hw, setRun, e1, hk, hav, e0, hcon, cp, cm, i0, i1, hbs, hbs1, hargs, hwa, ix, iy, hm, -appendA_s, -getElem?_pos, List.getElem?_append_left, List.getElem?_append_right, List.getElem?_set_ne, list_set_at, List.getElem?_cons_zero, List.getElem?_cons_succ]
                refine ⟨by simp [h2], by simp [h12], by simp [h13], by simp, by simp; omega, fun m hm => ?_, _, x, hgo, by simp only; omega, hal1, ?_, ?_, ?_⟩
                · simp [-getElem?_pos, List.getElem?_append_left, List.getElem?_append_right, List.getElem?_set_ne, list_set_at, List.getElem?_cons_zero, List.getElem?_cons_succ, (show m < τ.length by omega), (show σ.length ≠ m by omega), (show σ.length + 1 ≠ m by omega)]
                  exact hall m hm
                · simp [-getElem?_pos, List.getElem?_append_left, List.getElem?_append_right, List.getElem?_set_ne, list_set_at, List.getElem?_cons_zero, List.getElem?_cons_succ, i0, i1, cp, cm]
                · simp [-getElem?_pos, List.getElem?_append_left, List.getElem?_append_right, List.getElem?_set_ne, list_set_at, List.getElem?_cons_zero, List.getElem?_cons_succ, i0, i1, cp, cm]
                · refine hO.keep fun m o hm ho => ?_
                  have hml := (List.getElem?_eq_some_iff.1 ho).1
                  simp [-getElem?_pos, List.getElem?_append_left, List.getElem?_append_right, List.getElem?_set_ne, list_set_at, List.getElem?_cons_zero, List.getElem?_cons_succ, hml, (show σ.length ≠ m by omega), (show σ.length + 1 ≠ m by omega)]
                  exact ho
              · have hm' : memB a.name s.all = false := by simpa using hm
                have hadd : addB s.all a.name = s.all ++ [a.name] := by unfold addB; rw [if_neg hm]
                simp [h2, h12, h13, h14, hlt, hw, setRun, e1, hk, hav, e0, hcon, cp, cm, i0, i1, hbs, hbs1, hargs, hwa, ix, iy, hm', -appendA_s, -getElem?_pos, List.getElem?_append_left, List.getElem?_append_right, List.getElem?_set_ne, list_set_at, List.getElem?_cons_zero, List.getElem?_cons_succ]
                refine stW_s3 (N := σ.length + 2) hO rfl rfl rfl (by omega) hN (by simp; omega) fun x1 τ1 hO1 l1 q3 q4 => ?_
                have np1 : σ.length ≠ τ.length := by omega
                have np2 : σ.length ≠ τ.length + 1 := by omega
                have np3 : σ.length + 1 ≠ τ.length := by omega
                have np4 : σ.length + 1 ≠ τ.length + 1 := by omega
                have j0 : σ.length < τ1.length := by omega
                have j1 : σ.length + 1 < τ1.length := by omega
                have ix1 : x1.cells = [x1] := hO1.cells
                have iy1 : x1.solid = true := hO1.solid
                have dp : τ1[σ.length]? = _ := (q3 _ (by omega)).trans cp
                have dm : τ1[σ.length + 1]? = _ := (q3 _ (by omega)).trans cm
                have dl : τ1[τ.length]? = some (.cells [.int .i64 2, .str l.name, .isl (a.enc :: GT.encs rest) false] 0 false) := q4 τ.length _ (by simp) (fun _ _ e => by cases e)
                have da : τ1[τ.length + 1]? = some (.cells [.int .i64 1, .str a.name, .int .i64 a.value.kind, .int .i64 a.value.num, .str a.value.text, .isl (GV.encs a.value.items) false, .isl (GT.encs a.args) false] 0 false) := q4 (τ.length + 1) _ (by simp) (fun _ _ e => by cases e)
                rw [show s.all.map AV.str ++ [.str a.name] = (addB s.all a.name).map .str by rw [hadd, List.map_append]; rfl] at hO1
                rw [step2 hk] at hgo ⊢
                simp [h2, h12, h13, h14, hlt, hw, setRun, hk, dp, dm, dl, da, j0, j1, np1, np2, np3, np4, hbs, hbs1, ix1, iy1, -appendA_s, -getElem?_pos, List.getElem?_append_left, List.getElem?_append_right, List.getElem?_set_ne, list_set_at, List.getElem?_cons_zero, List.getElem?_cons_succ]
                refine ⟨by simp [h2], by simp [h12], by simp [h13], by simp, by simp; omega, fun m hm => ?_, _, x1, hgo, by simp only; omega, hal1, ?_, ?_, ?_⟩
                · simp [-getElem?_pos, List.getElem?_append_left, List.getElem?_append_right, List.getElem?_set_ne, list_set_at, List.getElem?_cons_zero, List.getElem?_cons_succ, (show m < τ1.length by omega), (show σ.length ≠ m by omega), (show σ.length + 1 ≠ m by omega)]
                  exact (q3 m (by omega)).trans (hall m hm)
                · simp [-getElem?_pos, List.getElem?_append_left, List.getElem?_append_right, List.getElem?_set_ne, list_set_at, List.getElem?_cons_zero, List.getElem?_cons_succ, j0, j1, dp, dm]
                · simp [-getElem?_pos, List.getElem?_append_left, List.getElem?_append_right, List.getElem?_set_ne, list_set_at, List.getElem?_cons_zero, List.getElem?_cons_succ, j0, j1, dp, dm]
                · refine hO1.keep fun m o hm ho => ?_
                  have hml := (List.getElem?_eq_some_iff.1 ho).1
                  simp [-getElem?_pos, List.getElem?_append_left, List.getElem?_append_right, List.getElem?_set_ne, list_set_at, List.getElem?_cons_zero, List.getElem?_cons_succ, hml, (show σ.length ≠ m by omega), (show σ.length + 1 ≠ m by omega)]
                  exact ho
          · simp only [if_neg hav] at hgo ⊢
            rcases hk with hk | hk <;> simp [h2, h12, h13, h14, hlt, hw, setRun, e1, hk, hav, e0, hargs, cp, cm, i0, i1, hbs, hbs1, ix, iy, -getElem?_pos, List.getElem?_append_left, List.getElem?_append_right, List.getElem?_set_ne, list_set_at, List.getElem?_cons_zero, List.getElem?_cons_succ]
            all_goals
              refine ⟨by simp; omega, fun m hm => ?_, x, _, rfl, ix, iy⟩
              have hm1 : m < τ.length := by omega
              simp [-getElem?_pos, List.getElem?_append_left, List.getElem?_append_right, List.getElem?_set_ne, list_set_at, List.getElem?_cons_zero, List.getElem?_cons_succ, hm1, (show σ.length ≠ m by omega)]
              exact hall m hm
      · simp only [if_neg hk] at hgo ⊢
        have k1 : ¬ l.kind = 1 := fun e => hk (.inl e)
        have k2 : ¬ l.kind = 2 := fun e => hk (.inr e)
        simp [h2, h12, h13, h14, hlt, hw, k1, k2, setRun, e1, i0, i1, -getElem?_pos, List.getElem?_append_left, List.getElem?_append_right, List.getElem?_set_ne, list_set_at, List.getElem?_cons_zero, List.getElem?_cons_succ]
        refine ⟨by simp [h2], by simp [h12], by simp [h13], by simp, by simp; omega, fun m hm => ?_, s, x, hgo, by omega, by omega, ?_, ?_, ?_⟩
        · rw [List.getElem?_append_left (by omega)]; exact hall m hm
        · rw [List.getElem?_append_left (by omega)]; exact cp
        · rw [List.getElem?_append_left (by omega)]; exact cm
        · exact hO.keep fun m o _ ho => by rw [List.getElem?_append_left (List.getElem?_eq_some_iff.1 ho).1]; exact ho
    · have he : i = body.length := by omega
      subst he
      rw [List.drop_length]
      simp [h2, h12, h13, h14, cp, i0, hbs, ix, iy, setRun, readGo, -getElem?_pos, List.getElem?_append_left, List.getElem?_append_right, List.getElem?_set_ne, list_set_at, List.getElem?_cons_zero, List.getElem?_cons_succ]
      have hfr : ∀ o m, m < σ.length → (τ.set σ.length o)[m]? = σ[m]? := fun o m hm => by rw [List.getElem?_set_ne (by omega)]; exact hall m hm
      have hOk : ∀ o, LO (σ.length + 2) 1 false (τ.set σ.length o) (s.all.map .str) x := fun o => hO.keep fun m q hm ho => by rw [List.getElem?_set_ne (by omega)]; exact ho
      have hmk : ∀ o, (τ.set σ.length o)[σ.length + 1]? = some (.mp (encW s.links)) := fun o => by rw [List.getElem?_set_ne (by omega)]; exact cm
      refine ⟨fun h0 => ⟨by simp; omega, hfr _, x, by simp [h0], hOk _, hmk _⟩, fun h0 => ⟨by simp; omega, hfr _, x, by simp [h0], hOk _, hmk _⟩⟩
  · refine ⟨by simp, by simp, by simp, by simp, by simp, fun m hm => ?_, ⟨[], [], 0⟩, .isl [] true, rfl, Nat.le_refl _, Nat.le_refl _, ?_, ?_, .inl ⟨rfl, rfl⟩⟩
    · rw [List.getElem?_append_left hm]
    · simp
    · simp [encW]
end Go.Proofs.YtjfgjnlocadpbaaGreatDoor
end
section
set_option maxRecDepth 100000
namespace Go.Proofs.YtjfgjnlocadpbaaGreatDoor
open Go.Mach
theorem text_empty (r : GR) : textRule r = nilB ↔ ¬ ruleB r = true := by
  unfold textRule
  split
  · rename_i h
    constructor
    · intro e
      exfalso
      have h1 : (S (shRule r)).data.toList = nilB.data.toList := by rw [e]
      have h2 : (S (shRule r)).data.toList = shRule r := by simp [S]
      rw [h2] at h1
      unfold shRule at h1
      simp at h1
    · exact fun e => absurd h e
  · rename_i h
    exact ⟨fun _ => h, fun _ => rfl⟩
theorem lit_args {l : GL} (h : litB l = true) (hk : l.kind = 1 ∨ l.kind = 2) : l.args ≠ [] := by
  obtain ⟨⟨t, ht⟩, _⟩ := lit_names h hk
  intro e; rw [e] at ht; cases ht
def resPl (o : Option GPl) : AV := .tup [(o.getD nilPl).enc, .bool o.isSome]
set_option maxHeartbeats 4000000 in
theorem place7 (r : GR) (hs : r.size ≤ 100000000) : pureT T c10 [r.enc] = some (resPl (placeP r)) := by
  have hsay := sayRule r (by omega)
  have hte := text_empty r
  have hbl := GR.body_len r
  simp only [GR.enc_eq] at hsay
  apply pure_enter (by simp [c10])
  by_cases hb : ruleB r = true
  · have ht : ¬ textRule r = nilB := fun e => hte.1 e hb
    have hlit : ∀ l ∈ r.body, litB l = true := by
      unfold ruleB at hb
      simp only [Bool.and_eq_true] at hb
      exact List.all_eq_true.1 hb.1.2
    have hargs : ∃ a rest, r.args = a :: rest := by
      unfold ruleB argsB at hb
      simp only [Bool.and_eq_true, decide_eq_true_eq] at hb
      cases h : r.args with
      | nil => rw [h] at hb; simp at hb
      | cons a rest => exact ⟨a, rest, rfl⟩
    obtain ⟨a, rest, har⟩ := hargs
    have e0 : GT.encs (a :: rest) = a.enc :: GT.encs rest := rfl
    rw [har, e0] at hsay
    by_cases hh : r.head = sLink
    · have hp : placeP r = none := by unfold placeP; rw [if_neg (fun h => h.2.1 hh)]
      rw [hp]
      simp [c10, har, e0, hsay, ht, eq_true hh, setRun, resPl, nilPl, GPl.enc]
    · by_cases hk : a.kind = 1
      · have hc : ruleB r = true ∧ r.head ≠ sLink ∧ headK r = 1 := ⟨hb, hh, by unfold headK; rw [har]; simp [hk]⟩
        have hn : headN r = a.name := by unfold headN; rw [har]; rfl
        obtain ⟨⟨v, σ1⟩, hcall, hl1, hfr, hq⟩ := read7 r.body (fun l hl hk => lit_args (hlit l hl) hk) (by omega) 0 [.cells [.str r.label, .str r.head, .isl (a.enc :: GT.encs rest) false, .str r.agg, .int .i64 r.pos, .isl (r.body.map GL.enc) false] 0 false, .cells [.str nilB, .str nilB, .str nilB] 0 false] (by omega)
        simp at hl1
        simp only at hfr hq
        have f0 : σ1[0]? = some (.cells [.str r.label, .str r.head, .isl (a.enc :: GT.encs rest) false, .str r.agg, .int .i64 r.pos, .isl (r.body.map GL.enc) false] 0 false) := by rw [hfr 0 (by simp)]; rfl
        have f1 : σ1[1]? = some (.cells [.str nilB, .str nilB, .str nilB] 0 false) := by rw [hfr 1 (by simp)]; rfl
        have n0 : 0 < σ1.length := by omega
        have n1 : 1 < σ1.length := by omega
        cases hg : readGo r.body 0 ⟨[], [], 0⟩ with
        | none =>
          have hp : placeP r = none := by unfold placeP readP; rw [if_pos hc, hg]
          rw [hp]
          rw [hg] at hq
          obtain ⟨x, n, hv, hx1, hx2⟩ := hq
          subst hv
          simp [c10, hsay, ht, hh, hk, har, e0, hcall, setRun, resPl, nilPl, GPl.enc, hx1, hx2, -getElem?_pos, List.getElem?_append_left, List.getElem?_append_right, List.getElem?_set_ne, list_set_at, List.getElem?_cons_zero, List.getElem?_cons_succ, n0, n1, f0, f1]
          done
        | some s =>
          rw [hg] at hq
          obtain ⟨x, hv, hO, hm⟩ := hq
          subst hv
          have n3 : 3 < σ1.length := by omega
          have hm3 : σ1[3]? = some (.mp (encW s.links)) := hm
          have hm4 : ∀ o : AObj, (σ1 ++ [o])[3]? = some (.mp (encW s.links)) := fun o => by rw [List.getElem?_append_left n3]; exact hm3
          by_cases hat : 0 < s.atoms
          · have hrp : readP r.body = some s := by unfold readP; rw [hg]; simp only [if_pos hat]
            have hpl : placeP r = match placeQ s a.name with
                | none => none
                | some p => if aggOk r p = true then some p else none := by unfold placeP; rw [if_pos hc, hrp, hn] <;> rfl
            rcases hO with ⟨hnil, rfl⟩ | ⟨j, rfl, _, _, _⟩
            · have hall : s.all = [] := by simpa using hnil
              have hq0 : placeQ s a.name = none := by unfold placeQ; rw [hall]
              rw [hq0] at hpl
              rw [hpl]
              simp [c10, hsay, ht, hh, hk, har, e0, hcall, setRun, n0, n1, f0, f1, -getElem?_pos, List.getElem?_append_left, List.getElem?_append_right, List.getElem?_set_ne, list_set_at, List.getElem?_cons_zero, List.getElem?_cons_succ, hat, resPl, nilPl, GPl.enc]
            · match hall : s.all with
              | [] =>
                have hq0 : placeQ s a.name = none := by unfold placeQ; rw [hall]
                rw [hq0] at hpl
                rw [hpl]
                simp [c10, hsay, ht, hh, hk, har, e0, hcall, setRun, n0, n1, f0, f1, -getElem?_pos, List.getElem?_append_left, List.getElem?_append_right, List.getElem?_set_ne, list_set_at, List.getElem?_cons_zero, List.getElem?_cons_succ, hat, hall, resPl, nilPl, GPl.enc]
              | [b] =>
                have hone := fun o bs => one7 (hm4 o) j b a.name (s.atoms : Int) bs
                simp only [plA, List.map_cons, List.map_nil] at hone
                have hq0 : placeQ s a.name = oneP s b a.name := by unfold placeQ; rw [hall]
                rw [hq0] at hpl
                unfold oneP at hpl
                by_cases hok : a.name = b ∨ (lookW s.links b a.name).isSome = true
                · rw [if_pos hok] at hpl
                  have hok' : (decide (a.name = b) || (lookW s.links b a.name).isSome) = true := by simpa using hok
                  rw [hok'] at hone
                  by_cases hag : r.agg = nilB
                  · have hpl2 : placeP r = some ⟨b, nilB, a.name⟩ := by rw [hpl]; simp [aggOk, hag]
                    rw [hpl2]
                    simp [c10, hsay, ht, hh, hk, har, e0, hcall, setRun, n0, n1, f0, f1, -getElem?_pos, List.getElem?_append_left, List.getElem?_append_right, List.getElem?_set_ne, list_set_at, List.getElem?_cons_zero, List.getElem?_cons_succ, hat, hall, hone, eq_true hag, resPl, GPl.enc]
                    done
                  · by_cases hhb : a.name = b
                    · have hpl2 : placeP r = some ⟨b, nilB, a.name⟩ := by rw [hpl]; simp [aggOk, hag, hhb]
                      rw [hpl2]
                      simp [c10, hsay, ht, hh, hk, har, e0, hcall, setRun, n0, n1, f0, f1, -getElem?_pos, List.getElem?_append_left, List.getElem?_append_right, List.getElem?_set_ne, list_set_at, List.getElem?_cons_zero, List.getElem?_cons_succ, hat, hall, hone, hag, eq_true hhb, resPl, GPl.enc]
                      done
                    · have hpl2 : placeP r = none := by rw [hpl]; simp [aggOk, hag, hhb]
                      rw [hpl2]
                      simp [c10, hsay, ht, hh, hk, har, e0, hcall, setRun, n0, n1, f0, f1, -getElem?_pos, List.getElem?_append_left, List.getElem?_append_right, List.getElem?_set_ne, list_set_at, List.getElem?_cons_zero, List.getElem?_cons_succ, hat, hall, hone, hag, hhb, resPl, nilPl, GPl.enc]
                      done
                · rw [if_neg hok] at hpl
                  have hok' : (decide (a.name = b) || (lookW s.links b a.name).isSome) = false := by
                    cases h : (decide (a.name = b) || (lookW s.links b a.name).isSome) with
                    | false => rfl
                    | true => exact absurd (by simpa using h) hok
                  rw [hok'] at hone
                  rw [hpl]
                  simp [c10, hsay, ht, hh, hk, har, e0, hcall, setRun, n0, n1, f0, f1, -getElem?_pos, List.getElem?_append_left, List.getElem?_append_right, List.getElem?_set_ne, list_set_at, List.getElem?_cons_zero, List.getElem?_cons_succ, hat, hall, hone, resPl, nilPl, GPl.enc]
                  done
              | [b, c] =>
                have hne := names_ne hb hrp
                have htw := fun o bs => two7 (hm4 o) j b c a.name (s.atoms : Int) bs
                simp only [plA, List.map_cons, List.map_nil] at htw
                have hq0 : placeQ s a.name = twoP s b c a.name := by unfold placeQ; rw [hall]
                rw [hq0] at hpl
                unfold twoP at hpl
                cases e1 : lookW s.links b c with
                | none =>
                  cases e2 : lookW s.links c b with
                  | none =>
                    rw [e1, e2] at hpl
                    simp only [e1, e2] at htw
                    rw [hpl]
                    simp [c10, hsay, ht, hh, hk, har, e0, hcall, setRun, n0, n1, f0, f1, -getElem?_pos, List.getElem?_append_left, List.getElem?_append_right, List.getElem?_set_ne, list_set_at, List.getElem?_cons_zero, List.getElem?_cons_succ, hat, hall, htw, resPl, nilPl, GPl.enc]
                  | some q =>
                    rw [e1, e2] at hpl
                    simp only [e1, e2] at htw
                    simp only at hpl
                    have hnt : ¬ b = nilB := hne b (by rw [hall]; simp)
                    by_cases hmem : a.name = b ∨ a.name = c
                    · have hmb : memB a.name [b, c] = true := by unfold memB; simpa using hmem
                      rw [hmb] at htw
                      rw [if_pos hmem] at hpl
                      by_cases hag : r.agg = nilB
                      · have hpl2 : placeP r = some ⟨c, b, a.name⟩ := by rw [hpl]; simp [aggOk, hag]
                        rw [hpl2]
                        simp [c10, hsay, ht, hh, hk, har, e0, hcall, setRun, n0, n1, f0, f1, -getElem?_pos, List.getElem?_append_left, List.getElem?_append_right, List.getElem?_set_ne, list_set_at, List.getElem?_cons_zero, List.getElem?_cons_succ, hat, hall, htw, eq_true hag, resPl, GPl.enc]
                      · have hpl2 : placeP r = none := by rw [hpl]; simp [aggOk, hag, hnt]
                        rw [hpl2]
                        simp [c10, hsay, ht, hh, hk, har, e0, hcall, setRun, n0, n1, f0, f1, -getElem?_pos, List.getElem?_append_left, List.getElem?_append_right, List.getElem?_set_ne, list_set_at, List.getElem?_cons_zero, List.getElem?_cons_succ, hat, hall, htw, hag, hnt, resPl, nilPl, GPl.enc]
                    · have hmb : memB a.name [b, c] = false := by
                        cases h : memB a.name [b, c] with
                        | false => rfl
                        | true => exact absurd (by unfold memB at h; simpa using h) hmem
                      rw [hmb] at htw
                      rw [if_neg hmem] at hpl
                      rw [hpl]
                      simp [c10, hsay, ht, hh, hk, har, e0, hcall, setRun, n0, n1, f0, f1, -getElem?_pos, List.getElem?_append_left, List.getElem?_append_right, List.getElem?_set_ne, list_set_at, List.getElem?_cons_zero, List.getElem?_cons_succ, hat, hall, htw, resPl, nilPl, GPl.enc]
                | some i =>
                  cases e2 : lookW s.links c b with
                  | none =>
                    rw [e1, e2] at hpl
                    simp only [e1, e2] at htw
                    simp only at hpl
                    have hnt : ¬ c = nilB := hne c (by rw [hall]; simp)
                    by_cases hmem : a.name = b ∨ a.name = c
                    · have hmb : memB a.name [b, c] = true := by unfold memB; simpa using hmem
                      rw [hmb] at htw
                      rw [if_pos hmem] at hpl
                      by_cases hag : r.agg = nilB
                      · have hpl2 : placeP r = some ⟨b, c, a.name⟩ := by rw [hpl]; simp [aggOk, hag]
                        rw [hpl2]
                        simp [c10, hsay, ht, hh, hk, har, e0, hcall, setRun, n0, n1, f0, f1, -getElem?_pos, List.getElem?_append_left, List.getElem?_append_right, List.getElem?_set_ne, list_set_at, List.getElem?_cons_zero, List.getElem?_cons_succ, hat, hall, htw, eq_true hag, resPl, GPl.enc]
                      · have hpl2 : placeP r = none := by rw [hpl]; simp [aggOk, hag, hnt]
                        rw [hpl2]
                        simp [c10, hsay, ht, hh, hk, har, e0, hcall, setRun, n0, n1, f0, f1, -getElem?_pos, List.getElem?_append_left, List.getElem?_append_right, List.getElem?_set_ne, list_set_at, List.getElem?_cons_zero, List.getElem?_cons_succ, hat, hall, htw, hag, hnt, resPl, nilPl, GPl.enc]
                    · have hmb : memB a.name [b, c] = false := by
                        cases h : memB a.name [b, c] with
                        | false => rfl
                        | true => exact absurd (by unfold memB at h; simpa using h) hmem
                      rw [hmb] at htw
                      rw [if_neg hmem] at hpl
                      rw [hpl]
                      simp [c10, hsay, ht, hh, hk, har, e0, hcall, setRun, n0, n1, f0, f1, -getElem?_pos, List.getElem?_append_left, List.getElem?_append_right, List.getElem?_set_ne, list_set_at, List.getElem?_cons_zero, List.getElem?_cons_succ, hat, hall, htw, resPl, nilPl, GPl.enc]
                  | some q =>
                    rw [e1, e2] at hpl
                    simp only [e1, e2] at htw
                    simp only at hpl
                    by_cases hqi : q < i
                    · simp only [if_pos hqi] at htw hpl
                      have hnt : ¬ b = nilB := hne b (by rw [hall]; simp)
                      by_cases hmem : a.name = b ∨ a.name = c
                      · have hmb : memB a.name [b, c] = true := by unfold memB; simpa using hmem
                        rw [hmb] at htw
                        rw [if_pos hmem] at hpl
                        by_cases hag : r.agg = nilB
                        · have hpl2 : placeP r = some ⟨c, b, a.name⟩ := by rw [hpl]; simp [aggOk, hag]
                          rw [hpl2]
                          simp [c10, hsay, ht, hh, hk, har, e0, hcall, setRun, n0, n1, f0, f1, -getElem?_pos, List.getElem?_append_left, List.getElem?_append_right, List.getElem?_set_ne, list_set_at, List.getElem?_cons_zero, List.getElem?_cons_succ, hat, hall, htw, eq_true hag, resPl, GPl.enc]
                        · have hpl2 : placeP r = none := by rw [hpl]; simp [aggOk, hag, hnt]
                          rw [hpl2]
                          simp [c10, hsay, ht, hh, hk, har, e0, hcall, setRun, n0, n1, f0, f1, -getElem?_pos, List.getElem?_append_left, List.getElem?_append_right, List.getElem?_set_ne, list_set_at, List.getElem?_cons_zero, List.getElem?_cons_succ, hat, hall, htw, hag, hnt, resPl, nilPl, GPl.enc]
                      · have hmb : memB a.name [b, c] = false := by
                          cases h : memB a.name [b, c] with
                          | false => rfl
                          | true => exact absurd (by unfold memB at h; simpa using h) hmem
                        rw [hmb] at htw
                        rw [if_neg hmem] at hpl
                        rw [hpl]
                        simp [c10, hsay, ht, hh, hk, har, e0, hcall, setRun, n0, n1, f0, f1, -getElem?_pos, List.getElem?_append_left, List.getElem?_append_right, List.getElem?_set_ne, list_set_at, List.getElem?_cons_zero, List.getElem?_cons_succ, hat, hall, htw, resPl, nilPl, GPl.enc]
                    · simp only [if_neg hqi] at htw hpl
                      have hnt : ¬ c = nilB := hne c (by rw [hall]; simp)
                      by_cases hmem : a.name = b ∨ a.name = c
                      · have hmb : memB a.name [b, c] = true := by unfold memB; simpa using hmem
                        rw [hmb] at htw
                        rw [if_pos hmem] at hpl
                        by_cases hag : r.agg = nilB
                        · have hpl2 : placeP r = some ⟨b, c, a.name⟩ := by rw [hpl]; simp [aggOk, hag]
                          rw [hpl2]
                          simp [c10, hsay, ht, hh, hk, har, e0, hcall, setRun, n0, n1, f0, f1, -getElem?_pos, List.getElem?_append_left, List.getElem?_append_right, List.getElem?_set_ne, list_set_at, List.getElem?_cons_zero, List.getElem?_cons_succ, hat, hall, htw, eq_true hag, resPl, GPl.enc]
                        · have hpl2 : placeP r = none := by rw [hpl]; simp [aggOk, hag, hnt]
                          rw [hpl2]
                          simp [c10, hsay, ht, hh, hk, har, e0, hcall, setRun, n0, n1, f0, f1, -getElem?_pos, List.getElem?_append_left, List.getElem?_append_right, List.getElem?_set_ne, list_set_at, List.getElem?_cons_zero, List.getElem?_cons_succ, hat, hall, htw, hag, hnt, resPl, nilPl, GPl.enc]
                      · have hmb : memB a.name [b, c] = false := by
                          cases h : memB a.name [b, c] with
                          | false => rfl
                          | true => exact absurd (by unfold memB at h; simpa using h) hmem
                        rw [hmb] at htw
                        rw [if_neg hmem] at hpl
                        rw [hpl]
                        simp [c10, hsay, ht, hh, hk, har, e0, hcall, setRun, n0, n1, f0, f1, -getElem?_pos, List.getElem?_append_left, List.getElem?_append_right, List.getElem?_set_ne, list_set_at, List.getElem?_cons_zero, List.getElem?_cons_succ, hat, hall, htw, resPl, nilPl, GPl.enc]
              | b :: c :: d :: rest2 =>
                have hq0 : placeQ s a.name = none := by unfold placeQ; rw [hall]
                rw [hq0] at hpl
                rw [hpl]
                have l1 : ¬ ((rest2.length : Int) + 1 + 1 + 1 = 1) := by omega
                have l2 : ¬ ((rest2.length : Int) + 1 + 1 + 1 = 2) := by omega
                simp [c10, hsay, ht, hh, hk, har, e0, hcall, setRun, n0, n1, f0, f1, -getElem?_pos, List.getElem?_append_left, List.getElem?_append_right, List.getElem?_set_ne, list_set_at, List.getElem?_cons_zero, List.getElem?_cons_succ, hat, hall, l1, l2, resPl, nilPl, GPl.enc]
                done
          · have hrp : readP r.body = none := by unfold readP; rw [hg]; simp only [if_neg hat]
            have hpl : placeP r = none := by unfold placeP; rw [if_pos hc, hrp]
            rw [hpl]
            simp [c10, hsay, ht, hh, hk, har, e0, hcall, setRun, n0, n1, f0, f1, -getElem?_pos, List.getElem?_append_left, List.getElem?_append_right, List.getElem?_set_ne, list_set_at, List.getElem?_cons_zero, List.getElem?_cons_succ, hat, hO.solid, hO.cells, resPl, nilPl, GPl.enc]
      · have hp : placeP r = none := by unfold placeP; rw [if_neg (fun h => hk (by have := h.2.2; unfold headK at this; rw [har] at this; simpa using this))]
        rw [hp]
        simp [c10, hsay, ht, hh, hk, har, e0, setRun, resPl, nilPl, GPl.enc]
  · have ht : textRule r = nilB := hte.2 hb
    have hp : placeP r = none := by unfold placeP; rw [if_neg (fun h => hb h.1)]
    rw [hp]
    simp [c10, hsay, ht, setRun, resPl, nilPl, GPl.enc]
end Go.Proofs.YtjfgjnlocadpbaaGreatDoor
end
section
set_option maxRecDepth 100000
namespace Go.Proofs.YtjfgjnlocadpbaaGreatDoor
open Go.Mach
theorem callPlace (r : GR) (hs : r.size ≤ 100000000) (bs : Nat) (σ : Heap) : callT T 10 [r.enc] bs σ = some (resPl (placeP r), σ) := call_clean rfl rfl rfl (by simp) (place7 r hs)
theorem awake7_eval : evalFn T 300 8 [] 0 [] = some (.bool true, []) := by kernel_rfl
theorem awake7_ok : pureT T c8 [] = some (.bool true) := pureT_of_call rfl rfl rfl rfl (callT_of_eval awake7_eval)
theorem callAwake7 (bs : Nat) (σ : Heap) : callT T 8 [] bs σ = some (.bool true, σ) := call_clean rfl rfl rfl rfl awake7_ok
end Go.Proofs.YtjfgjnlocadpbaaGreatDoor
end
section
set_option maxRecDepth 100000
namespace Go.Proofs.YtjfgjnlocadpbaaGreatDoor
open Go.Mach
end Go.Proofs.YtjfgjnlocadpbaaGreatDoor
end
section
set_option maxRecDepth 100000
namespace Go.Proofs.YtjfgjnlocadpbaaGreatDoor
open Go.Mach
mutual
def turnU : GT → GT
  | .mk k n v l => .mk k (if k = 1 then bN n else n) v (turnM l)
def turnM : List GT → List GT
  | [] => []
  | t :: l => turnU t :: turnM l
end
mutual
def plainV : GT → Bool
  | .mk k n v l => if k = 1 then decide (v = .mk 0 0 ⟨#[]⟩ []) && l.isEmpty else plainVs l
def plainVs : List GT → Bool
  | [] => true
  | t :: l => plainV t && plainVs l
end
mutual
theorem turnU_plain : ∀ t : GT, plainV t = true → turnU t = turnT t
  | .mk k n v l, h => by
    by_cases hk : k = 1
    · simp only [plainV, if_pos hk, Bool.and_eq_true, decide_eq_true_eq, List.isEmpty_iff] at h
      obtain ⟨rfl, rfl⟩ := h
      subst hk
      rfl
    · simp only [plainV, if_neg hk] at h
      simp only [turnU, turnT, if_neg hk, turnM_plain l h]
theorem turnM_plain : ∀ l : List GT, plainVs l = true → turnM l = turnL l
  | [], _ => rfl
  | t :: l, h => by
    simp only [plainVs, Bool.and_eq_true] at h
    simp only [turnM, turnL, turnU_plain t h.1, turnM_plain l h.2]
end
end Go.Proofs.YtjfgjnlocadpbaaGreatDoor
end
section
set_option maxRecDepth 100000
namespace Go.Proofs.YtjfgjnlocadpbaaGreatDoor
open Go.Mach
theorem bN_size (n : ByteArray) : (bN n).size = n.size + 1 := by
  have : (⟨#[78]⟩ : ByteArray).size = 1 := rfl
  simp only [bN, ByteArray.size_append, this]; omega
mutual
theorem turnT_size : ∀ t : GT, (turnT t).size ≤ 2 * t.size
  | .mk k n v l => by
    have h0 : (ByteArray.mk #[]).size = 0 := rfl
    have h5 : 5 ≤ v.size := by cases v; simp only [GV.size]; omega
    have h1 := turnL_size l
    by_cases h : k = 1
    · simp only [turnT, if_pos h, GT.size, GT.sizes, GV.size, GV.sizes, bN_size, h0]; omega
    · simp only [turnT, if_neg h, GT.size]; omega
theorem turnL_size : ∀ l : List GT, GT.sizes (turnL l) ≤ 2 * GT.sizes l
  | [] => by simp [turnL, GT.sizes]
  | t :: l => by
    have h1 := turnT_size t
    have h2 := turnL_size l
    simp only [turnL, GT.sizes]; omega
end
theorem callPlaceI (r : GR) (hs : r.size ≤ 100000000) {σ : Heap} {a b c d e y : AV} (hd : closeA σ (.agg [a, b, c, d, e, y]) = some (r.enc, σ)) (bs : Nat) : callT T 10 [.agg [a, b, c, d, e, y]] bs σ = some (resPl (placeP r), σ) := by
  rw [call_pure (T := T) (f := 10) (bs := bs) (σ := σ) (σ' := σ) (args' := [r.enc]) rfl rfl rfl (show closeT σ [.agg [a, b, c, d, e, y]] = some ([r.enc], σ) by unfold closeT; rw [hd]; rfl) (by simp) (place7 r hs), ite_self]
end Go.Proofs.YtjfgjnlocadpbaaGreatDoor
end
section
set_option maxRecDepth 100000
namespace Go.Proofs.YtjfgjnlocadpbaaGreatDoor
open Go.Mach
abbrev sOther : ByteArray := ⟨#[79, 116, 104, 101, 114]⟩
abbrev sR : ByteArray := ⟨#[114]⟩
abbrev sEq : ByteArray := ⟨#[61, 61]⟩
def vnT (n : ByteArray) : GT := .mk 1 n (.mk 0 0 ⟨#[]⟩ []) []
theorem vTn_O : ∀ n, n < 6 → (vTn n).name ≠ sOther := by decide +kernel
theorem numT_O : ∀ n : Nat, n < 6 → (numT n).kind ≠ 1 := by decide +kernel
theorem addrT_O : ∀ n, n < 3 → (addrT n).kind ≠ 1 := by decide +kernel
theorem vT_O (c : Int) : (vT c).name ≠ sOther := vTn_O _ (pickN_lt (by omega))
theorem argR_O (k : Int) (h : (argR k).kind = 1) : (argR k).name ≠ sOther := by
  unfold argR at h ⊢
  split at h
  · exact absurd h (numT_O _ (Nat.lt_of_lt_of_le (pickN_lt (by omega)) (by omega)))
  rename_i h1
  rw [if_neg h1]
  split at h
  · exact absurd h (addrT_O _ (pickN_lt (by omega)))
  rename_i h2
  rw [if_neg h2]
  split at h
  · have : ¬ (4 : Int) = 1 := by decide
    exact absurd h this
  · rename_i h3
    rw [if_neg h3]
    exact vT_O k
theorem atomR_O (x : GRaw) : ∀ t ∈ atomR x, t.kind = 1 → t.name ≠ sOther := by
  unfold atomR argsR
  intro t ht
  obtain ⟨i, _, rfl⟩ := List.mem_map.1 ht
  split
  · exact fun _ => vT_O _
  · exact argR_O _
theorem litR_O (x : GRaw) (hk : (litR x).kind = 1 ∨ (litR x).kind = 2) : ∀ t ∈ (litR x).args, t.kind = 1 → t.name ≠ sOther := by
  unfold litR at hk ⊢
  split at hk
  · rename_i h; rw [if_pos h]; exact atomR_O x
  rename_i h; rw [if_neg h]
  split at hk
  · rename_i h2; rw [if_pos h2]; exact atomR_O x
  rename_i h2; rw [if_neg h2]
  split at hk
  · exact absurd hk (by simp)
  · exact absurd hk (by simp)
theorem vn_termR {t : GT} (h : termR 8 t = true) (hk : t.kind = 1) : termR 8 (vnT t.name) = true := by
  have e : termR 8 t = termB t (t.args.all (termR 7)) := rfl
  rw [e] at h
  unfold termB at h
  rw [if_pos hk] at h
  simp only [Bool.and_eq_true] at h
  have e2 : termR 8 (vnT t.name) = termB (vnT t.name) true := rfl
  rw [e2]
  unfold termB vnT
  simp [h.2]
  rfl
theorem more_plain {r : GR} {p : GPl} (h : placeP r = some p) (hl : r.body.length < 8) (ho : ∀ l ∈ r.body, (l.kind = 1 ∨ l.kind = 2) → ∀ t ∈ l.args, t.kind = 1 → t.name ≠ sOther) {a : GT} {rest : List GT} (ha : r.args = a :: rest) :
    placeP (moreR r ⟨3, sEq, [a, a]⟩) = some p ∧ placeP (moreR r ⟨1, sR, [vnT p.from']⟩) = some p ∧ placeP (moreR r ⟨1, sR, [vnT sOther]⟩) = none := by
  obtain ⟨hb, _, _, s, hr, hq, _⟩ := place_cases h
  obtain ⟨q1, q2, _, _⟩ := readP_spec hr
  have hb' := hb
  unfold ruleB at hb'
  simp only [Bool.and_eq_true] at hb'
  obtain ⟨⟨⟨⟨⟨_, _⟩, b3⟩, _⟩, b5⟩, _⟩ := hb'
  have hta : termR 8 a = true := by
    unfold argsB at b3
    simp only [Bool.and_eq_true] at b3
    exact List.all_eq_true.1 b3.1.2 a (by rw [ha]; simp)
  have hvf : termR 8 (vnT p.from') = true := by
    obtain ⟨l, hl', hk, x, hx, e⟩ := (q1 p.from').1 (from_mem hq)
    obtain ⟨y, hy, hyk⟩ := q2 l hl' hk
    rw [hx] at hy; injection hy with hy; subst hy
    rw [← e]
    refine vn_termR ?_ hyk
    have := List.all_eq_true.1 b5 l hl'
    unfold litB at this
    rw [if_pos hk] at this
    simp only [Bool.and_eq_true, argsB] at this
    exact List.all_eq_true.1 this.2.1.2 x (List.mem_of_getElem? hx)
  refine ⟨place_more h (more_B hb ?_ hl) fun s' i hs' hf' => ⟨s'.atoms, ?_, Nat.le_refl _⟩, place_more h (more_B hb ?_ hl) fun s' i hs' hf' => ⟨s'.atoms + 1, ?_, by omega⟩, ?_⟩
  · have : tOK sEq = true := by decide
    simp [litB, this, hta]
  · rfl
  · have : relOK sR = true := by decide +kernel
    have e1 : litB ⟨1, sR, [vnT p.from']⟩ = (relOK sR && (decide (1 ≤ 1 ∧ 1 ≤ 8) && [vnT p.from'].all (termR 8) && true)) := rfl
    rw [e1]
    simp [this, hvf]
  · have hm : memB p.from' s'.all = true := (memB_iff _ _).2 hf'
    have hadd : addB s'.all p.from' = s'.all := by unfold addB; rw [hm]; rfl
    have hll : linkL ⟨1, sR, [vnT p.from']⟩ = false := by unfold linkL; rw [decide_eq_false (show ¬ sR = sLink by decide)]; rfl
    have hn : (vnT p.from').name = p.from' := rfl
    have hk : (vnT p.from').kind = 1 := rfl
    simp only [readGo, true_or, if_true, hk, stepR, hn, hadd, hll, Bool.false_eq_true, if_false]
    rfl
  · exact place_other (o := sOther) (a := vnT sOther) h rfl rfl rfl rfl (by show sR ≠ sLink; decide) ho
theorem from_size {r : GR} {p : GPl} (h : placeP r = some p) : p.from'.size ≤ r.size := by
  obtain ⟨_, _, _, s, hr, hq, _⟩ := place_cases h
  obtain ⟨l, hl, _, x, hx, e⟩ := ((readP_spec hr).1 p.from').1 (from_mem hq)
  have h1 := GR.body_mem r hl
  have h2 := GL.args_le l
  have h3 := GT.sizes_mem (List.mem_of_getElem? hx)
  have h4 := GT.name_le x
  rw [← e]; omega
theorem moreR_size (r : GR) (x : GL) : (moreR r x).size ≤ r.size + x.size + 10 := by
  have h2 : ∀ l : List GL, bulkAs ((l ++ [x]).map GL.enc) ≤ bulkAs (l.map GL.enc) + x.size + 10 := fun l => by
    induction l with
    | nil => simp [bulkAs, GL.size]
    | cons y l ih =>
      simp only [List.cons_append, List.map_cons, bulkAs] at ih ⊢; omega
  have := h2 r.body
  simp only [moreR, GR.size, GR.enc, bulkA, bulkAs, GT.bulk_encs]; omega
theorem args_of_B' {r : GR} (hb : ruleB r = true) : ∃ a rest, r.args = a :: rest := by
  unfold ruleB argsB at hb
  simp only [Bool.and_eq_true, decide_eq_true_eq] at hb
  cases h : r.args with
  | nil => rw [h] at hb; simp at hb
  | cons a rest => exact ⟨a, rest, rfl⟩
set_option maxHeartbeats 4000000 in
theorem locateMore_ok (raws : List GRaw) (hl : FactsOk raws) : pureT T c4 [.isl (raws.map GRaw.enc) false] = some (.bool true) := by
  have hR := callRule6R raws hl.1 hl.2 0 (by omega)
  have hsz := ruleR_size raws 0
  have hb := ruleR_B raws 0 (by omega)
  have hlen : (ruleR raws 0).body.length ≤ 4 := (bodyR_len raws).2
  have ho : ∀ l ∈ (ruleR raws 0).body, (l.kind = 1 ∨ l.kind = 2) → ∀ t ∈ l.args, t.kind = 1 → t.name ≠ sOther := fun l hl => by
    obtain ⟨x, rfl⟩ := bodyR_mem raws hl
    exact litR_O x
  generalize ruleR raws 0 = r at *
  have hpl := callPlace r (by omega)
  obtain ⟨a, rest, har⟩ := args_of_B' hb
  have e3 : GT.encs (a :: rest) = a.enc :: GT.encs rest := rfl
  simp only [GR.enc_eq, har, e3, GT.enc_eq] at hR hpl
  have hc0 : ((0 : Nat) : Int) = 0 := rfl
  rw [hc0] at hR
  apply pure_enter (by simp [c4])
  cases hpp : placeP r with
  | none =>
    rw [hpp] at hpl
    simp [c4, callAwake7, hR, hpl, resPl, nilPl, GPl.enc, setRun]
  | some p =>
    obtain ⟨m1, m2, m3⟩ := more_plain hpp (by omega) ho har
    rw [hpp] at hpl
    have h8 : ¬ (8 : Int) ≤ (r.body.length : Int) := by omega
    simp [c4, callAwake7, hR, hpl, h8, resPl, GPl.enc, setRun, GT.enc_eq, -appendA_ag, -getElem?_pos, List.getElem?_append_left, List.getElem?_append_right, List.getElem?_set_ne, list_set_at, List.getElem?_cons_zero, List.getElem?_cons_succ]
    have hfs := from_size hpp
    have haz : a.size ≤ r.size := by
      have h1 := GR.args_le r
      have h2 := GT.sizes_mem (show a ∈ r.args by rw [har]; simp)
      omega
    have hrl : r.body.length ≤ 100000000 := by omega
    have pA : ∀ (x : GL) (y : AV), x.size ≤ 100000 → (∀ τ, close1 τ y = some (.isl (r.body.map GL.enc ++ [x.enc]) false, τ)) → ∀ bs σ, callT T 10 [.agg [.str r.label, .str r.head, .isl (AV.agg [AV.int IntKind.i64 a.kind, AV.str a.name, AV.int IntKind.i64 a.value.kind, AV.int IntKind.i64 a.value.num, AV.str a.value.text, AV.isl (GV.encs a.value.items) false, AV.isl (GT.encs a.args) false] :: GT.encs rest) false, .str r.agg, .int .i64 r.pos, y]] bs σ = some (resPl (placeP (moreR r x)), σ) := fun x y hx hy bs σ =>
      callPlaceI (moreR r x) (by have := moreR_size r x; omega) (by
        simp [closeA, closeL, hy, GR.enc_eq, moreR, har, e3, GT.enc_eq]) bs
    refine stW_twoS (j := 5) (k2 := 2) (nn := 2) (szy := 7) (pre := [.int .i64 3, .str sEq]) (fz := 0) (ext := false) (ys := [AV.agg [AV.int IntKind.i64 a.kind, AV.str a.name, AV.int IntKind.i64 a.value.kind, AV.int IntKind.i64 a.value.num, AV.str a.value.text, AV.isl (GV.encs a.value.items) false, AV.isl (GT.encs a.args) false], AV.agg [AV.int IntKind.i64 a.kind, AV.str a.name, AV.int IntKind.i64 a.value.kind, AV.int IntKind.i64 a.value.num, AV.str a.value.text, AV.isl (GV.encs a.value.items) false, AV.isl (GT.encs a.args) false]]) (by simp) rfl rfl rfl rfl rfl (by omega) rfl (by omega) rfl (GL.encs_okEl r.body) (by simpa using hrl) (by omega) (by omega) (by omega) (by omega) (by omega) (fun x hx => by simp at hx; rcases hx with rfl | rfl <;> simp [okRef]) fun x1 x2 σ2 L2 l2 kk => ?_
    simp at l2
    have b0 : σ2[0]? = some (.cells [AV.str r.label, AV.str r.head, AV.isl (AV.agg [AV.int IntKind.i64 a.kind, AV.str a.name, AV.int IntKind.i64 a.value.kind, AV.int IntKind.i64 a.value.num, AV.str a.value.text, AV.isl (GV.encs a.value.items) false, AV.isl (GT.encs a.args) false] :: GT.encs rest) false, AV.str r.agg, AV.int IntKind.i64 r.pos, AV.isl (List.map GL.enc r.body) false] 0 false) := by rw [kk 0 (by simp) (by omega) (by omega)]; rfl
    have b1 : σ2[1]? = some (.cells [AV.str p.from', AV.str p.to, AV.str p.head] 0 false) := by rw [kk 1 (by simp) (by omega) (by omega)]; rfl
    have b4 : σ2[4]? = some (.cells [AV.str r.label, AV.str r.head, AV.isl (AV.agg [AV.int IntKind.i64 a.kind, AV.str a.name, AV.int IntKind.i64 a.value.kind, AV.int IntKind.i64 a.value.num, AV.str a.value.text, AV.isl (GV.encs a.value.items) false, AV.isl (GT.encs a.args) false] :: GT.encs rest) false, AV.str r.agg, AV.int IntKind.i64 r.pos, AV.isl (List.map GL.enc r.body) false] 0 false) := by rw [kk 4 (by simp) (by omega) (by omega)]; rfl
    clear kk
    have p1 := pA ⟨3, sEq, [a, a]⟩ x2 (by
      have : sEq.size = 2 := rfl
      simp only [GL.size, GL.enc, bulkA, bulkAs, GT.bulk_encs, GT.sizes, this]; omega) fun τ => by
        have := L2.close1 τ
        rw [this]; simp [GL.enc, GT.enc_eq, GT.encs]
    rw [m1] at p1
    have d0 : 0 < σ2.length := by omega
    have d1 : 1 < σ2.length := by omega
    have d4 : 4 < σ2.length := by omega
    simp [b0, b1, b4, d0, d1, d4, p1, L2.solid, L2.cells, resPl, GPl.enc, setRun, -appendA_ag, -getElem?_pos, List.getElem?_append_left, List.getElem?_append_right, List.getElem?_set_ne, list_set_at, List.getElem?_cons_zero, List.getElem?_cons_succ]
    obtain ⟨m, hm⟩ : ∃ m, σ2.length = m := ⟨_, rfl⟩
    have lf : (p.from').size ≤ 1000 := by omega
    refine stW_twoS (j := m + 4) (k2 := m + 2) (nn := 1) (szy := 7) (pre := [.int .i64 1, .str sR]) (cs := [AV.int IntKind.i64 1, AV.str p.from', AV.int IntKind.i64 0, AV.int IntKind.i64 0, AV.str ⟨#[]⟩, AV.isl [] true, AV.isl [] true]) (fz := 0) (ext := false) (ys := [AV.agg [AV.int IntKind.i64 1, AV.str p.from', AV.int IntKind.i64 0, AV.int IntKind.i64 0, AV.str ⟨#[]⟩, AV.isl [] false, AV.isl [] false]]) (by simp [hm]) (by simp [hm, -appendA_ag, -getElem?_pos, List.getElem?_append_left, List.getElem?_append_right, List.getElem?_set_ne, list_set_at, List.getElem?_cons_zero, List.getElem?_cons_succ]) rfl (by simp [hm, -appendA_ag, -getElem?_pos, List.getElem?_append_left, List.getElem?_append_right, List.getElem?_set_ne, list_set_at, List.getElem?_cons_zero, List.getElem?_cons_succ]) rfl rfl (by omega) rfl (by omega) rfl (GL.encs_okEl r.body) (by simpa using hrl) (by omega) (by omega) (by omega) (by omega) (by omega) (fun x hx => by simp at hx; rcases hx with rfl | rfl <;> simp [okRef, hm] <;> omega) fun x3 x4 σ4 L4 l4 kk => ?_
    simp only [List.length_append, List.length_set, List.length_cons, List.length_nil, hm] at l4 kk
    have c0 : σ4[0]? = some (.cells [AV.str r.label, AV.str r.head, AV.isl (AV.agg [AV.int IntKind.i64 a.kind, AV.str a.name, AV.int IntKind.i64 a.value.kind, AV.int IntKind.i64 a.value.num, AV.str a.value.text, AV.isl (GV.encs a.value.items) false, AV.isl (GT.encs a.args) false] :: GT.encs rest) false, AV.str r.agg, AV.int IntKind.i64 r.pos, AV.isl (List.map GL.enc r.body) false] 0 false) := by rw [kk 0 (by omega) (by omega) (by omega), List.getElem?_append_left (by simp; omega), List.getElem?_set_ne (by omega)]; exact b0
    have c1 : σ4[1]? = some (.cells [AV.str p.from', AV.str p.to, AV.str p.head] 0 false) := by rw [kk 1 (by omega) (by omega) (by omega), List.getElem?_append_left (by simp; omega), List.getElem?_set_ne (by omega)]; exact b1
    have cm : σ4[m]? = some (.cells [AV.str p.from', AV.str p.to, AV.str p.head] 0 false) := by rw [kk m (by omega) (by omega) (by omega)]; rw [List.getElem?_append_right (by simp [hm])]; simp [hm, -appendA_ag, -getElem?_pos, List.getElem?_append_left, List.getElem?_append_right, List.getElem?_set_ne, list_set_at, List.getElem?_cons_zero, List.getElem?_cons_succ]
    have cn : σ4[m + 1]? = some (.cells [AV.str r.label, AV.str r.head, AV.isl (AV.agg [AV.int IntKind.i64 a.kind, AV.str a.name, AV.int IntKind.i64 a.value.kind, AV.int IntKind.i64 a.value.num, AV.str a.value.text, AV.isl (GV.encs a.value.items) false, AV.isl (GT.encs a.args) false] :: GT.encs rest) false, AV.str r.agg, AV.int IntKind.i64 r.pos, AV.isl (List.map GL.enc r.body) false] 0 false) := by rw [kk (m + 1) (by omega) (by omega) (by omega)]; rw [List.getElem?_append_right (by simp [hm])]; simp [hm, -appendA_ag, -getElem?_pos, List.getElem?_append_left, List.getElem?_append_right, List.getElem?_set_ne, list_set_at, List.getElem?_cons_zero, List.getElem?_cons_succ]
    clear kk
    have p2 := pA ⟨1, sR, [vnT p.from']⟩ x4 (by
      have : sR.size = 1 := rfl
      have h2 : (vnT p.from').size ≤ 2000 := by
        have h0 : (ByteArray.mk #[]).size = 0 := rfl
        simp only [vnT, GT.size, GV.size, GV.sizes, GT.sizes, h0]; omega
      simp only [GL.size, GL.enc, bulkA, bulkAs, GT.bulk_encs, GT.sizes, this]; omega) fun τ => by
        have := L4.close1 τ
        rw [this]; simp [GL.enc, GT.enc_eq, GT.encs, vnT, GV.encs, GV.kind, GV.num, GV.text, GV.items]
    rw [m2] at p2
    have e0 : 0 < σ4.length := by omega
    have e1 : 1 < σ4.length := by omega
    have em : m < σ4.length := by omega
    have en : m + 1 < σ4.length := by omega
    have nm0 : m ≠ 0 := by omega
    have nm1 : m ≠ 1 := by omega
    have nn1 : m + 1 ≠ 1 := by omega
    simp [hm, c0, c1, cm, cn, e0, e1, em, en, nm0, nm1, nn1, p2, L4.solid, L4.cells, resPl, GPl.enc, setRun, -appendA_ag, -getElem?_pos, List.getElem?_append_left, List.getElem?_append_right, List.getElem?_set_ne, list_set_at, List.getElem?_cons_zero, List.getElem?_cons_succ]
    obtain ⟨q, hq⟩ : ∃ q, σ4.length = q := ⟨_, rfl⟩
    refine stW_mk (GL.encs_okEl r.body) (by simp; omega) (by omega) (by omega) (fun x hx => by simp at hx) fun x5 σ5 L5 l5 kk => ?_
    simp only [List.length_append, List.length_set, List.length_cons, List.length_nil, hq] at l5 kk L5
    have g0 : σ5[0]? = some (.cells [AV.str r.label, AV.str r.head, AV.isl (AV.agg [AV.int IntKind.i64 a.kind, AV.str a.name, AV.int IntKind.i64 a.value.kind, AV.int IntKind.i64 a.value.num, AV.str a.value.text, AV.isl (GV.encs a.value.items) false, AV.isl (GT.encs a.args) false] :: GT.encs rest) false, AV.str r.agg, AV.int IntKind.i64 r.pos, AV.isl (List.map GL.enc r.body) false] 0 false) := by rw [kk 0 (by omega), List.getElem?_append_left (by simp; omega), List.getElem?_set_ne (by omega)]; exact c0
    have g1 : σ5[1]? = some (.cells [AV.str p.from', AV.str p.to, AV.str p.head] 0 false) := by rw [kk 1 (by omega), List.getElem?_append_left (by simp; omega), List.getElem?_set_ne (by omega)]; exact c1
    have gm : σ5[m]? = some (.cells [AV.str p.from', AV.str p.to, AV.str p.head] 0 false) := by rw [kk m (by omega), List.getElem?_append_left (by simp; omega), List.getElem?_set_ne (by omega)]; exact cm
    have gq : σ5[q]? = some (.cells [AV.str p.from', AV.str p.to, AV.str p.head] 0 false) := by rw [kk q (by omega), List.getElem?_append_right (by simp [hq])]; simp [hq, -appendA_ag, -getElem?_pos, List.getElem?_append_left, List.getElem?_append_right, List.getElem?_set_ne, list_set_at, List.getElem?_cons_zero, List.getElem?_cons_succ]
    have gr : σ5[q + 1]? = some (.cells [AV.str r.label, AV.str r.head, AV.isl (AV.agg [AV.int IntKind.i64 a.kind, AV.str a.name, AV.int IntKind.i64 a.value.kind, AV.int IntKind.i64 a.value.num, AV.str a.value.text, AV.isl (GV.encs a.value.items) false, AV.isl (GT.encs a.args) false] :: GT.encs rest) false, AV.str r.agg, AV.int IntKind.i64 r.pos, AV.isl (List.map GL.enc r.body) false] 0 false) := by rw [kk (q + 1) (by omega), List.getElem?_append_right (by simp [hq])]; simp [hq, -appendA_ag, -getElem?_pos, List.getElem?_append_left, List.getElem?_append_right, List.getElem?_set_ne, list_set_at, List.getElem?_cons_zero, List.getElem?_cons_succ]
    clear kk
    have f0 : 0 < σ5.length := by omega
    have f1 : 1 < σ5.length := by omega
    have fm : m < σ5.length := by omega
    have fq : q < σ5.length := by omega
    have fr : q + 1 < σ5.length := by omega
    obtain ⟨w, hw⟩ : ∃ w, σ5.length = w := ⟨_, rfl⟩
    simp [hq, hw, g0, g1, gm, gq, gr, f0, f1, fm, fq, fr, setRun, -appendA_ag, -getElem?_pos, List.getElem?_append_left, List.getElem?_append_right, List.getElem?_set_ne, list_set_at, List.getElem?_cons_zero, List.getElem?_cons_succ]
    have L5' := L5.keep (τ := σ5 ++ [AObj.cells [AV.int IntKind.i64 1, AV.str sOther, AV.int IntKind.i64 0, AV.int IntKind.i64 0, AV.str ⟨#[]⟩, AV.isl [] true, AV.isl [] true] 0 false, AObj.cells [AV.int IntKind.i64 1, AV.str sR, AV.sl w 0 1 7 true] 0 false]) fun i o _ hi => by rw [List.getElem?_append_left (List.getElem?_eq_some_iff.1 hi).1]; exact hi
    refine stW_recS (j := w + 1) (k2 := w) (nn := 1) (szy := 7) (pre := [.int .i64 1, .str sR]) (cs := [AV.int IntKind.i64 1, AV.str sOther, AV.int IntKind.i64 0, AV.int IntKind.i64 0, AV.str ⟨#[]⟩, AV.isl [] true, AV.isl [] true]) (fz := 0) (ext := false) (ys := [AV.agg [AV.int IntKind.i64 1, AV.str sOther, AV.int IntKind.i64 0, AV.int IntKind.i64 0, AV.str ⟨#[]⟩, AV.isl [] false, AV.isl [] false]]) L5' (by rw [List.getElem?_append_right (by omega)]; simp [hw, -appendA_ag, -getElem?_pos, List.getElem?_append_left, List.getElem?_append_right, List.getElem?_set_ne, list_set_at, List.getElem?_cons_zero, List.getElem?_cons_succ]) rfl (by rw [List.getElem?_append_right (by omega)]; simp [hw, -appendA_ag, -getElem?_pos, List.getElem?_append_left, List.getElem?_append_right, List.getElem?_set_ne, list_set_at, List.getElem?_cons_zero, List.getElem?_cons_succ]) rfl rfl (by omega) rfl (by omega) rfl (by omega) (by omega) (by simp; omega) (by simp; omega) fun x6 σ6 L6 l6 kk => ?_
    simp only [List.length_append, List.length_cons, List.length_nil, hw] at l6
    have o1 : σ6[1]? = some (.cells [AV.str p.from', AV.str p.to, AV.str p.head] 0 false) := by rw [kk 1 (by omega) (by omega) (by omega), List.getElem?_append_left (by omega)]; exact g1
    have om : σ6[m]? = some (.cells [AV.str p.from', AV.str p.to, AV.str p.head] 0 false) := by rw [kk m (by omega) (by omega) (by omega), List.getElem?_append_left (by omega)]; exact gm
    have oq : σ6[q]? = some (.cells [AV.str p.from', AV.str p.to, AV.str p.head] 0 false) := by rw [kk q (by omega) (by omega) (by omega), List.getElem?_append_left (by omega)]; exact gq
    have or' : σ6[q + 1]? = some (.cells [AV.str r.label, AV.str r.head, AV.isl (AV.agg [AV.int IntKind.i64 a.kind, AV.str a.name, AV.int IntKind.i64 a.value.kind, AV.int IntKind.i64 a.value.num, AV.str a.value.text, AV.isl (GV.encs a.value.items) false, AV.isl (GT.encs a.args) false] :: GT.encs rest) false, AV.str r.agg, AV.int IntKind.i64 r.pos, AV.isl (List.map GL.enc r.body) false] 0 false) := by rw [kk (q + 1) (by omega) (by omega) (by omega), List.getElem?_append_left (by omega)]; exact gr
    clear kk
    have p3 := pA ⟨1, sR, [vnT sOther]⟩ x6 (by decide +kernel) fun τ => by
        have := L6.close1 τ
        rw [this]; simp [GL.enc, GT.enc_eq, GT.encs, vnT, GV.encs, GV.kind, GV.num, GV.text, GV.items]
    rw [m3] at p3
    have u1 : 1 < σ6.length := by omega
    have um : m < σ6.length := by omega
    have uq : q < σ6.length := by omega
    have ur : q + 1 < σ6.length := by omega
    have nq1 : q + 1 ≠ 1 := by omega
    have nq0 : q ≠ 0 := by omega
    have nqm : q + 1 ≠ m := by omega
    have nqq : q + 1 ≠ q := by omega
    simp [o1, om, oq, or', u1, um, uq, ur, nq1, nq0, nqm, nqq, p3, L6.solid, L6.cells, resPl, nilPl, GPl.enc, setRun, eqagV, -appendA_ag, -getElem?_pos, List.getElem?_append_left, List.getElem?_append_right, List.getElem?_set_ne, list_set_at, List.getElem?_cons_zero, List.getElem?_cons_succ]
end Go.Proofs.YtjfgjnlocadpbaaGreatDoor
end
