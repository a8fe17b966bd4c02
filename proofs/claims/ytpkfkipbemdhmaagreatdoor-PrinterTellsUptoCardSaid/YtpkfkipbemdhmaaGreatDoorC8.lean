import Derived.Test.YtpkfkipbemdhmaaGreatDoorC7
section
set_option linter.unusedVariables false
set_option linter.unusedSimpArgs false
set_option linter.unnecessarySimpa false
namespace Go.Proofs.YtpkfkipbemdhmaaGreatDoor
open Go.Mach
theorem chkO_e1 (ρ : Regs) (σ σ' : Heap) (x : AX) : (chkO ρ σ σ' [x] = some ()) = (objOf σ (ev ρ x) = objOf σ' (ev ρ x)) := by
  have := sameO_iff (objOf σ (ev ρ x)) (objOf σ' (ev ρ x))
  unfold chkO
  simp only [List.all_cons, List.all_nil, Bool.and_true]
  rw [← this]
  split <;> simp_all
theorem sz_mk (a : Array UInt8) : (ByteArray.mk a).size = a.size := rfl
theorem joinB_map {α : Type} (f : α → List UInt8) (l : List α) (sep : ByteArray) : joinB (l.map fun x => S (f x)) sep = joinF (fun _ => f) sep.data.toList 0 l := by
  unfold joinB
  suffices h : ∀ i, joinF (fun _ (x : ByteArray) => x.data.toList) sep.data.toList i (l.map fun x => S (f x)) = joinF (fun _ => f) sep.data.toList i l from h 0
  induction l with
  | nil => intro i; rfl
  | cons x l ih => intro i; simp only [List.map_cons, joinF, ih, S_toList]
theorem joinB_terms (l : List GT) (sep : ByteArray) : joinB (l.map fun x => S (shT x)) sep = shTs sep.data.toList l := by rw [joinB_map, ts_join]
def TxAt (σ : Heap) (x : AV) (ls : List ByteArray) : Prop := (ls = [] ∧ x = .isl [] true) ∨ ∃ k ext, x = .sl k 0 ls.length 1 false ∧ σ[k]? = some (.cells (ls.map .str) 0 ext)
theorem tx_close {σ : Heap} {x : AV} {ls : List ByteArray} (h : TxAt σ x ls) : ∃ σ1, close1 σ x = some (.isl (ls.map .str) false, σ1) := by
  rcases h with ⟨rfl, rfl⟩ | ⟨k, ext, rfl, hk⟩
  · exact ⟨_, rfl⟩
  · by_cases h0 : ls.length = 0
    · have : ls = [] := List.length_eq_zero_iff.1 h0
      subst this
      exact ⟨_, rfl⟩
    · have hcl : (ls.map AV.str).all AV.clo1 = true := by rw [List.all_eq_true]; intro y hy; obtain ⟨z, _, rfl⟩ := List.mem_map.1 hy; rfl
      have hnr : (ls.map AV.str).map AV.nrm = ls.map AV.str := by rw [List.map_map]; rfl
      have hch := chunk_one (ls.map AV.str)
      rw [List.length_map] at hch
      refine ⟨frz σ k (0 + ls.length * 1), close1_of0 ?_⟩
      unfold close0
      simp only [if_neg h0, hk, window_full (show (ls.map AV.str).length = ls.length * 1 by simp), Option.bind_some, hcl, if_true, hnr, hch, Option.map_some]
theorem tx_args {σ : Heap} {x : AV} {ls : List ByteArray} (h : TxAt σ x ls) (s : ByteArray) : ∃ σ1, closeT σ [x, .str s] = some ([.isl (ls.map .str) false, .str s], σ1) := by
  obtain ⟨σ1, h1⟩ := tx_close h
  refine ⟨σ1, ?_⟩
  have h2 : closeA σ x = close1 σ x := by rcases h with ⟨_, rfl⟩ | ⟨k, ext, rfl, _⟩ <;> rfl
  simp [closeT, h2, h1]
theorem callJoinedX (ls : List ByteArray) (sep : ByteArray) (hl : ls.length ≤ 1000000) (hb : (joinB ls sep).length ≤ 1000000000000) (bs : Nat) {σ : Heap} {x : AV} (h : TxAt σ x ls) :
    callT T 65 [x, .str sep] bs σ = some (.str (S (joinB ls sep)), σ) := by
  obtain ⟨σ1, hc⟩ := tx_args h sep
  exact call_scal rfl rfl rfl (joined_ok ls sep hl hb) rfl (by simp) hc
theorem callShJoinedX (l : List GT) (sep : ByteArray) (hl : l.length ≤ 1000000) (hb : (shTs sep.data.toList l).length ≤ 1000000000000) (bs : Nat) {σ : Heap} {x : AV} (h : TxAt σ x (l.map fun x => S (shT x))) :
    callT T 65 [x, .str sep] bs σ = some (.str (S (shTs sep.data.toList l)), σ) := by
  have := callJoinedX (l.map fun x => S (shT x)) sep (by simpa using hl) (by rw [joinB_terms]; exact hb) bs h
  rwa [joinB_terms] at this
theorem app_tx {σ : Heap} {j fz : Nat} {e : Bool} {s : ByteArray} {x : AV} {ls : List ByteArray} (h : (ls = [] ∧ x = .isl [] true) ∨ ∃ k, x = .sl k 0 ls.length 1 false ∧ σ[k]? = some (.cells (ls.map .str) 0 true)) (hj : σ[j]? = some (.cells [.str s] fz e)) (hn : ls.length ≤ 1000000000) :
    ∃ σ1, appendA σ 1 false 16 true x (.sl j 0 1 1 false) = some (.sl σ.length 0 (ls ++ [s]).length 1 false, σ1 ++ [.cells ((ls ++ [s]).map .str) 0 true]) ∧ (σ1 = σ ∨ ∃ k, x = .sl k 0 ls.length 1 false ∧ σ1 = σ.set k .dead) := by
  have e2 := elemsN_s1 hj
  rcases h with ⟨rfl, rfl⟩ | ⟨k, rfl, hk⟩
  · refine ⟨σ, ?_, .inl rfl⟩
    have he2 : elemsA σ 1 false (.isl [] true) = some [] := rfl
    have hne : ¬ ((1 : Nat) = 0 ∨ (0 + 1) * 16 > 70368744177664 ∨ 0 + 1 > 70368744177664) := by omega
    simp only [appendA, e2, he2, Option.bind_some, isSl, List.length_nil, List.length_singleton, if_neg hne]
    simp [flat, AV.cells]
  · refine ⟨σ.set k .dead, ?_, .inr ⟨k, rfl, rfl⟩⟩
    have hfl : ∀ l : List ByteArray, flat (l.map AV.str) = l.map AV.str := fun l => by
      induction l with
      | nil => rfl
      | cons a l ih => simp only [flat, List.map_cons, List.flatMap_cons, AV.cells] at ih ⊢; rw [ih]; rfl
    have he2 : elemsA σ 1 false (.sl k 0 ls.length 1 false) = some (ls.map .str) := by
      simp only [elemsA, hk]
      rw [window_full (by simp), Option.bind_some]
      have := chunk_one (ls.map AV.str); rwa [List.length_map] at this
    have hne : ¬ ((1 : Nat) = 0 ∨ (ls.length + 1) * 16 > 70368744177664 ∨ ls.length + 1 > 70368744177664) := by omega
    have hf1 : flat [(AV.str s).nrm] = [.str s] := rfl
    simp only [appendA, e2, he2, Option.bind_some, isSl, List.length_map, List.length_singleton, if_neg hne]
    have hf2 : flat [AV.str s] = [.str s] := rfl
    simp [hk, hfl, hf1, hf2]
theorem printedX (l : List GT) (hs : GT.sizes l ≤ 1000000000) (hc : ∀ x ∈ l, ∀ bs σ, callT T 69 [x.enc] bs σ = some (.str (S (shT x)), σ)) (bs : Nat) (σ0 : Heap) :
    ∃ r, callT T 66 [.isl (GT.encs l) false] bs σ0 = some r ∧ ∃ R, r.2 = σ0 ++ R ∧ ((l = [] ∧ r.1 = .isl [] true) ∨ ∃ k, r.1 = .sl (σ0.length + k) 0 l.length 1 false ∧ R[k]? = some (.cells (l.map fun x => .str (S (shT x))) 0 true)) := by
  have hlen := GT.len_sizes l
  refine heap_enterE (af := c66) (args' := [.isl (GT.encs l) false]) (σ1 := σ0) rfl rfl (by simp [c66]) (by simp [c66]) (clean_closeT (by simp)).1 ?_
  simp [c66, baseA]
  refine W_for T _ 20 l.length (fun i f σ => f 0 = .isl (GT.encs l) false ∧ f 4 = .int .i64 (i : Int) ∧ ∃ R, σ = σ0 ++ R ∧ ((i = 0 ∧ f 3 = .isl [] true) ∨ ∃ k, f 3 = .sl (σ0.length + k) 0 i 1 false ∧ R[k]? = some (.cells ((l.take i).map fun x => .str (S (shT x))) 0 true))) ?_ _ _ ?_
  · rintro i f σ hi ⟨g0, g4, R, rfl, g3⟩
    by_cases hlt : i < l.length
    · have hx := hc l[i] (List.getElem_mem hlt)
      have hw : IntKind.i64.wrap ((i : Int) + 1) = (i : Int) + 1 := wr64 (by omega) (by omega)
      have htk : (l.take (i + 1)).map (fun x => S (shT x)) = (l.take i).map (fun x => S (shT x)) ++ [S (shT l[i])] := by
        rw [List.take_add_one, List.getElem?_eq_getElem hlt, List.map_append]; rfl
      have hln : ((l.take i).map fun x => S (shT x)).length = i := by simp; omega
      have hst : ((l.take i).map (fun x => S (shT x)) = [] ∧ f 3 = .isl [] true) ∨ ∃ k, f 3 = .sl k 0 ((l.take i).map fun x => S (shT x)).length 1 false ∧ (σ0 ++ (R ++ [AObj.cells [.str (S (shT l[i]))] 0 false]))[k]? = some (.cells (((l.take i).map fun x => S (shT x)).map .str) 0 true) := by
        rcases g3 with ⟨rfl, g3⟩ | ⟨k, g3, hk⟩
        · exact .inl ⟨rfl, g3⟩
        · refine .inr ⟨σ0.length + k, by rw [hln]; exact g3, ?_⟩
          have hkl : k < R.length := (List.getElem?_eq_some_iff.1 hk).1
          rw [List.getElem?_append_right (by omega), Nat.add_sub_cancel_left, List.getElem?_append_left hkl, hk, List.map_map]; rfl
      have hj : (σ0 ++ (R ++ [AObj.cells [.str (S (shT l[i]))] 0 false]))[σ0.length + R.length]? = some (.cells [.str (S (shT l[i]))] 0 false) := by
        rw [List.getElem?_append_right (by omega), Nat.add_sub_cancel_left]; simp
      obtain ⟨σ1, ha, h1⟩ := app_tx hst hj (by omega)
      have hR2 : ∃ R2, σ1 = σ0 ++ R2 ∧ R2.length = R.length + 1 := by
        rcases h1 with rfl | ⟨k, h3, rfl⟩
        · exact ⟨_, rfl, by simp⟩
        · rcases g3 with ⟨_, g3⟩ | ⟨k', g3, _⟩
          · rw [g3] at h3; cases h3
          · rw [g3] at h3; injection h3 with h3; subst h3
            exact ⟨_, by rw [List.set_append_right _ _ (by omega)], by simp⟩
      obtain ⟨R2, rfl, hR2⟩ := hR2
      obtain ⟨x3, hx3⟩ : ∃ x, f 3 = x := ⟨_, rfl⟩
      rw [hx3, ← htk] at ha
      have hle : (σ0 ++ (R ++ [AObj.cells [.str (S (shT l[i]))] 0 false])).length = σ0.length + R2.length := by simp [hR2]
      rw [hle] at ha
      have hll : ((l.take (i + 1)).map fun x => S (shT x)).length = i + 1 := by simp; omega
      rw [hll] at ha
      simp [g0, g4, hx3, hlt, hx, hw, ← GT.enc_eq, ha]
      rfl
    · have he : i = l.length := by omega
      subst he
      rw [List.take_length] at g3
      simp [g0, g4, res1]
      rcases g3 with ⟨h0, g3⟩ | ⟨k, g3, hk⟩
      · exact .inl ⟨List.length_eq_zero_iff.1 h0, g3⟩
      · exact .inr ⟨k, g3, hk⟩
  · simp
theorem printedAt (l : List GT) (hs : GT.sizes l ≤ 1000000000) (hc : ∀ x ∈ l, ∀ bs σ, callT T 69 [x.enc] bs σ = some (.str (S (shT x)), σ)) (bs : Nat) (σ0 : Heap) :
    ∃ x R, callT T 66 [.isl (GT.encs l) false] bs σ0 = some (x, σ0 ++ R) ∧ (∀ τ X, τ.length = σ0.length → TxAt (τ ++ (R ++ X)) x (l.map fun x => S (shT x))) ∧
      ((l = [] ∧ x = .isl [] true) ∨ ∃ k, x = .sl (σ0.length + k) 0 l.length 1 false ∧ R[k]? = some (.cells (l.map fun x => .str (S (shT x))) 0 true)) := by
  obtain ⟨⟨x, σ1⟩, h1, R, h2, h3⟩ := printedX l hs hc bs σ0
  simp only at h2 h3; subst h2
  refine ⟨x, R, h1, fun τ X hτ => ?_, h3⟩
  rcases h3 with ⟨rfl, h3⟩ | ⟨k, h3, hk⟩
  · exact .inl ⟨rfl, h3⟩
  · refine .inr ⟨σ0.length + k, true, by simpa using h3, ?_⟩
    have hkl : k < R.length := (List.getElem?_eq_some_iff.1 hk).1
    rw [← hτ, List.getElem?_append_right (by omega), Nat.add_sub_cancel_left, List.getElem?_append_left hkl, hk, List.map_map]; rfl
theorem term_few {d : Nat} {k : Int} {n : ByteArray} {v : GV} {l : List GT} (h : termR d (.mk k n v l) = true) : l.length ≤ 2 := by
  obtain ⟨_, ⟨n', e, hn⟩ | ⟨v', e, hv, _⟩ | ⟨n', l', e, hn, hl⟩ | ⟨n', l', e, _, h2, hl⟩⟩ := term_cases h <;> injection e with e1 e2 e3 e4 <;> subst e4
  · simp
  · simp
  · unfold arityOf at hn
    split at hn
    · omega
    · split at hn <;> omega
  · omega
theorem shown_ok : ∀ (m : Nat) (t : GT), t.size ≤ m → m ≤ 1000000000 → (∃ d, termR d t = true) → pureT T c69 [t.enc] = some (.str (S (shT t))) := by
  intro m
  induction m with
  | zero => intro t h; obtain ⟨k, n, ⟨vk, vn, vt, vl⟩, l⟩ := t; simp [GT.size] at h
  | succ m ih =>
    intro t hs hm hd
    obtain ⟨d, hd⟩ := hd
    have hlen := sh_len t d hd
    obtain ⟨k, n, ⟨vk, vn, vt, vl⟩, l⟩ := t
    simp only [GT.size] at hs hlen
    have hll := GT.len_sizes l
    have hcl : ∀ x ∈ l, ∀ bs σ, callT T 69 [x.enc] bs σ = some (.str (S (shT x)), σ) := fun x hx bs σ =>
      call_clean rfl rfl rfl (by simp) (ih x (by have := (GT.sizes_mem hx).1; omega) (by omega) (term_args hd x hx))
    have har := term_few hd
    apply pure_enter (by simp [c69])
    by_cases h1 : k = 1
    · subst h1
      have hp : shT (.mk 1 n (.mk vk vn vt vl) l) = n.data.toList := by simp [shT]
      rw [hp, S_data]
      simp [c69, GT.enc_eq, GT.kind, GT.name, GT.value, GT.args]
    by_cases h2 : k = 2
    · subst h2
      have hv := term_value hd rfl
      have hp : shT (.mk 2 n (.mk vk vn vt vl) l) = pr (.mk vk vn vt vl) := by simp [shT]
      have hpv := refPrint (.mk vk vn vt vl) (right_okV _ _ hv) (by have := rightT_size hv; omega)
      have hpv2 : printV (.mk vk vn vt vl) = S (pr (.mk vk vn vt vl)) := by simp [printV, hv]
      rw [hpv2] at hpv
      rw [hp]
      simp [c69, GT.enc_eq, GT.kind, GT.name, GT.value, GT.args, GV.kind, GV.num, GV.text, GV.items, enc_mk, hpv]
    obtain ⟨x, R, hpr, hat, _⟩ := printedAt l (by omega) hcl 0 [.cells (GT.mk k n (.mk vk vn vt vl) l).enc.cells 0 false]
    have hat := hat [.cells (GT.mk k n (.mk vk vn vt vl) l).enc.cells 0 false] [] rfl
    rw [List.append_nil] at hat
    by_cases h3 : k = 3
    · subst h3
      have hp : shT (.mk 3 n (.mk vk vn vt vl) l) = n.data.toList ++ 40 :: (shTs [44] l ++ [41]) := by simp [shT]
      rw [hp] at hlen ⊢
      simp only [List.length_append, List.length_cons, List.length_nil] at hlen
      have hns : n.data.toList.length = n.size := by simp
      have hj := callShJoinedX l ⟨#[44]⟩ (by omega) (by show (shTs [44] l).length ≤ _; omega) 0 hat
      have e : n ++ ⟨#[40]⟩ ++ S (shTs [44] l) ++ ⟨#[41]⟩ = S (n.data.toList ++ 40 :: (shTs [44] l ++ [41])) := bytes_ext (by simp [S])
      have q0 : (n.size : Int) + 1 ≤ 9223372036854775807 := by omega
      have q1 : (n.size : Int) + 1 + ((shTs [44] l).length : Int) ≤ 9223372036854775807 := by omega
      have q2 : (n.size : Int) + 1 + ((shTs [44] l).length : Int) + 1 ≤ 9223372036854775807 := by omega
      simp [GT.enc_eq, GT.kind, GT.name, GT.value, GT.args, GV.kind, GV.num, GV.text, GV.items] at hpr hj
      simp [c69, GT.enc_eq, GT.kind, GT.name, GT.value, GT.args, GV.kind, GV.num, GV.text, GV.items, hpr, hj, S_sz, sz_mk, chkO_e1, objOf, q0, q1, q2, e]
    have hp : shT (.mk k n (.mk vk vn vt vl) l) = 40 :: (shTs n.data.toList l ++ [41]) := by simp [shT, h1, h2, h3]
    rw [hp] at hlen ⊢
    simp only [List.length_append, List.length_cons, List.length_nil] at hlen
    have hj := callShJoinedX l n (by omega) (by omega) 0 hat
    have e : (⟨#[40]⟩ : ByteArray) ++ S (shTs n.data.toList l) ++ ⟨#[41]⟩ = S (40 :: (shTs n.data.toList l ++ [41])) := bytes_ext (by simp [S])
    have q1 : (1 : Int) + ((shTs n.data.toList l).length : Int) ≤ 9223372036854775807 := by omega
    have q2 : (1 : Int) + ((shTs n.data.toList l).length : Int) + 1 ≤ 9223372036854775807 := by omega
    simp [GT.enc_eq, GT.kind, GT.name, GT.value, GT.args, GV.kind, GV.num, GV.text, GV.items] at hpr hj
    simp [c69, GT.enc_eq, GT.kind, GT.name, GT.value, GT.args, GV.kind, GV.num, GV.text, GV.items, hpr, hj, S_sz, sz_mk, chkO_e1, objOf, q1, q2, e, h1, h2, h3]
theorem callShown (t : GT) (hs : t.size ≤ 1000000000) (hd : ∃ d, termR d t = true) (bs : Nat) (σ : Heap) : callT T 69 [t.enc] bs σ = some (.str (S (shT t)), σ) := call_clean rfl rfl rfl (by simp) (shown_ok t.size t (Nat.le_refl _) hs hd)
theorem callPrinted (l : List GT) (hs : GT.sizes l ≤ 1000000000) (hd : ∀ x ∈ l, termR 8 x = true) (bs : Nat) (σ0 : Heap) :
    ∃ x R, callT T 66 [.isl (GT.encs l) false] bs σ0 = some (x, σ0 ++ R) ∧ (∀ τ X, τ.length = σ0.length → TxAt (τ ++ (R ++ X)) x (l.map fun x => S (shT x))) ∧
      ((l = [] ∧ x = .isl [] true) ∨ ∃ k, x = .sl (σ0.length + k) 0 l.length 1 false ∧ R[k]? = some (.cells (l.map fun x => .str (S (shT x))) 0 true)) :=
  printedAt l hs (fun x hx bs σ => callShown x (by have := (GT.sizes_mem hx).1; omega) ⟨8, hd x hx⟩ bs σ) bs σ0
end Go.Proofs.YtpkfkipbemdhmaaGreatDoor
end
section
set_option linter.unusedVariables false
set_option linter.unusedSimpArgs false
set_option linter.unnecessarySimpa false
namespace Go.Proofs.YtpkfkipbemdhmaaGreatDoor
open Go.Mach
theorem r4Term_ok (x : GT) (hs : x.size ≤ 1000000000) : pureT T c28 [x.enc] = some (.str (textTerm x)) := by
  have h1 := callR4Term x (by omega)
  apply pure_enter (by simp [c28])
  unfold textTerm
  cases hb : termR 8 x
  · rw [hb] at h1
    simp [c28, h1, ← GT.enc_eq, S]
  · rw [hb] at h1
    have h2 := callShown x hs ⟨8, hb⟩
    simp [c28, h1, h2, ← GT.enc_eq]
theorem callR4TermP (x : GT) (hs : x.size ≤ 1000000000) (bs : Nat) (σ : Heap) : callT T 28 [x.enc] bs σ = some (.str (textTerm x), σ) := call_clean rfl rfl rfl (by simp) (r4Term_ok x hs)
theorem shAt_nil (p : Int) : shAt [] p = fun _ => shT := by funext i t; simp [shAt]
theorem atS_nil (p : Int) (l : List GT) : shAtS [] p 0 l = shTs [44] l := by rw [← ats_join, shAt_nil, ts_join]
theorem r4Lit_ok (x : GL) (hs : x.size ≤ 1000000000) : pureT T c27 [x.enc] = some (.str (textLiteral x)) := by
  have h1 := callR4Lit x (by omega)
  have hal := x.args_le
  have hnl := x.name_le
  apply pure_enter (by simp [c27])
  unfold textLiteral
  cases hb : litB x
  · rw [hb] at h1
    simp [c27, h1, ← GL.enc_eq, S]
  · rw [hb] at h1
    have hln := lit_len hb
    have hlc := lit_cases hb
    obtain ⟨k, n, l⟩ := x
    simp only at hal hnl hlc
    have hns : n.data.toList.length = n.size := by simp
    have hll := GT.len_sizes l
    have hall : ∀ y ∈ l, termR 8 y = true := by
      rcases hlc with ⟨_, _, ha⟩ | ⟨_, _, a, b, rfl, ha, hb⟩ | ⟨_, _, a, rfl, ha⟩
      · exact args_all ha
      · intro y hy; simp at hy; rcases hy with rfl | rfl <;> assumption
      · intro y hy; simp at hy; subst hy; exact ha
    obtain ⟨x, R, hpr, hat, hshape⟩ := callPrinted l (by omega) hall 0 [.cells [.int .i64 k, .str n, .isl (GT.encs l) false] 0 false]
    have hat := hat [.cells [.int .i64 k, .str n, .isl (GT.encs l) false] 0 false] [] rfl
    rw [List.append_nil] at hat
    simp at hpr
    have hlen1 : l.length ≤ 1000000 := by
      rcases hlc with ⟨_, _, ha⟩ | ⟨_, _, a, b, rfl, ha, hb⟩ | ⟨_, _, a, rfl, ha⟩
      · have : 1 ≤ l.length ∧ l.length ≤ 8 := by have := ha; simp only [argsB, Bool.and_eq_true, decide_eq_true_eq] at this; exact this.1.1
        omega
      · simp
      · simp
    rw [GL.enc_eq] at h1
    simp only [GL.kind, GL.name, GL.args] at h1
    have hj : ∀ sep : ByteArray, (shTs sep.data.toList l).length ≤ 1000000000000 → callT T 65 [x, .str sep] 0 (.cells [.int .i64 k, .str n, .isl (GT.encs l) false] 0 false :: R) = some (.str (S (shTs sep.data.toList l)), .cells [.int .i64 k, .str n, .isl (GT.encs l) false] 0 false :: R) :=
      fun sep hsep => callShJoinedX l sep hlen1 hsep 0 hat
    rcases hlc with ⟨hk | hk, _, _⟩ | ⟨hk, _, a, b, hl, _⟩ | ⟨hk, _, a, hl, _⟩
    · subst hk
      have hp : shLit ⟨1, n, l⟩ = n.data.toList ++ 40 :: 64 :: (shTs [44] l ++ [41]) := by rw [sh1 rfl, shAtom, atS_nil]
      rw [hp] at hln ⊢
      simp only [List.length_append, List.length_cons, List.length_nil, hns] at hln
      have hj := hj ⟨#[44]⟩ (by show (shTs [44] l).length ≤ _; omega)
      simp at hj
      have e : n ++ ⟨#[40, 64]⟩ ++ S (shTs [44] l) ++ ⟨#[41]⟩ = S (n.data.toList ++ 40 :: 64 :: (shTs [44] l ++ [41])) := bytes_ext (by simp [S])
      have q0 : (n.size : Int) + 2 ≤ 9223372036854775807 := by omega
      have q1 : (n.size : Int) + 2 + ((shTs [44] l).length : Int) ≤ 9223372036854775807 := by omega
      have q2 : (n.size : Int) + 2 + ((shTs [44] l).length : Int) + 1 ≤ 9223372036854775807 := by omega
      simp [c27, GL.enc_eq, h1, hpr, hj, S_sz, sz_mk, chkO_e1, objOf, q0, q1, q2, e]
    · subst hk
      have hp : shLit ⟨2, n, l⟩ = 33 :: (n.data.toList ++ 40 :: 64 :: (shTs [44] l ++ [41])) := by rw [sh2 rfl, shAtom, atS_nil]
      rw [hp] at hln ⊢
      simp only [List.length_append, List.length_cons, List.length_nil, hns] at hln
      have hj := hj ⟨#[44]⟩ (by show (shTs [44] l).length ≤ _; omega)
      simp at hj
      have e : (⟨#[33]⟩ : ByteArray) ++ n ++ ⟨#[40, 64]⟩ ++ S (shTs [44] l) ++ ⟨#[41]⟩ = S (33 :: (n.data.toList ++ 40 :: 64 :: (shTs [44] l ++ [41]))) := bytes_ext (by simp [S])
      have q : (1 : Int) + (n.size : Int) ≤ 9223372036854775807 := by omega
      have q0 : (1 : Int) + (n.size : Int) + 2 ≤ 9223372036854775807 := by omega
      have q1 : (1 : Int) + (n.size : Int) + 2 + ((shTs [44] l).length : Int) ≤ 9223372036854775807 := by omega
      have q2 : (1 : Int) + (n.size : Int) + 2 + ((shTs [44] l).length : Int) + 1 ≤ 9223372036854775807 := by omega
      simp [c27, GL.enc_eq, h1, hpr, hj, S_sz, sz_mk, chkO_e1, objOf, q, q0, q1, q2, e]
    · subst hk
      have hp : shLit ⟨3, n, l⟩ = shTs (32 :: (n.data.toList ++ [32])) l := by simp [shLit]
      rw [hp] at hln ⊢
      have e : (⟨#[32]⟩ : ByteArray) ++ n ++ ⟨#[32]⟩ = S (32 :: (n.data.toList ++ [32])) := bytes_ext (by simp [S])
      have hj := hj (S (32 :: (n.data.toList ++ [32]))) (by rw [S_toList]; omega)
      rw [S_toList] at hj
      have q : (1 : Int) + (n.size : Int) ≤ 9223372036854775807 := by omega
      have q0 : (1 : Int) + (n.size : Int) + 1 ≤ 9223372036854775807 := by omega
      simp [c27, GL.enc_eq, h1, hpr, hj, S_sz, sz_mk, q, q0, e]
    · subst hk
      subst hl
      have hp : shLit ⟨4, n, [a]⟩ = n.data.toList ++ 32 :: 58 :: 61 :: 32 :: shT a := by simp [shLit]
      rw [hp] at hln ⊢
      simp only [List.length_append, List.length_cons, List.length_nil, hns] at hln
      rcases hshape with ⟨h0, _⟩ | ⟨kk, hx, hR⟩
      · cases h0
      subst hx
      have e : n ++ ⟨#[32, 58, 61, 32]⟩ ++ S (shT a) = S (n.data.toList ++ 32 :: 58 :: 61 :: 32 :: shT a) := bytes_ext (by simp [S])
      have q0 : (n.size : Int) + 4 ≤ 9223372036854775807 := by omega
      have q1 : (n.size : Int) + 4 + ((shT a).length : Int) ≤ 9223372036854775807 := by omega
      have hget : ∀ o : AObj, (o :: R)[1 + kk]? = some (.cells [.str (S (shT a))] 0 true) := fun o => by rw [Nat.add_comm]; exact hR
      simp [GT.encs] at hpr h1
      simp [c27, GL.enc_eq, h1, hpr, S_sz, sz_mk, q0, q1, e, GT.encs, hget]
theorem callR4LitP (x : GL) (hs : x.size ≤ 1000000000) (bs : Nat) (σ : Heap) : callT T 27 [x.enc] bs σ = some (.str (textLiteral x), σ) := call_clean rfl rfl rfl (by simp) (r4Lit_ok x hs)
end Go.Proofs.YtpkfkipbemdhmaaGreatDoor
end
section
set_option linter.unusedVariables false
set_option linter.unusedSimpArgs false
set_option linter.unnecessarySimpa false
namespace Go.Proofs.YtpkfkipbemdhmaaGreatDoor
open Go.Mach
def ixm (f : Nat → GT → List UInt8) : Nat → List GT → List ByteArray
  | _, [] => []
  | i, x :: l => S (f i x) :: ixm f (i + 1) l
theorem joinB_ixm (f : Nat → GT → List UInt8) (sep : ByteArray) (l : List GT) : joinB (ixm f 0 l) sep = joinF f sep.data.toList 0 l := by
  unfold joinB
  suffices h : ∀ i, joinF (fun _ (x : ByteArray) => x.data.toList) sep.data.toList i (ixm f i l) = joinF f sep.data.toList i l from h 0
  induction l with
  | nil => intro i; rfl
  | cons x l ih => intro i; simp only [ixm, joinF, ih, S_toList]
theorem ixm_len (f : Nat → GT → List UInt8) : ∀ (i : Nat) (l : List GT), (ixm f i l).length = l.length
  | _, [] => rfl
  | i, x :: l => by simp only [ixm, List.length_cons, ixm_len]
theorem ixm_get (f : Nat → GT → List UInt8) : ∀ (i : Nat) (l : List GT) (j : Nat), (ixm f i l)[j]? = l[j]?.map fun t => S (f (i + j) t)
  | _, [], _ => by simp [ixm]
  | i, x :: l, 0 => by simp [ixm]
  | i, x :: l, j + 1 => by simp only [ixm, List.getElem?_cons_succ, ixm_get f (i + 1) l j]; rw [show i + 1 + j = i + (j + 1) by omega]
theorem ixm_nil (p : Int) (l : List GT) : ixm (shAt [] p) 0 l = l.map fun t => S (shT t) := by
  apply List.ext_getElem?; intro j
  rw [ixm_get, shAt_nil, List.getElem?_map]
theorem ixm_set {agg : List UInt8} (h : agg ≠ []) (l : List GT) (p : Nat) (hp : p < l.length) : (l.map fun t => AV.str (S (shT t))).set p (.str (S (agg ++ 60 :: ((l[p]).name.data.toList ++ [62])))) = (ixm (shAt agg (p : Int)) 0 l).map .str := by
  apply List.ext_getElem?; intro j
  rw [List.getElem?_map, ixm_get, List.getElem?_set, List.getElem?_map, List.length_map]
  by_cases e : p = j
  · subst e
    simp [hp, List.getElem?_eq_getElem hp, shAt, h]
  · rw [if_neg e]
    have hne : ¬ ((j : Int) = (p : Int)) := by omega
    cases hj : l[j]? with
    | none => rfl
    | some t => simp [shAt, hne]
theorem callJoinedO (ls : List ByteArray) (sep : ByteArray) (k : Nat) (hl : ls.length ≤ 1000000) (hb : (joinB ls sep).length ≤ 1000000000000) (bs : Nat) (σ : Heap) :
    callT T 65 [.own k (ls.map .str), .str sep] bs σ = some (.str (S (joinB ls sep)), σ) :=
  call_scal rfl rfl rfl (joined_ok ls sep hl hb) rfl (by simp) rfl
set_option maxRecDepth 100000 in
theorem r4Rule_ok (x : GR) (hs : x.size ≤ 1000000000) : pureT T c26 [x.enc] = some (.str (textRule x)) := by
  have h1 := callR4Rule x (by omega)
  have hal := x.args_le
  have hbl := x.body_len
  have hbm := fun y hy => x.body_mem (y := y) hy
  apply pure_enter (by simp [c26])
  unfold textRule
  cases hb : ruleB x
  · rw [hb] at h1
    simp [c26, h1, ← GR.enc_eq, S]
  · rw [hb] at h1
    have hln := rule_len hb
    simp only [ruleB, Bool.and_eq_true, decide_eq_true_eq, List.all_eq_true] at hb
    obtain ⟨⟨⟨⟨⟨a1, a2⟩, a3⟩, a4⟩, a5⟩, a6⟩ := hb
    have n1 := rel_size a1
    have n2 := rel_size a2
    have n3 := agg_len a6
    have a7 : 1 ≤ x.args.length ∧ x.args.length ≤ 8 := by have := a3; simp only [argsB, Bool.and_eq_true, decide_eq_true_eq] at this; exact this.1.1
    obtain ⟨lab, hd, l, agg, pos, body⟩ := x
    simp only at hal hbl hbm a1 a2 a3 a4 a5 a6 a7 n1 n2 n3
    have e1 : lab.data.toList.length = lab.size := by simp
    have e2 : hd.data.toList.length = hd.size := by simp
    rw [GR.enc_eq] at h1
    simp only at h1
    obtain ⟨x, R, hpr, hat, hshape⟩ := callPrinted l (by omega) (args_all a3) 0 [.cells [.str lab, .str hd, .isl (GT.encs l) false, .str agg, .int .i64 pos, .isl (body.map GL.enc) false] 0 false]
    simp only [List.length_singleton] at hat hshape
    simp at hpr
    have hpl : shRule ⟨lab, hd, l, agg, pos, body⟩ = lab.data.toList ++ 32 :: (hd.data.toList ++ 40 :: 64 :: (joinF (shAt agg.data.toList pos) [44] 0 l ++ [41]) ++ 32 :: 58 :: 45 :: 32 :: (joinF (fun _ => shLit) [44, 32] 0 body ++ [46])) := by
      simp only [shRule, shAtom, ats_join, ls_join]
    rw [hpl] at hln ⊢
    simp only [List.length_append, List.length_cons, List.length_nil, e1, e2] at hln
    have hlits := fun (y : GL) (hy : y ∈ body) (bs : Nat) (σ : Heap) => callR4LitP y (by have := hbm y hy; omega) bs σ
    have hlit : ∀ y ∈ body, ∀ bs σ, callT T 27 [y.enc] bs σ = some (.str (S (shLit y)), σ) := fun y hy bs σ => by
      rw [hlits y hy bs σ]; unfold textLiteral; rw [if_pos (a5 y hy)]
    by_cases hagg : agg = ⟨#[]⟩
    obtain ⟨R1, hR1⟩ : ∃ R1, R1 = R := ⟨_, rfl⟩
    have hat2 : ∀ X, TxAt (AObj.cells [.str lab, .str hd, .isl (GT.encs l) false, .str agg, .int .i64 pos, .isl (body.map GL.enc) false] 0 false :: (R1 ++ X)) x (ixm (shAt agg.data.toList pos) 0 l) := fun X => by
      rw [hR1]
      have := hat [AObj.cells [.str lab, .str hd, .isl (GT.encs l) false, .str agg, .int .i64 pos, .isl (body.map GL.enc) false] 0 false] X rfl
      rw [hagg] at this ⊢
      rw [show (⟨#[]⟩ : ByteArray).data.toList = [] from rfl, ixm_nil]
      exact this
    have hagg' : (agg = ⟨#[]⟩) = True := eq_true hagg
    simp [c26, GR.enc_eq, h1, hpr, sz_mk, hagg', -List.append_eq]
    rw [← hR1]
    rotate_left 1
    have hne : agg.data.toList ≠ [] := fun h => hagg (ba_list_nil.1 h)
    simp only [aggB, if_neg hagg, Bool.and_eq_true, decide_eq_true_eq] at a6
    obtain ⟨⟨_, p1, p2⟩, p3⟩ := a6
    obtain ⟨p, rfl⟩ : ∃ p : Nat, pos = (p : Int) := ⟨pos.toNat, by omega⟩
    have hp : p < l.length := by omega
    rw [Int.toNat_natCast, List.getElem?_eq_getElem hp] at p3
    simp only [Option.map_some, Option.some.injEq] at p3
    have hsh : shT l[p] = (l[p]).name.data.toList := by
      generalize l[p] = t at p3
      obtain ⟨k, n, v, ll⟩ := t
      simp only [GT.kind] at p3; subst p3
      simp [shT]
    rcases hshape with ⟨h0, _⟩ | ⟨k, hx, hR⟩
    · rw [h0] at hp; simp at hp
    rw [Nat.add_comm 1 k] at hx
    have hkl : k < R.length := (List.getElem?_eq_some_iff.1 hR).1
    have hset := ixm_set hne l p hp
    obtain ⟨R1, hR1⟩ : ∃ R1, R1 = R.set k (.cells ((l.map fun x => AV.str (S (shT x))).set p (.str (S (agg.data.toList ++ 60 :: ((l[p]).name.data.toList ++ [62]))))) 0 true) := ⟨_, rfl⟩
    have hat2 : ∀ X, TxAt (AObj.cells [.str lab, .str hd, .isl (GT.encs l) false, .str agg, .int .i64 (p : Int), .isl (body.map GL.enc) false] 0 false :: (R1 ++ X)) x (ixm (shAt agg.data.toList (p : Int)) 0 l) := fun X => by
      refine .inr ⟨k + 1, true, by rw [hx, ixm_len], ?_⟩
      rw [List.getElem?_cons_succ, hR1, List.getElem?_append_left (by simpa using hkl), ← hset]
      simp [hkl]
    have hwin : window (l.map fun x => AV.str (S (shT x))) p 1 = some [.str (S (shT l[p]))] := by
      unfold window
      rw [if_pos (by simp; omega), List.drop_eq_getElem_cons (by simpa using hp)]
      simp
    have e5 : agg ++ ⟨#[60]⟩ ++ S (shT l[p]) ++ ⟨#[62]⟩ = S (agg.data.toList ++ 60 :: ((l[p]).name.data.toList ++ [62])) := bytes_ext (by simp [S, hsh])
    have e6 : (shT l[p]).length ≤ 100000000000 := by
      have := sh_len l[p] 8 (args_all a3 _ (List.getElem_mem hp))
      have := (GT.sizes_mem (List.getElem_mem hp)).1
      omega
    have q0 : (agg.size : Int) + 1 ≤ 9223372036854775807 := by omega
    have q1 : (agg.size : Int) + 1 + ((shT l[p]).length : Int) ≤ 9223372036854775807 := by omega
    have q2 : (agg.size : Int) + 1 + ((shT l[p]).length : Int) + 1 ≤ 9223372036854775807 := by omega
    simp [c26, GR.enc_eq, h1, hpr, sz_mk, S_sz, hagg, hx, hp, hR, hwin, q0, q1, q2, e5, setRun, show p + 1 ≤ l.length by omega]
    rw [← hR1, ← hx]
    generalize hpos : (p : Int) = pos at *
    rotate_left 1
    all_goals
      clear hat hpr
      refine W_for T 0 62 body.length (fun i f σ => f 1 = .ptr 0 0 ∧ f 4 = x ∧ f 6 = .int .i64 (i : Int) ∧ ∃ X, σ = AObj.cells [.str lab, .str hd, .isl (GT.encs l) false, .str agg, .int .i64 pos, .isl (body.map GL.enc) false] 0 false :: (R1 ++ X) ∧
          ((i = 0 ∧ f 5 = .isl [] true) ∨ ∃ k, f 5 = .own (R1.length + k + 1) ((body.take i).map fun y => .str (S (shLit y))) ∧ X[k]? = some (.tok i 1))) ?_ _ _ ?_
      rotate_left 1
      · simp
      rintro i f σ hi ⟨g1, g4, g6, X, rfl, g5⟩
      by_cases hlt : i < body.length
      · have e1 : body[i]? = some body[i] := List.getElem?_eq_getElem hlt
        have hx := hlit body[i] (List.getElem_mem hlt)
        have hw : IntKind.i64.wrap ((i : Int) + 1) = (i : Int) + 1 := wr64 (by omega) (by omega)
        have htk : (body.take (i + 1)).map (fun x => AV.str (S (shLit x))) = (body.take i).map (fun x => AV.str (S (shLit x))) ++ [.str (S (shLit body[i]))] := by
          rw [List.take_add_one, List.getElem?_eq_getElem hlt, List.map_append]; rfl
        rw [htk]
        have hall : ((body.take i).map fun x => AV.str (S (shLit x))).all (okEl 1 false) = true := by
          rw [List.all_eq_true]; intro y hy
          obtain ⟨x, _, rfl⟩ := List.mem_map.1 hy; rfl
        have hel : ((body.take i).map fun x => AV.str (S (shLit x))).length = i := by simp; omega
        have hnil : i = 0 → (body.take i).map (fun x => AV.str (S (shLit x))) = [] := fun h => by subst h; rfl
        generalize hES : (body.take i).map (fun x => AV.str (S (shLit x))) = es at *
        rcases g5 with ⟨h0, g5⟩ | ⟨kk, g5, hk⟩
        · rw [hnil h0]
          simp [g1, g4, g6, g5, hlt, e1, hx, hw, ← GL.enc_eq]
          simp [h0]
        · have hkl : kk < X.length := (List.getElem?_eq_some_iff.1 hk).1
          have hne : i ≤ 10000000000 := by omega
          simp [g1, g4, g6, g5, hlt, e1, hx, hw, ← GL.enc_eq, hk, hel, hall, hne, List.getElem?_append_left hkl, List.set_append_left _ _ hkl]
          rw [List.getElem?_append_left (by simpa using hkl)]; simp [hkl]
      · have he : i = body.length := by omega
        subst he
        rcases g5 with ⟨h0, g5⟩ | ⟨kk, g5, hk⟩
        · omega
        rw [List.take_length] at g5
        have j1 := callJoinedX (ixm (shAt agg.data.toList pos) 0 l) ⟨#[44]⟩ (by rw [ixm_len]; omega) (by rw [joinB_ixm]; show (joinF _ [44] 0 l).length ≤ _; omega) 0 (hat2 X)
        rw [joinB_ixm] at j1
        have j2 := callJoinedO (body.map fun y => S (shLit y)) ⟨#[44, 32]⟩ (R1.length + kk + 1) (by simp; omega) (by rw [joinB_map]; show (joinF _ [44, 32] 0 body).length ≤ _; omega) 0 (AObj.cells [.str lab, .str hd, .isl (GT.encs l) false, .str agg, .int .i64 pos, .isl (body.map GL.enc) false] 0 false :: (R1 ++ X))
        rw [joinB_map, List.map_map] at j2
        have e4 : (AV.str ∘ fun y => S (shLit y)) = fun y => AV.str (S (shLit y)) := rfl
        rw [e4] at j2
        simp only [show (⟨#[44]⟩ : ByteArray).data.toList = [44] from rfl, show (⟨#[44, 32]⟩ : ByteArray).data.toList = [44, 32] from rfl] at j1 j2
        generalize joinF (shAt agg.data.toList pos) [44] 0 l = A at *
        generalize joinF (fun _ => shLit) [44, 32] 0 body = B at *
        have e6 : lab ++ ⟨#[32]⟩ ++ hd ++ ⟨#[40, 64]⟩ ++ S A ++ ⟨#[41, 32, 58, 45, 32]⟩ ++ S B ++ ⟨#[46]⟩ = S (lab.data.toList ++ 32 :: (hd.data.toList ++ 40 :: 64 :: (A ++ 41 :: 32 :: 58 :: 45 :: 32 :: (B ++ [46])))) := bytes_ext (by simp [S])
        have q1 : (lab.size : Int) + 1 ≤ 9223372036854775807 := by omega
        have q2 : (lab.size : Int) + 1 + (hd.size : Int) ≤ 9223372036854775807 := by omega
        have q3 : (lab.size : Int) + 1 + (hd.size : Int) + 2 ≤ 9223372036854775807 := by omega
        have q4 : (lab.size : Int) + 1 + (hd.size : Int) + 2 + (A.length : Int) ≤ 9223372036854775807 := by omega
        have q5 : (lab.size : Int) + 1 + (hd.size : Int) + 2 + (A.length : Int) + 5 ≤ 9223372036854775807 := by omega
        have q6 : (lab.size : Int) + 1 + (hd.size : Int) + 2 + (A.length : Int) + 5 + (B.length : Int) ≤ 9223372036854775807 := by omega
        have q7 : (lab.size : Int) + 1 + (hd.size : Int) + 2 + (A.length : Int) + 5 + (B.length : Int) + 1 ≤ 9223372036854775807 := by omega
        simp [g1, g4, g6, g5, j1, j2, sz_mk, S_sz, q1, q2, q3, q4, q5, q6, q7, e6]
theorem callR4RuleP (x : GR) (hs : x.size ≤ 1000000000) (bs : Nat) (σ : Heap) : callT T 26 [x.enc] bs σ = some (.str (textRule x), σ) := call_clean rfl rfl rfl (by simp) (r4Rule_ok x hs)
end Go.Proofs.YtpkfkipbemdhmaaGreatDoor
end
section
set_option linter.unusedVariables false
set_option linter.unusedSimpArgs false
set_option linter.unnecessarySimpa false
namespace Go.Proofs.YtpkfkipbemdhmaaGreatDoor
open Go.Mach
theorem r4Tup_ok (x : GU) (hs : x.size ≤ 1000000000) : pureT T c25 [x.enc] = some (.str (textTuple x)) := by
  have h1 := callR4Tup x (by omega)
  have hal := x.args_le
  apply pure_enter (by simp [c25])
  unfold textTuple
  cases hb : tupB x
  · rw [hb] at h1
    simp [c25, h1, ← GU.enc_eq, S]
  · rw [hb] at h1
    have hln := tup_len hb
    simp only [tupB, Bool.and_eq_true, decide_eq_true_eq, List.all_eq_true] at hb
    obtain ⟨⟨⟨a1, a2⟩, a3⟩, a4⟩ := hb
    have n1 := rel_size a1
    obtain ⟨nm, l⟩ := x
    simp only at hal a1 a2 a3 a4 n1
    have e1 : nm.data.toList.length = nm.size := by simp
    rw [GU.enc_eq] at h1
    simp only at h1
    have hpl : shTup ⟨nm, l⟩ = nm.data.toList ++ 40 :: 64 :: (joinF (fun _ => pr) [44] 0 l ++ [41, 46]) := by simp only [shTup, ps_join]
    rw [hpl] at hln ⊢
    simp only [List.length_append, List.length_cons, List.length_nil, e1] at hln
    have hlit : ∀ y ∈ l, ∀ bs σ, callT T 63 [y.enc] bs σ = some (.str (S (pr y)), σ) := fun y hy bs σ => by
      have := rightT_size (a4 y hy)
      rw [refPrint y (right_okV _ _ (a4 y hy)) (by omega) bs σ]; unfold printV; rw [if_pos (a4 y hy)]
    simp [c25, GU.enc_eq, h1]
    refine W_for T 0 33 l.length (fun i f σ => f 1 = .ptr 0 0 ∧ f 5 = .int .i64 (i : Int) ∧ ∃ X, σ = AObj.cells [.str nm, .isl (GV.encs l) false] 0 false :: X ∧
          ((i = 0 ∧ f 4 = .isl [] true) ∨ ∃ k, f 4 = .own (k + 1) ((l.take i).map fun y => .str (S (pr y))) ∧ X[k]? = some (.tok i 1))) ?_ _ _ ?_
    rotate_left 1
    · simp
    rintro i f σ hi ⟨g1, g6, X, rfl, g5⟩
    by_cases hlt : i < l.length
    · have e1 : l[i]? = some l[i] := List.getElem?_eq_getElem hlt
      have hx := hlit l[i] (List.getElem_mem hlt)
      have hw : IntKind.i64.wrap ((i : Int) + 1) = (i : Int) + 1 := wr64 (by omega) (by omega)
      have htk : (l.take (i + 1)).map (fun x => AV.str (S (pr x))) = (l.take i).map (fun x => AV.str (S (pr x))) ++ [.str (S (pr l[i]))] := by
        rw [List.take_add_one, List.getElem?_eq_getElem hlt, List.map_append]; rfl
      rw [htk]
      have hall : ((l.take i).map fun x => AV.str (S (pr x))).all (okEl 1 false) = true := by
        rw [List.all_eq_true]; intro y hy
        obtain ⟨x, _, rfl⟩ := List.mem_map.1 hy; rfl
      have hel : ((l.take i).map fun x => AV.str (S (pr x))).length = i := by simp; omega
      have hnil : i = 0 → (l.take i).map (fun x => AV.str (S (pr x))) = [] := fun h => by subst h; rfl
      generalize hES : (l.take i).map (fun x => AV.str (S (pr x))) = es at *
      rcases g5 with ⟨h0, g5⟩ | ⟨kk, g5, hk⟩
      · rw [hnil h0]
        simp [g1, g6, g5, hlt, e1, hx, hw, ← GV.enc_eq]
        simp [h0]
      · have hkl : kk < X.length := (List.getElem?_eq_some_iff.1 hk).1
        have hne : i ≤ 10000000000 := by omega
        simp [g1, g6, g5, hlt, e1, hx, hw, ← GV.enc_eq, hk, hel, hall, hne, List.getElem?_append_left hkl, List.set_append_left _ _ hkl]
        rw [List.getElem?_append_left (by simpa using hkl)]; simp [hkl]
    · have he : i = l.length := by omega
      subst he
      rcases g5 with ⟨h0, g5⟩ | ⟨kk, g5, hk⟩
      · omega
      rw [List.take_length] at g5
      have j2 := callJoinedO (l.map fun y => S (pr y)) ⟨#[44]⟩ (kk + 1) (by simp; omega) (by rw [joinB_map]; show (joinF _ [44] 0 l).length ≤ _; omega) 0 (AObj.cells [.str nm, .isl (GV.encs l) false] 0 false :: X)
      rw [joinB_map, List.map_map] at j2
      have e4 : (AV.str ∘ fun y => S (pr y)) = fun y => AV.str (S (pr y)) := rfl
      rw [e4] at j2
      simp only [show (⟨#[44]⟩ : ByteArray).data.toList = [44] from rfl] at j2
      generalize joinF (fun _ => pr) [44] 0 l = B at *
      have e6 : nm ++ ⟨#[40, 64]⟩ ++ S B ++ ⟨#[41, 46]⟩ = S (nm.data.toList ++ 40 :: 64 :: (B ++ [41, 46])) := bytes_ext (by simp [S])
      have q1 : (nm.size : Int) + 2 ≤ 9223372036854775807 := by omega
      have q2 : (nm.size : Int) + 2 + (B.length : Int) ≤ 9223372036854775807 := by omega
      have q3 : (nm.size : Int) + 2 + (B.length : Int) + 2 ≤ 9223372036854775807 := by omega
      simp [g1, g6, g5, j2, sz_mk, S_sz, q1, q2, q3, e6]
theorem callR4TupP (x : GU) (hs : x.size ≤ 1000000000) (bs : Nat) (σ : Heap) : callT T 25 [x.enc] bs σ = some (.str (textTuple x), σ) := call_clean rfl rfl rfl (by simp) (r4Tup_ok x hs)
end Go.Proofs.YtpkfkipbemdhmaaGreatDoor
end
section
set_option linter.unusedVariables false
set_option linter.unusedSimpArgs false
set_option linter.unnecessarySimpa false
namespace Go.Proofs.YtpkfkipbemdhmaaGreatDoor
open Go.Mach
theorem r4Number (n : Int) (bs : Nat) (σ : Heap) : callT T 64 [.int .i64 n] bs σ = some ((GV.mk 1 n ⟨#[]⟩ []).enc, σ) := call_clean rfl rfl rfl (by simp) (by
  apply pure_enter (by simp [c64]); simp [c64, setRun, GV.enc])
theorem r4PrNum (n : Int) (h : 1 ≤ n ∧ n ≤ 8) (bs : Nat) (σ : Heap) : callT T 63 [(GV.mk 1 n ⟨#[]⟩ []).enc] bs σ = some (.str (S (Lib.itoa n)), σ) := by
  have hr : rightT (.mk 1 n ⟨#[]⟩ []) = true := by
    simp [rightT, rightV, rightB, GV.kind, GV.num, GV.text, GV.items]; omega
  rw [refPrint _ (right_okV _ _ hr) (by simp [GV.size, GV.sizes, ByteArray.size]) bs σ]
  unfold printV; rw [if_pos hr]; simp [pr]
set_option maxRecDepth 100000 in
theorem r4Print_ok (x : GP) (hs : x.size ≤ 1000000000) : pureT T c24 [x.enc] = some (.str (textProgram x)) := by
  have h1 := callR4Right x (by omega)
  have m1 := fun y hy => x.decls_mem (y := y) hy
  have m2 := fun y hy => x.facts_mem (y := y) hy
  have m3 := fun y hy => x.rules_mem (y := y) hy
  apply pure_enter (by simp [c24])
  unfold textProgram
  cases hb : progB x
  · rw [hb] at h1
    simp [c24, h1, ← GP.enc_eq, S]
  · rw [hb] at h1
    have hln := prog_len hb
    simp only [progB, Bool.and_eq_true, decide_eq_true_eq, List.all_eq_true] at hb
    obtain ⟨⟨⟨b1, b2⟩, b3⟩, b4⟩ := hb
    obtain ⟨ds, us, rs⟩ := x
    simp only at b1 b2 b3 b4 m1 m2 m3
    rw [GP.enc_eq] at h1
    simp only [shProg] at hln h1 ⊢
    simp only [List.length_append] at hln
    have hu : ∀ y ∈ us, ∀ bs σ, callT T 25 [y.enc] bs σ = some (.str (S (shTup y)), σ) := fun y hy bs σ => by
      rw [callR4TupP y (by have := m2 y hy; omega) bs σ]; unfold textTuple; rw [if_pos (b2 y hy)]
    have hr : ∀ y ∈ rs, ∀ bs σ, callT T 26 [y.enc] bs σ = some (.str (S (shRule y)), σ) := fun y hy bs σ => by
      rw [callR4RuleP y (by have := m3 y hy; omega) bs σ]; unfold textRule; rw [if_pos (b3 y hy)]
    simp [c24, GP.enc_eq, h1]
    refine W_for T 0 72 ds.length (fun i f σ => f 1 = .ptr 0 0 ∧ f 4 = .str (S ((ds.take i).flatMap shDecl)) ∧ f 5 = .int .i64 (i : Int) ∧ σ = [.cells [.isl (ds.map GD.enc) false, .isl (us.map GU.enc) false, .isl (rs.map GR.enc) false] 0 false]) ?_ _ _ ?_
    rotate_left 1
    · simp [S]
    rintro i f σ hi ⟨g1, g4, g5, rfl⟩
    by_cases hlt : i < ds.length
    · have e1 : ds[i]? = some ds[i] := List.getElem?_eq_getElem hlt
      have hm := List.getElem_mem hlt
      have hd := b4 _ hm
      simp only [declB, Bool.and_eq_true, decide_eq_true_eq] at hd
      have n1 := rel_size hd.1
      have hw : IntKind.i64.wrap ((i : Int) + 1) = (i : Int) + 1 := wr64 (by omega) (by omega)
      have hle := flat_le shDecl ds (i + 1)
      rw [flat_take shDecl ds i hlt] at hle ⊢
      generalize (ds.take i).flatMap shDecl = cur at *
      simp only [List.length_append] at hle
      have hpn := r4PrNum ds[i].arity hd.2
      have hnum := r4Number ds[i].arity
      have hil := Lib.itoa_length_le ds[i].arity (by omega) (by omega)
      have e : S cur ++ ⟨#[109, 97, 116, 101, 114, 105, 97, 108, 105, 122, 101, 40]⟩ ++ ds[i].name ++ ⟨#[44]⟩ ++ S (Lib.itoa ds[i].arity) ++ ⟨#[41, 46, 10]⟩ = S (cur ++ shDecl ds[i]) := bytes_ext (by simp [S, shDecl, sMat])
      have q0 : (cur.length : Int) + 12 ≤ 9223372036854775807 := by omega
      have q1 : (cur.length : Int) + 12 + (ds[i].name.size : Int) ≤ 9223372036854775807 := by omega
      have q2 : (cur.length : Int) + 12 + (ds[i].name.size : Int) + 1 ≤ 9223372036854775807 := by omega
      have q3 : (cur.length : Int) + 12 + (ds[i].name.size : Int) + 1 + ((Lib.itoa ds[i].arity).length : Int) ≤ 9223372036854775807 := by omega
      have q4 : (cur.length : Int) + 12 + (ds[i].name.size : Int) + 1 + ((Lib.itoa ds[i].arity).length : Int) + 3 ≤ 9223372036854775807 := by omega
      simp [g1, g4, g5, hlt, e1, hw, hnum, hpn, S_sz, sz_mk, q0, q1, q2, q3, q4, e]
    · have he : i = ds.length := by omega
      subst he
      rw [List.take_length] at g4
      simp [g1, g4, g5]
      refine W_for T 0 72 us.length (fun i f σ => f 1 = .ptr 0 0 ∧ f 4 = .str (S (ds.flatMap shDecl ++ (us.take i).flatMap fun t => shTup t ++ [10])) ∧ f 6 = .int .i64 (i : Int) ∧ σ = [.cells [.isl (ds.map GD.enc) false, .isl (us.map GU.enc) false, .isl (rs.map GR.enc) false] 0 false]) ?_ _ _ ?_
      rotate_left 1
      · simp [g1, g4]
      clear g1 g4 g5
      rintro i f σ hi ⟨g1, g4, g5, rfl⟩
      by_cases hlt : i < us.length
      · have e1 : us[i]? = some us[i] := List.getElem?_eq_getElem hlt
        have hm := List.getElem_mem hlt
        have hw : IntKind.i64.wrap ((i : Int) + 1) = (i : Int) + 1 := wr64 (by omega) (by omega)
        have hle := flat_le (fun t => shTup t ++ [10]) us (i + 1)
        rw [flat_take (fun t => shTup t ++ [10]) us i hlt] at hle ⊢
        generalize (us.take i).flatMap (fun t => shTup t ++ [10]) = cur at *
        simp only [List.length_append, List.length_cons, List.length_nil] at hle
        have hc := hu us[i] hm
        have e : S (ds.flatMap shDecl ++ cur) ++ S (shTup us[i]) ++ ⟨#[10]⟩ = S (ds.flatMap shDecl ++ (cur ++ (shTup us[i] ++ [10]))) := bytes_ext (by simp [S])
        have e0 : ((ds.flatMap shDecl ++ cur).length : Int) = ((ds.flatMap shDecl).length : Int) + (cur.length : Int) := by simp
        have q0 : ((ds.flatMap shDecl).length : Int) + (cur.length : Int) + ((shTup us[i]).length : Int) ≤ 9223372036854775807 := by omega
        have q1 : ((ds.flatMap shDecl).length : Int) + (cur.length : Int) + ((shTup us[i]).length : Int) + 1 ≤ 9223372036854775807 := by omega
        simp only [← e]
        generalize ds.flatMap shDecl = D at *
        generalize shTup us[i] = A at *
        simp [g1, g4, g5, hlt, e1, hw, ← GU.enc_eq, hc, S_sz, sz_mk, q0, q1]
      · have he : i = us.length := by omega
        subst he
        rw [List.take_length] at g4
        simp [g1, g4, g5]
        refine W_for T 0 72 rs.length (fun i f σ => f 1 = .ptr 0 0 ∧ f 4 = .str (S (ds.flatMap shDecl ++ (us.flatMap (fun t => shTup t ++ [10]) ++ (rs.take i).flatMap fun t => shRule t ++ [10]))) ∧ f 7 = .int .i64 (i : Int) ∧ σ = [.cells [.isl (ds.map GD.enc) false, .isl (us.map GU.enc) false, .isl (rs.map GR.enc) false] 0 false]) ?_ _ _ ?_
        rotate_left 1
        · simp [g1, g4]
        clear g1 g4 g5
        rintro i f σ hi ⟨g1, g4, g5, rfl⟩
        by_cases hlt : i < rs.length
        · have e1 : rs[i]? = some rs[i] := List.getElem?_eq_getElem hlt
          have hm := List.getElem_mem hlt
          have hw : IntKind.i64.wrap ((i : Int) + 1) = (i : Int) + 1 := wr64 (by omega) (by omega)
          have hle := flat_le (fun t => shRule t ++ [10]) rs (i + 1)
          rw [flat_take (fun t => shRule t ++ [10]) rs i hlt] at hle ⊢
          generalize (rs.take i).flatMap (fun t => shRule t ++ [10]) = cur at *
          simp only [List.length_append, List.length_cons, List.length_nil] at hle
          have hc := hr rs[i] hm
          generalize ds.flatMap shDecl = D at *
          generalize us.flatMap (fun t => shTup t ++ [10]) = E at *
          have e : S (D ++ (E ++ cur)) ++ S (shRule rs[i]) ++ ⟨#[10]⟩ = S (D ++ (E ++ (cur ++ (shRule rs[i] ++ [10])))) := bytes_ext (by simp [S])
          have q0 : (D.length : Int) + ((E.length : Int) + (cur.length : Int)) + ((shRule rs[i]).length : Int) ≤ 9223372036854775807 := by omega
          have q1 : (D.length : Int) + ((E.length : Int) + (cur.length : Int)) + ((shRule rs[i]).length : Int) + 1 ≤ 9223372036854775807 := by omega
          simp only [← e]
          simp [g1, g4, g5, hlt, e1, hw, ← GR.enc_eq, hc, S_sz, sz_mk, q0, q1]
        · have he : i = rs.length := by omega
          subst he
          rw [List.take_length] at g4
          simp [g1, g4, g5]
theorem callR4PrintP (x : GP) (hs : x.size ≤ 1000000000) (bs : Nat) (σ : Heap) : callT T 24 [x.enc] bs σ = some (.str (textProgram x), σ) := call_clean rfl rfl rfl (by simp) (r4Print_ok x hs)
end Go.Proofs.YtpkfkipbemdhmaaGreatDoor
end
section
set_option linter.unusedVariables false
set_option linter.unusedSimpArgs false
set_option linter.unnecessarySimpa false
namespace Go.Proofs.YtpkfkipbemdhmaaGreatDoor
open Go.Mach
set_option maxRecDepth 100000 in
theorem printerTells_ok (x : GP) (hs : x.size ≤ 1000000000) : pureT T c7 [x.enc] = some (.bool true) := by
  have m2 := fun y hy => x.facts_mem (y := y) hy
  have m3 := fun y hy => x.rules_mem (y := y) hy
  have l2 := x.facts_len
  have l3 := x.rules_len
  have r1 := callPRight x (by omega)
  have r2 := callR4Right x (by omega)
  have p1 := sayProgram x (by omega)
  have p2 := callR4PrintP x hs
  generalize progB x = b at *
  generalize textProgram x = t at *
  obtain ⟨ds, us, rs⟩ := x
  simp only at m2 m3 l2 l3
  rw [GP.enc_eq] at r1 r2 p1 p2
  simp only at r1 r2 p1 p2
  apply pure_enter (by simp [c7])
  simp [c7, GP.enc_eq, callAwake4, r1, r2, p1, p2, sym]
  refine W_for T 0 119 (min us.length 64) (fun i f σ => f 1 = .ptr 0 0 ∧ f 4 = .int .i64 (i : Int) ∧ σ = [.cells [.isl (ds.map GD.enc) false, .isl (us.map GU.enc) false, .isl (rs.map GR.enc) false] 0 false]) ?_ _ _ ?_
  rotate_left 1
  · simp
  rintro i f σ hi ⟨g1, g4, rfl⟩
  by_cases hlt : i < min us.length 64
  · have c1 : i < us.length := by omega
    have c2 : (i : Int) < 64 := by omega
    have e1 : us[i]? = some us[i] := List.getElem?_eq_getElem c1
    have hm := List.getElem_mem c1
    have hw : IntKind.i64.wrap ((i : Int) + 1) = (i : Int) + 1 := wr64 (by omega) (by omega)
    have a1 := sayTuple us[i] (by have := m2 _ hm; omega)
    have a2 := callR4TupP us[i] (by have := m2 _ hm; omega)
    simp [g1, g4, c1, c2, e1, hw, ← GU.enc_eq, a1, a2]
    omega
  · have c1 : ¬ (i < us.length ∧ (i : Int) < 64) := by omega
    clear hlt
    by_cases d1 : i < us.length
    case' pos =>
      have d2 : ¬ ((i : Int) < 64) := fun h => c1 ⟨d1, h⟩
      simp [g1, g4, d1, d2]
    case' neg =>
      simp [g1, g4, d1]
    all_goals
      refine W_for T 0 119 (min rs.length 64) (fun i f σ => f 1 = .ptr 0 0 ∧ f 5 = .int .i64 (i : Int) ∧ ∃ rest, σ = AObj.cells [.isl (ds.map GD.enc) false, .isl (us.map GU.enc) false, .isl (rs.map GR.enc) false] 0 false :: rest) ?_ _ _ ?_
      rotate_left 1
      · simp [g1]
      clear g1 g4 hi d1 c1
      rintro i f σ hi ⟨g1, g5, rest, rfl⟩
      by_cases hlt : i < min rs.length 64
      · have c1 : i < rs.length := by omega
        have c2 : (i : Int) < 64 := by omega
        have e1 : rs[i]? = some rs[i] := List.getElem?_eq_getElem c1
        have hm := List.getElem_mem c1
        have hw : IntKind.i64.wrap ((i : Int) + 1) = (i : Int) + 1 := wr64 (by omega) (by omega)
        obtain ⟨r, hr⟩ : ∃ r, r = rs[i] := ⟨_, rfl⟩
        rw [← hr] at e1 hm
        have a1 := sayRule r (by have := m3 _ hm; omega)
        have a2 := callR4RuleP r (by have := m3 _ hm; omega)
        have n1 := r.args_le
        have n2 := r.body_len
        have n3 := fun y (hy : y ∈ r.body) => r.body_mem (y := y) hy
        have n4 := m3 _ hm
        generalize textRule r = tr at *
        obtain ⟨lab, hd, l, agg, pos, body⟩ := r
        simp only at n1 n2 n3
        rw [GR.enc_eq] at a1 a2
        simp only at a1 a2
        have hll := GT.len_sizes l
        simp [g1, g5, c1, c2, ← hr, setRun, GR.enc_eq, a1, a2]
        refine W_for T 0 119 (min body.length 9) (fun k f σ => f 1 = .ptr 0 0 ∧ f 5 = .int .i64 (i : Int) ∧ f 6 = .ptr (rest.length + 1) 0 ∧ f 7 = .int .i64 (k : Int) ∧ σ = AObj.cells [.isl (ds.map GD.enc) false, .isl (us.map GU.enc) false, .isl (rs.map GR.enc) false] 0 false :: (rest ++ [AObj.cells [.str lab, .str hd, .isl (GT.encs l) false, .str agg, .int .i64 pos, .isl (body.map GL.enc) false] 0 false])) ?_ _ _ ?_
        rotate_left 1
        · simp [g1, g5]
        clear g1 g5
        rintro k f σ hk ⟨g1, g5, g6, g7, rfl⟩
        by_cases hlt2 : k < min body.length 9
        · have d1 : k < body.length := by omega
          have d2 : (k : Int) < 9 := by omega
          have hm2 := List.getElem_mem d1
          have hw2 : IntKind.i64.wrap ((k : Int) + 1) = (k : Int) + 1 := wr64 (by omega) (by omega)
          have a3 := sayLiteral body[k] (by have := n3 _ hm2; omega)
          have a4 := callR4LitP body[k] (by have := n3 _ hm2; omega)
          simp [g1, g5, g6, g7, d1, d2, hw2, ← GL.enc_eq, a3, a4]
          omega
        · have d0 : ¬ (k < body.length ∧ (k : Int) < 9) := by omega
          by_cases d1 : k < body.length
          case' pos =>
            have d2 : ¬ ((k : Int) < 9) := fun h => d0 ⟨d1, h⟩
            simp [g1, g5, g6, g7, d1, d2]
          case' neg =>
            simp [g1, g5, g6, g7, d1]
          all_goals
            refine W_for T 0 119 (min l.length 9) (fun k f σ => f 1 = .ptr 0 0 ∧ f 5 = .int .i64 (i : Int) ∧ f 6 = .ptr (rest.length + 1) 0 ∧ f 8 = .int .i64 (k : Int) ∧ σ = AObj.cells [.isl (ds.map GD.enc) false, .isl (us.map GU.enc) false, .isl (rs.map GR.enc) false] 0 false :: (rest ++ [AObj.cells [.str lab, .str hd, .isl (GT.encs l) false, .str agg, .int .i64 pos, .isl (body.map GL.enc) false] 0 false])) ?_ _ _ ?_
            rotate_left 1
            · simp [g1, g5, g6]
            clear g1 g5 g6 g7 hlt2 d0 d1 hk
            rintro k f σ hk ⟨g1, g5, g6, g7, rfl⟩
            by_cases hlt2 : k < min l.length 9
            · have d1 : k < l.length := by omega
              have d2 : (k : Int) < 9 := by omega
              have hm2 := List.getElem_mem d1
              have hsz := (GT.sizes_mem hm2).1
              have hw2 : IntKind.i64.wrap ((k : Int) + 1) = (k : Int) + 1 := wr64 (by omega) (by omega)
              have a3 := sayTerm l[k] (by omega)
              have a4 := callR4TermP l[k] (by omega)
              simp [g1, g5, g6, g7, d1, d2, hw2, ← GT.enc_eq, a3, a4]
              omega
            · have d0 : ¬ (k < l.length ∧ (k : Int) < 9) := by omega
              by_cases d1 : k < l.length
              case' pos =>
                have d2 : ¬ ((k : Int) < 9) := fun h => d0 ⟨d1, h⟩
                simp [g1, g5, g6, g7, d1, d2, hw]
              case' neg =>
                simp [g1, g5, g6, g7, d1, hw]
              all_goals omega
      · have c1 : ¬ (i < rs.length ∧ (i : Int) < 64) := by omega
        by_cases d1 : i < rs.length
        · have d2 : ¬ ((i : Int) < 64) := fun h => c1 ⟨d1, h⟩
          simp [g1, g5, d1, d2]
        · simp [g1, g5, d1]
end Go.Proofs.YtpkfkipbemdhmaaGreatDoor
end
section
set_option linter.unusedVariables false
set_option linter.unusedSimpArgs false
set_option linter.unnecessarySimpa false
namespace Go.Proofs.YtpkfkipbemdhmaaGreatDoor
open Go.Mach
def aggOf (n : Nat) : ByteArray := if n = 0 then sMin else if n = 1 then sMax else sCount
def declOf (d : GD) : GD := ⟨relOf d.name, 1 + (pickN d.arity 8 : Int)⟩
def tupOf (t : GU) : GU := ⟨relOf t.name, .mk 3 0 ⟨#[97]⟩ [] :: (t.args.take 7).map fit⟩
def lit0 : GL := ⟨0, ⟨#[]⟩, []⟩
def bodyOf (l : List GL) : List GL := if l = [] then [litOf lit0] else (l.take 8).map litOf
def hasAgg (r : GR) : Prop := 1 < (argsOf r.args).length ∧ pickN r.pos 2 = 1
instance (r : GR) : Decidable (hasAgg r) := inferInstanceAs (Decidable (_ ∧ _))
def posOf (r : GR) : Nat := 1 + pickN r.pos ((argsOf r.args).length - 1)
def ruleOf (r : GR) : GR :=
  if hasAgg r then ⟨relOf r.label, relOf r.head, (argsOf r.args).set (posOf r) (.mk 1 (varOf r.agg) nilV []), aggOf (pickN r.pos 3), (posOf r : Int), bodyOf r.body⟩
  else ⟨relOf r.label, relOf r.head, argsOf r.args, ⟨#[]⟩, 0, bodyOf r.body⟩
def progOf (p : GP) : GP := ⟨(p.decls.take 64).map declOf, (p.facts.take 64).map tupOf, (p.rules.take 64).map ruleOf⟩
theorem decl_right (d : GD) : declB (declOf d) = true := by
  have := pickN_lt (c := d.arity) (n := 8) (by omega)
  have h : 1 ≤ (declOf d).arity ∧ (declOf d).arity ≤ 8 := by show 1 ≤ 1 + (pickN d.arity 8 : Int) ∧ 1 + (pickN d.arity 8 : Int) ≤ 8; omega
  have h2 : relOK (declOf d).name = true := rel_right d.name
  simp only [declB, h2, h, and_self, decide_true, Bool.and_self]
theorem tup_right (t : GU) : tupB (tupOf t) = true := by
  have hl : ((t.args.take 7).map fit).length ≤ 7 := by simp; omega
  have h0 : rightT (.mk 3 0 ⟨#[97]⟩ []) = true := by decide +kernel
  have h2 : relOK (tupOf t).name = true := rel_right t.name
  have h3 : (tupOf t).args = .mk 3 0 ⟨#[97]⟩ [] :: (t.args.take 7).map fit := rfl
  have h4 : 1 ≤ (tupOf t).args.length ∧ (tupOf t).args.length ≤ 8 := by rw [h3, List.length_cons]; omega
  have h5 : (tupOf t).args.all rightT = true := by
    rw [h3, List.all_cons, h0, Bool.true_and, List.all_eq_true]; intro x hx
    obtain ⟨y, _, rfl⟩ := List.mem_map.1 hx; exact fit_right y
  simp only [tupB, h2, h4, h5, and_self, decide_true, Bool.true_and, Bool.and_true]
  rw [h3]; rfl
theorem body_right (l : List GL) : (1 ≤ (bodyOf l).length ∧ (bodyOf l).length ≤ 8) ∧ (bodyOf l).all litB = true := by
  unfold bodyOf
  split
  · exact ⟨by simp, by simp [lit_right]⟩
  · rename_i h
    have := List.length_pos_iff.2 h
    refine ⟨by simp; omega, ?_⟩
    rw [List.all_eq_true]; intro x hx
    obtain ⟨y, _, rfl⟩ := List.mem_map.1 hx; exact lit_right y
theorem argsOf_len (l : List GT) : 1 ≤ (argsOf l).length ∧ (argsOf l).length ≤ 8 := by simp [argsOf]; omega
theorem posOf_lt {r : GR} (h : hasAgg r) : 1 ≤ posOf r ∧ posOf r < (argsOf r.args).length := by
  have := pickN_lt (c := r.pos) (n := (argsOf r.args).length - 1) (by have := h.1; omega)
  unfold posOf; omega
theorem args_set_right {l : List GT} {n : Nat} (hn : 1 ≤ n) {v : GT} (hv : termR 8 v = true) : argsB ((argsOf l).set n v) = true := by
  have h := args_right l
  simp only [argsB, Bool.and_eq_true, decide_eq_true_eq, List.all_eq_true] at h ⊢
  obtain ⟨⟨h1, h2⟩, h3⟩ := h
  refine ⟨⟨by simpa using h1, fun x hx => ?_⟩, ?_⟩
  · rcases List.mem_or_eq_of_mem_set hx with hx | rfl
    · exact h2 x hx
    · exact hv
  · unfold argsOf at h3 ⊢
    obtain ⟨m, rfl⟩ : ∃ m, n = m + 1 := ⟨n - 1, by omega⟩
    simpa [headOK] using h3
theorem aggVar_right (s : ByteArray) : termR 8 (.mk 1 (varOf s) nilV []) = true := by
  simp [termR, termB, GT.kind, GT.value, GT.args, GT.name, bareV, nilV, var_right, GV.kind, GV.num, GV.text, GV.items]
theorem rule_right (r : GR) : ruleB (ruleOf r) = true := by
  obtain ⟨b1, b2⟩ := body_right r.body
  unfold ruleOf
  split
  · rename_i h
    obtain ⟨h1, h2⟩ := posOf_lt h
    have ha := args_set_right (l := r.args) h1 (aggVar_right r.agg)
    have hg : aggOf (pickN r.pos 3) ≠ ⟨#[]⟩ ∧ (aggOf (pickN r.pos 3) = sMin ∨ aggOf (pickN r.pos 3) = sMax ∨ aggOf (pickN r.pos 3) = sCount) := by
      unfold aggOf
      split
      · exact ⟨by decide, .inl rfl⟩
      split
      · exact ⟨by decide, .inr (.inl rfl)⟩
      · exact ⟨by decide, .inr (.inr rfl)⟩
    simp only [ruleB, rel_right, ha, b1, b2, aggB, if_neg hg.1, hg.2, Bool.and_true, Bool.true_and, Bool.and_eq_true, decide_eq_true_eq, decide_true, and_self]
    refine ⟨⟨by omega, by simp; omega⟩, ?_⟩
    rw [Int.toNat_natCast]
    simp [h2, GT.kind]
  · simp [ruleB, rel_right, args_right, b1, b2, aggB]
theorem prog_right (p : GP) : progB (progOf p) = true := by
  simp only [progB, progOf, Bool.and_eq_true, decide_eq_true_eq, List.all_eq_true]
  refine ⟨⟨⟨by simp; omega, fun x hx => ?_⟩, fun x hx => ?_⟩, fun x hx => ?_⟩
  all_goals obtain ⟨y, _, rfl⟩ := List.mem_map.1 hx
  · exact tup_right y
  · exact rule_right y
  · exact decl_right y
theorem relOf_le (s : ByteArray) : (relOf s).size ≤ 16 := by
  have := nameFit_size s
  unfold relOf; split
  · show 1 ≤ 16; omega
  · omega
theorem varOf_le (s : ByteArray) : (varOf s).size ≤ 16 := by
  have := nameFit_size s
  unfold varOf; rw [ByteArray.size_append, ByteArray.size_extract]
  show 1 + _ ≤ 16; omega
theorem gv_pos (v : GV) : 5 ≤ v.size := by cases v; simp only [GV.size]; omega
theorem gt_pos (t : GT) : 8 ≤ t.size := by cases t with | mk k n v l => simp only [GT.size]; have := gv_pos v; omega
theorem sizesV_map (f : GV → GV) (h : ∀ x, (f x).size ≤ 8 * x.size) : ∀ (l : List GV) (n : Nat), GV.sizes ((l.take n).map f) ≤ 8 * GV.sizes l
  | [], n => by simp [GV.sizes]
  | x :: l, 0 => by simp [GV.sizes]
  | x :: l, n + 1 => by have := sizesV_map f h l n; have := h x; simp only [List.take_succ_cons, List.map_cons, GV.sizes]; omega
theorem sizesT_map (f : GT → GT) (h : ∀ x, (f x).size ≤ 8 * x.size) : ∀ (l : List GT) (n : Nat), GT.sizes ((l.take n).map f) ≤ 8 * GT.sizes l
  | [], n => by simp [GT.sizes]
  | x :: l, 0 => by simp [GT.sizes]
  | x :: l, n + 1 => by have := sizesT_map f h l n; have := h x; simp only [List.take_succ_cons, List.map_cons, GT.sizes]; omega
theorem fitV_le : ∀ (d : Nat) (v : GV), (fitV d v).size ≤ 8 * v.size := by
  intro d
  induction d with
  | zero =>
    intro v
    have := gv_pos v
    rw [fitV]
    repeat' split
    · simp only [GV.size, GV.sizes]; show 0 + 0 + 5 ≤ _; omega
    · simp only [GV.size, GV.sizes]
      have : (textFit v.text).size ≤ 32 := by simp only [textFit, ByteArray.size, List.size_toArray, List.length_map, List.length_take]; omega
      omega
    · simp only [GV.size, GV.sizes]; have := nameFit_size v.text; omega
    · simp only [GV.size, GV.sizes]; show 0 + 0 + 5 ≤ _; omega
  | succ d ih =>
    intro v
    have := gv_pos v
    rw [fitV]
    repeat' split
    · simp only [GV.size, GV.sizes]; show 0 + 0 + 5 ≤ _; omega
    · simp only [GV.size, GV.sizes]
      have : (textFit v.text).size ≤ 32 := by simp only [textFit, ByteArray.size, List.size_toArray, List.length_map, List.length_take]; omega
      omega
    · simp only [GV.size, GV.sizes]; have := nameFit_size v.text; omega
    · have hm := sizesV_map (fun x => fitV d (if d = 0 ∧ pickN x.kind 4 = 3 then .mk 0 x.num x.text x.items else x)) (fun x => by
        have h1 := ih (if d = 0 ∧ pickN x.kind 4 = 3 then .mk 0 x.num x.text x.items else x)
        have h2 : (if d = 0 ∧ pickN x.kind 4 = 3 then GV.mk 0 x.num x.text x.items else x).size = x.size := by
          split
          · cases x; simp only [GV.size, GV.text, GV.items]
          · rfl
        rw [h2] at h1; exact h1) v.items 16
      have h3 : v.size = v.text.size + GV.sizes v.items + 5 := by cases v; simp only [GV.size, GV.text, GV.items]
      simp only [GV.size]; show 0 + _ + 5 ≤ _; omega
theorem fit_le (v : GV) : (fit v).size ≤ 8 * v.size := fitV_le 4 v
theorem valOf_le (v : GV) : (valOf v).size ≤ 8 * v.size := by
  unfold valOf
  split
  · rename_i h
    have h1 := gv_pos v
    have h2 := relOf_le (fit v).text
    obtain ⟨n, t, e⟩ : ∃ n t, fit v = .mk 3 n t [] := by
      have hr := fit_right v
      unfold fit at h ⊢
      rw [fitV] at h ⊢
      repeat' split
      · rename_i h1; rw [if_pos h1] at h; simp [GV.kind] at h
      · rename_i h1 h2; rw [if_neg h1, if_pos h2] at h; simp [GV.kind] at h
      · exact ⟨_, _, rfl⟩
      · rename_i h1 h2 h3; simp [h1, h2, h3, GV.kind] at h
    have e2 : (fit v).items = [] := by rw [e]
    rw [e2]
    simp only [GV.size, GV.sizes]; omega
  · exact fit_le v
theorem leafT_le (t : GT) : (leafT t).size ≤ 8 * t.size := by
  have h0 := gt_pos t
  unfold leafT
  split
  · have := varOf_le t.name
    simp only [GT.size, GT.sizes, nilV, GV.size, GV.sizes]; show _ + (0 + 0 + 5) + 0 + 3 ≤ _; omega
  · have h1 := valOf_le t.value
    have h2 : t.size = t.name.size + t.value.size + GT.sizes t.args + 3 := by cases t; rfl
    simp only [GT.size, GT.sizes]; show 0 + _ + 0 + 3 ≤ _; omega
theorem termV_le : ∀ (d : Nat) (t : GT), (termV d t).size ≤ 8 * t.size
  | 0, t => by rw [termV]; exact leafT_le t
  | d + 1, t => by
    have h0 := gt_pos t
    have h2 : t.size = t.name.size + t.value.size + GT.sizes t.args + 3 := by cases t; rfl
    have h5 := gv_pos t.value
    rw [termV]
    split
    · exact leafT_le t
    split
    · have := varOf_le t.name
      simp only [GT.size, GT.sizes, nilV, GV.size, GV.sizes]; show _ + (0 + 0 + 5) + 0 + 3 ≤ _; omega
    split
    · have h1 := valOf_le t.value
      simp only [GT.size, GT.sizes]; show 0 + _ + 0 + 3 ≤ _; omega
    split
    · generalize pickN (IntKind.i64.wrap ((t.name.size : Int) + t.kind)) 6 = q
      have h3 := sizesT_map (termV d) (termV_le d) t.args (arityOf (fnOf q)).toNat
      have h4 : (fnOf q).size ≤ 9 := by unfold fnOf; (repeat' split) <;> decide
      simp only [GT.size, nilV, GV.size, GV.sizes]; show _ + (0 + 0 + 5) + _ + 3 ≤ _; omega
    · have h3 := sizesT_map (termV d) (termV_le d) t.args 2
      have h4 : ∀ q, (opOf q).size ≤ 9 := fun q => by unfold opOf; (repeat' split) <;> decide
      have h4 := h4 (pickN t.name.size 3)
      simp only [GT.size, nilV, GV.size, GV.sizes]; show _ + (0 + 0 + 5) + _ + 3 ≤ _; omega
theorem argsOf_le (l : List GT) : GT.sizes (argsOf l) ≤ 24 + 8 * GT.sizes l := by
  have h1 := sizesT_map (termV 8) (termV_le 8) (l.drop 1) 7
  have h2 : GT.sizes (l.drop 1) ≤ GT.sizes l := by cases l with
    | nil => simp [GT.sizes]
    | cons x l => simp only [List.drop_succ_cons, List.drop_zero, GT.sizes]; omega
  have h3 : (firstOf l).size ≤ 24 := by
    unfold firstOf
    cases l with
    | nil => simp only [GT.size, GT.sizes, nilV, GV.size, GV.sizes]; show 1 + (0 + 0 + 5) + 0 + 3 ≤ _; omega
    | cons t l =>
      simp only
      split
      · have := relOf_le t.name
        simp only [GT.size, GT.sizes, GV.size, GV.sizes]; show 0 + _ + 0 + 3 ≤ _; omega
      · simp only [GT.size, GT.sizes, nilV, GV.size, GV.sizes]; show 1 + (0 + 0 + 5) + 0 + 3 ≤ _; omega
  simp only [argsOf, GT.sizes]; omega
theorem termI_le (l : List GT) (i : Nat) : (termI l i).size ≤ 9 + 8 * GT.sizes l := by
  unfold termI
  split
  · rename_i t h
    have := termV_le 8 t
    have := (GT.sizes_mem (List.mem_of_getElem? h)).1
    omega
  · simp only [GT.size, GT.sizes, nilV, GV.size, GV.sizes]; show 1 + (0 + 0 + 5) + 0 + 3 ≤ _; omega
theorem gl_size (x : GL) : x.size = x.name.size + GT.sizes x.args + 4 := by simp only [GL.size, GL.enc, bulkA, bulkAs, GT.bulk_encs]; omega
theorem litOf_le (x : GL) : (litOf x).size ≤ 16 * x.size := by
  have h0 := gl_size x
  have h1 := argsOf_le x.args
  have h2 := relOf_le x.name
  have h3 := varOf_le x.name
  have h4 := termI_le x.args 0
  have h5 := termI_le x.args 1
  have h6 : (testOf (pickN x.name.size 6)).size ≤ 2 := by unfold testOf; (repeat' split) <;> decide
  rw [gl_size]
  unfold litOf
  repeat' split
  all_goals simp only [GT.sizes]; omega
theorem gr_size (x : GR) : x.size = x.label.size + x.head.size + GT.sizes x.args + x.agg.size + bulkAs (x.body.map GL.enc) + 7 := by simp only [GR.size, GR.enc, bulkA, bulkAs, GT.bulk_encs]; omega
theorem gu_size (x : GU) : x.size = x.name.size + GV.sizes x.args + 3 := by simp only [GU.size, GU.enc, bulkA, bulkAs, GV.bulk_encs]; omega
theorem gd_size (x : GD) : x.size = x.name.size + 3 := by simp only [GD.size, GD.enc, bulkA, bulkAs]
theorem bulk_map {α : Type} (f : α → α) (enc : α → AV) (K : Nat) (h : ∀ x, bulkA (enc (f x)) ≤ K * bulkA (enc x)) : ∀ (l : List α) (n : Nat), bulkAs (((l.take n).map f).map enc) ≤ K * bulkAs (l.map enc)
  | [], n => by simp [bulkAs]
  | x :: l, 0 => by simp [bulkAs]
  | x :: l, n + 1 => by have := bulk_map f enc K h l n; have := h x; simp only [List.take_succ_cons, List.map_cons, bulkAs, Nat.mul_add]; omega
theorem bodyOf_le (l : List GL) : bulkAs ((bodyOf l).map GL.enc) ≤ 64 + 16 * bulkAs (l.map GL.enc) := by
  unfold bodyOf
  split
  · have h := litOf_le lit0
    have h2 : lit0.size = 4 := by rw [gl_size]; rfl
    have h3 : bulkAs ([litOf lit0].map GL.enc) = (litOf lit0).size := by simp only [List.map_cons, List.map_nil, bulkAs, GL.size]; omega
    rw [h3]; omega
  · have := bulk_map litOf GL.enc 16 litOf_le l 8
    omega
theorem sizes_set (l : List GT) (n : Nat) (v : GT) : GT.sizes (l.set n v) ≤ GT.sizes l + v.size := by
  induction l generalizing n with
  | nil => simp [GT.sizes]
  | cons x l ih =>
    cases n with
    | zero => simp only [List.set_cons_zero, GT.sizes]; omega
    | succ n => have := ih n; simp only [List.set_cons_succ, GT.sizes]; omega
theorem ruleOf_le (r : GR) : (ruleOf r).size ≤ 40 * r.size := by
  have h0 := gr_size r
  have h1 := argsOf_le r.args
  have h2 := relOf_le r.label
  have h3 := relOf_le r.head
  have h4 := bodyOf_le r.body
  have h5 := varOf_le r.agg
  have h6 : (aggOf (pickN r.pos 3)).size ≤ 5 := by unfold aggOf; (repeat' split) <;> decide
  have h7 := sizes_set (argsOf r.args) (posOf r) (.mk 1 (varOf r.agg) nilV [])
  have h8 : (GT.mk 1 (varOf r.agg) nilV []).size ≤ 24 := by simp only [GT.size, GT.sizes, nilV, GV.size, GV.sizes]; show _ + (0 + 0 + 5) + 0 + 3 ≤ _; omega
  rw [gr_size]
  unfold ruleOf
  split
  · simp only; omega
  · simp only; show _ + _ + _ + 0 + _ + 7 ≤ _; omega
theorem tupOf_le (t : GU) : (tupOf t).size ≤ 40 * t.size := by
  have h1 := relOf_le t.name
  have h2 := sizesV_map fit fit_le t.args 7
  have h3 := gu_size t
  rw [gu_size]
  simp only [tupOf, GV.sizes, GV.size]
  show _ + (1 + 0 + 5 + _) + 3 ≤ _; omega
theorem declOf_le (d : GD) : (declOf d).size ≤ 40 * d.size := by
  have h1 := relOf_le d.name
  have h3 := gd_size d
  rw [gd_size]; simp only [declOf]; omega
theorem gp_size (p : GP) : p.size = bulkAs (p.decls.map GD.enc) + bulkAs (p.facts.map GU.enc) + bulkAs (p.rules.map GR.enc) + 4 := by simp only [GP.size, GP.enc, bulkA, bulkAs]; omega
theorem progOf_le (p : GP) : (progOf p).size ≤ 40 * p.size := by
  have h1 := bulk_map declOf GD.enc 40 declOf_le p.decls 64
  have h2 := bulk_map tupOf GU.enc 40 tupOf_le p.facts 64
  have h3 := bulk_map ruleOf GR.enc 40 ruleOf_le p.rules 64
  have h4 := gp_size p
  rw [gp_size]; simp only [progOf]; omega
end Go.Proofs.YtpkfkipbemdhmaaGreatDoor
end
section
set_option linter.unusedVariables false
set_option linter.unusedSimpArgs false
set_option linter.unnecessarySimpa false
namespace Go.Mach
def ACode.fst : ACode → ACode | .seq a _ => a | c => c
def ACode.snd : ACode → ACode | .seq _ b => b | c => c
def ACode.inn : ACode → ACode | .block _ c => c | .loop c => c | c => c
end Go.Mach
namespace Go.Proofs.YtpkfkipbemdhmaaGreatDoor
open Go.Mach
def LstA (R : Heap) (off : Nat) (es : List AV) (sz : Nat) (x : AV) : Prop := (es = [] ∧ x = .isl [] true) ∨ ∃ k, x = .own (k + off) es ∧ R[k]? = some (.tok es.length sz)
def LstB (es : List AV) (x : AV) : Prop := (es = [] ∧ x = .isl [] true) ∨ ∃ k, x = .own k es
theorem LstA.b {R : Heap} {off sz : Nat} {es : List AV} {x : AV} (h : LstA R off es sz x) : LstB es x := by
  rcases h with h | ⟨k, h, _⟩
  · exact .inl h
  · exact .inr ⟨_, h⟩
theorem LstB.close {σ : Heap} {es : List AV} {x : AV} (h : LstB es x) : close1 σ x = some (.isl es false, σ) := by
  rcases h with ⟨rfl, rfl⟩ | ⟨k, rfl⟩
  · rfl
  · rfl
theorem LstA.more {R : Heap} {off sz : Nat} {es : List AV} {x : AV} (h : LstA R off es sz x) (S : Heap) : LstA (R ++ S) off es sz x := by
  rcases h with h | ⟨k, h1, h2⟩
  · exact .inl h
  · exact .inr ⟨k, h1, by rw [List.getElem?_append_left (List.getElem?_eq_some_iff.1 h2).1]; exact h2⟩
theorem LstA.snoc {R T : Heap} {k off sz : Nat} {es : List AV} {v : AV} (hk : k < R.length) : LstA (R.set k (.tok (es.length + 1) sz) ++ T) off (es ++ [v]) sz (.own (k + off) (es ++ [v])) :=
  .inr ⟨k, rfl, by rw [List.getElem?_append_left (by simpa using hk)]; simp [hk]⟩
theorem allEl_map {α : Type} (enc : α → AV) (sz : Nat) (h : ∀ x, okEl sz true (enc x) = true) (l : List α) : (l.map enc).all (okEl sz true) = true := by
  rw [List.all_eq_true]; intro y hy
  obtain ⟨x, _, rfl⟩ := List.mem_map.1 hy; exact h x
theorem take_map {α β : Type} (f : α → β) (l : List α) (i : Nat) (h : i < l.length) : (l.take (i + 1)).map f = (l.take i).map f ++ [f l[i]] := by
  rw [List.take_add_one, List.getElem?_eq_getElem h, List.map_append]; rfl
theorem grow {pre R : Heap} {m sz bytes fz : Nat} {ext : Bool} {es : List AV} {x : AV} {cs : List AV} (hx : LstA R pre.length es sz x) (hm : R[m]? = some (.cells cs fz ext)) (hl : cs.length = sz) (hc : cs.all AV.clo1 = true) (h0 : 0 < sz) (hb : bytes ≤ 1000) (hes : es.all (okEl sz true) = true) (hn : es.length ≤ 10000000000) :
    ∃ x' R2, appendC (pre ++ R) sz true bytes false x (.sl (m + pre.length) 0 1 sz true) = some (x', pre ++ R2) ∧ LstA R2 pre.length (es ++ [.agg (cs.map AV.nrm)]) sz x' ∧ ∀ (j : Nat) cs' f e, R[j]? = some (AObj.cells cs' f e) → R2[j]? = some (AObj.cells cs' f e) := by
  have hmσ : (pre ++ R)[m + pre.length]? = some (.cells cs fz ext) := by rw [List.getElem?_append_right (by omega), Nat.add_sub_cancel]; exact hm
  rcases hx with ⟨rfl, rfl⟩ | ⟨k, rfl, hk⟩
  · refine ⟨.own (R.length + pre.length) [.agg (cs.map AV.nrm)], R ++ [.tok 1 sz], ?_, .inr ⟨R.length, rfl, by simp⟩, fun j cs' f e hj => by rw [List.getElem?_append_left (List.getElem?_eq_some_iff.1 hj).1]; exact hj⟩
    rw [appendC_clo hmσ hc, closeS_isl]
    refine app_ag hmσ hl hc h0 hb ?_
    simp [Nat.add_comm]
  · have hkl : k < R.length := (List.getElem?_eq_some_iff.1 hk).1
    refine ⟨.own (k + pre.length) (es ++ [.agg (cs.map AV.nrm)]), R.set k (.tok (es.length + 1) sz), ?_, .inr ⟨k, rfl, by simp [hkl]⟩, fun j cs' f e hj => ?_⟩
    · rw [appendC_clo hmσ hc, closeS_own]
      refine app_ag hmσ hl hc h0 hb ?_
      rw [app1_own hes hn (by rw [List.getElem?_append_right (by omega), Nat.add_sub_cancel]; exact hk)]
      rw [List.set_append_right _ _ (by omega), Nat.add_sub_cancel]
    · have : k ≠ j := fun e => by subst e; rw [hk] at hj; cases hj
      rw [List.getElem?_set, if_neg this]; exact hj
theorem growC {pre R R1 : Heap} {m sz bytes fz fz1 : Nat} {ext ext1 : Bool} {es : List AV} {x : AV} {cs ys : List AV} (hx : LstA R pre.length es sz x) (hm : R[m]? = some (.cells cs fz ext)) (hl : ys.length = sz) (hcn : cs.all AV.clo1 = false) (hcl : closeL (pre ++ R) cs = some (ys, pre ++ R1)) (hm1 : R1[m]? = some (.cells cs fz1 ext1))
    (hlc : cs.length = ys.length) (hc : ys.all AV.clo1 = true) (htok : ∀ (k n s : Nat), R[k]? = some (AObj.tok n s) → R1[k]? = some (AObj.tok n s)) (hRl : R1.length = R.length) (h0 : 0 < sz) (hb : bytes ≤ 1000) (hes : es.all (okEl sz true) = true) (hn : es.length ≤ 10000000000) :
    ∃ x' R2, appendC (pre ++ R) sz true bytes false x (.sl (m + pre.length) 0 1 sz true) = some (x', pre ++ R2) ∧ LstA R2 pre.length (es ++ [.agg (ys.map AV.nrm)]) sz x' := by
  have hmσ : (pre ++ R)[m + pre.length]? = some (.cells cs fz ext) := by rw [List.getElem?_append_right (by omega), Nat.add_sub_cancel]; exact hm
  have hm1σ : (pre ++ R1)[m + pre.length]? = some (.cells cs fz1 ext1) := by rw [List.getElem?_append_right (by omega), Nat.add_sub_cancel]; exact hm1
  have hset : (pre ++ R1).set (m + pre.length) (.cells ys fz1 ext1) = pre ++ R1.set m (.cells ys fz1 ext1) := by rw [List.set_append_right _ _ (by omega), Nat.add_sub_cancel]
  have hml : m < R1.length := (List.getElem?_eq_some_iff.1 hm1).1
  rcases hx with ⟨rfl, rfl⟩ | ⟨k, rfl, hk⟩
  · refine ⟨.own (R.length + pre.length) [.agg (ys.map AV.nrm)], R1.set m (.cells ys fz1 ext1) ++ [.tok 1 sz], ?_, .inr ⟨R.length, rfl, by rw [← hRl]; simp⟩⟩
    refine appendC_close hmσ hcn hcl hm1σ hlc hc hl h0 hb ?_
    rw [hset]
    simp [Nat.add_comm, hRl]
  · have hk1 := htok _ _ _ hk
    have hkl : k < R1.length := (List.getElem?_eq_some_iff.1 hk1).1
    have hkm : m ≠ k := fun e => by subst e; rw [hk] at hm; cases hm
    refine ⟨.own (k + pre.length) (es ++ [.agg (ys.map AV.nrm)]), (R1.set m (.cells ys fz1 ext1)).set k (.tok (es.length + 1) sz), ?_, .inr ⟨k, rfl, by simp [hkl]⟩⟩
    refine appendC_close hmσ hcn hcl hm1σ hlc hc hl h0 hb ?_
    rw [hset, app1_own hes hn (by rw [List.getElem?_append_right (by omega), Nat.add_sub_cancel, List.getElem?_set, if_neg hkm]; exact hk1)]
    rw [List.set_append_right _ _ (by omega), Nat.add_sub_cancel]
theorem frz_app {pre R : Heap} {k n : Nat} : frz (pre ++ R) (k + pre.length) n = pre ++ frz R k n := by
  have e : (pre ++ R)[k + pre.length]? = R[k]? := by rw [List.getElem?_append_right (by omega), Nat.add_sub_cancel]
  unfold frz
  rw [e]
  split
  · rw [List.set_append_right _ _ (by omega), Nat.add_sub_cancel]
  · rfl
theorem frz_tok {R : Heap} {j m : Nat} {k n s : Nat} (h : R[k]? = some (.tok n s)) : (frz R j m)[k]? = some (.tok n s) := by
  unfold frz
  split
  · rename_i hj
    have : j ≠ k := fun e => by subst e; rw [h] at hj; cases hj
    rw [List.getElem?_set, if_neg this]; exact h
  · exact h
theorem frz_len {R : Heap} {j m : Nat} : (frz R j m).length = R.length := by unfold frz; split <;> simp
theorem LstA.cell {R : Heap} {off sz : Nat} {es : List AV} {x : AV} (h : LstA R off es sz x) : x.solid = true ∧ x.cells = [x] := by
  rcases h with ⟨_, rfl⟩ | ⟨k, rfl, _⟩ <;> exact ⟨rfl, rfl⟩
def fitP (p : GP) (xd xu xr : AV) (R : Heap) : Heap := .cells [.isl (p.decls.map GD.enc) false, .isl (p.facts.map GU.enc) false, .isl (p.rules.map GR.enc) false] 0 false :: .cells [.isl [] true, .isl [] true, .isl [] true] 0 false :: .cells [xd, xu, xr] 0 false :: R
theorem fit1 (p : GP) (hp : p.ok) (hs : p.size ≤ 1048576) (K : List Fr) (Q : AExit → FR → Heap → Prop) (f : FR) (σ : Heap) (h1 : f 1 = .ptr 0 0) (h2 : f 2 = .ptr 1 0) (h3 : f 3 = .ptr 2 0) (hσ : σ = fitP p (.isl [] true) (.isl [] true) (.isl [] true) [])
    (hk : ∀ f σ, f 1 = .ptr 0 0 → f 2 = .ptr 1 0 → f 3 = .ptr 2 0 → (∃ xd R, σ = fitP p xd (.isl [] true) (.isl [] true) R ∧ LstB (((p.decls.take 64).map declOf).map GD.enc) xd) → wpK T 0 202 K f σ Q) :
    wpK T 0 202 (.code c10.body.snd.snd.fst :: K) f σ Q := by
  subst hσ
  have hl := p.decls_len
  have hm := fun y hy => p.decls_mem (y := y) hy
  have hok : ∀ d ∈ p.decls, GV.i64ok d.arity := fun d hd => (hp.1 d hd)
  simp [c10, ACode.fst, ACode.snd, fitP]
  refine W_for T 0 202 (min p.decls.length 64) (fun i f σ => f 1 = .ptr 0 0 ∧ f 2 = .ptr 1 0 ∧ f 3 = .ptr 2 0 ∧ f 4 = .int .i64 (i : Int) ∧ ∃ xd R, σ = fitP p xd (.isl [] true) (.isl [] true) R ∧ LstA R 3 (((p.decls.take i).map declOf).map GD.enc) 2 xd) ?_ _ _ ?_
  rotate_left 1
  · exact ⟨by simp [h1], by simp [h2], by simp [h3], by simp, _, _, rfl, .inl ⟨by simp, rfl⟩⟩
  clear h1 h2 h3
  rintro i f σ hi ⟨h1, h2, h3, h4, xd, R, rfl, hx⟩
  by_cases hlt : i < min p.decls.length 64
  · have c1 : i < p.decls.length := by omega
    have c2 : (i : Int) < 64 := by omega
    have hmem := List.getElem_mem c1
    have hsz := hm _ hmem
    have hn := GD.name_le p.decls[i]
    have hlw : IntKind.i64.wrap ((i : Int) + 1) = (i : Int) + 1 := wr64 (by omega) (by omega)
    have hr := lawRel p.decls[i].name (by omega)
    have hq := pickQ p.decls[i].arity 8 (by omega) (hok _ hmem)
    have hql := pickN_lt (c := p.decls[i].arity) (n := 8) (by omega)
    have hw2 : IntKind.i64.wrap (1 + (pickN p.decls[i].arity 8 : Int)) = 1 + (pickN p.decls[i].arity 8 : Int) := wr64 (by omega) (by omega)
    have he : declOf p.decls[i] = ⟨relOf p.decls[i].name, 1 + (pickN p.decls[i].arity 8 : Int)⟩ := rfl
    rw [take_map declOf _ _ c1, List.map_append]
    have hall := allEl_map GD.enc 2 (fun x => rfl) ((p.decls.take i).map declOf)
    have hlen : (((p.decls.take i).map declOf).map GD.enc).length = i := by simp; omega
    have hnil : i = 0 → ((p.decls.take i).map declOf).map GD.enc = [] := fun h => by subst h; rfl
    generalize hES : ((p.decls.take i).map declOf).map GD.enc = es at *
    have hq : ∀ bs σ, callT T 20 [.int .i64 p.decls[i].arity, .int .i64 8] bs σ = some (.int .i64 (pickN p.decls[i].arity 8 : Int), σ) := hq
    rcases hx with ⟨h0, rfl⟩ | ⟨k, rfl, hk2⟩
    · subst h0
      simp [fitP, h1, h2, h3, h4, c1, c2, hr, hq, hw2, hlw, setRun]
      exact ⟨hlt, _, _, ⟨rfl, rfl⟩, .inr ⟨R.length + 1, rfl, by simp⟩⟩
    · have hkl : k < R.length := (List.getElem?_eq_some_iff.1 hk2).1
      have hne : i ≤ 10000000000 := by omega
      simp [fitP, h1, h2, h3, h4, c1, c2, hr, hq, hw2, hlw, setRun, hk2, hall, hlen, hne, List.getElem?_append_left hkl, List.set_append_left _ _ hkl]
      have := LstA.snoc (T := [AObj.cells [AV.str (relOf p.decls[i].name), AV.int IntKind.i64 (1 + (pickN p.decls[i].arity 8 : Int))] 0 false]) (off := 3) (sz := 2) (es := es) (v := (declOf p.decls[i]).enc) hkl
      rw [hlen] at this
      exact ⟨hlt, _, _, ⟨rfl, rfl⟩, this⟩
  · have c1 : ¬ (i < p.decls.length ∧ (i : Int) < 64) := by omega
    have hfin : (p.decls.take i) = p.decls.take 64 := by
      have : i = min p.decls.length 64 := by omega
      rw [this]; simp [List.take_eq_take_iff, Nat.min_comm]
    rw [hfin] at hx
    by_cases d1 : i < p.decls.length
    · have d2 : ¬ ((i : Int) < 64) := fun h => c1 ⟨d1, h⟩
      simp [fitP, h1, h4, d1, d2]
      exact hk _ _ (by simp [h1]) (by simp [h2]) (by simp [h3]) ⟨_, _, rfl, hx.b⟩
    · simp [fitP, h1, h4, d1]
      exact hk _ _ (by simp [h1]) (by simp [h2]) (by simp [h3]) ⟨_, _, rfl, hx.b⟩
def arr0 (b : Bool) (fz : Nat) : AObj := .cells [.int .i64 3, .int .i64 0, .str ⟨#[97]⟩, .isl [] b] fz false
def TupY (A : AObj) (R2 : Heap) (off : Nat) (l : List GV) (y : AV) : Prop :=
  (l = [] ∧ y = .sl off 0 1 4 true ∧ A = arr0 true 0) ∨ ((l ≠ [] ∧ A = arr0 false 0) ∧ ∃ k, y = .own (k + (off + 2)) (GV.encs (.mk 3 0 ⟨#[97]⟩ [] :: l)) ∧ R2[k]? = some (.tok (l.length + 1) 4))
theorem TupY.close {pre R2 : Heap} {A T : AObj} {off : Nat} {l : List GV} {y : AV} (h : TupY A R2 off l y) (ho : pre.length = off) (R' : Heap) : ∃ A1, close1 (pre ++ (A :: T :: R')) y = some (.isl (GV.encs (.mk 3 0 ⟨#[97]⟩ [] :: l)) false, pre ++ (A1 :: T :: R')) ∧ ∃ cs f e, A1 = .cells cs f e ∨ A1 = A := by
  subst ho
  rcases h with ⟨rfl, rfl, rfl⟩ | ⟨hl, k, rfl, hk⟩
  · refine ⟨arr0 true 4, close1_of0 ?_, _, _, _, .inl rfl⟩
    have e : (pre ++ (arr0 true 0 :: T :: R'))[pre.length]? = some (arr0 true 0) := by simp
    have e2 : frz (pre ++ (arr0 true 0 :: T :: R')) pre.length 4 = pre ++ (arr0 true 4 :: T :: R') := by
      unfold frz; rw [e]; simp [arr0]
    simp [close0, e, arr0, window, chunk, mk, AV.clo1, GV.encs, GV.enc, AV.nrm]
    exact e2
  · exact ⟨A, rfl, [], 0, false, .inr rfl⟩
theorem gvs_len (l : List GV) : (GV.encs l).length = l.length := GV.encs_length l
theorem TupY.cell {A : AObj} {R2 : Heap} {off : Nat} {l : List GV} {y : AV} (h : TupY A R2 off l y) : y.solid = true ∧ y.cells = [y] := by
  rcases h with ⟨_, rfl, _⟩ | ⟨_, k, rfl, _⟩ <;> exact ⟨rfl, rfl⟩
theorem TupY.notok {A : AObj} {R2 : Heap} {off : Nat} {l : List GV} {y : AV} (h : TupY A R2 off l y) (n s : Nat) : ¬ A = .tok n s := by
  rcases h with ⟨_, _, rfl⟩ | ⟨⟨_, rfl⟩, _⟩ <;> (intro e; cases e)
theorem TupY.clo1f {A : AObj} {R2 : Heap} {off : Nat} {l : List GV} {y : AV} (h : TupY A R2 off l y) : y.clo1 = false := by
  rcases h with ⟨_, rfl, _⟩ | ⟨_, k, rfl, _⟩ <;> rfl
theorem TupY.grow {a b c T : AObj} {R R2 : Heap} {A : AObj} {l : List GV} {y : AV} {v : GV} (h : TupY A R2 (R.length + 3) l y) (hl : l.length ≤ 100) :
    ∃ y' R3, appendC (a :: b :: c :: (R ++ (A :: T :: (R2 ++ [.cells v.enc.cells 0 false])))) 4 true 56 false y (.sl (R.length + (R2.length + 1 + 1) + 1 + 1 + 1) 0 1 4 true) = some (y', a :: b :: c :: (R ++ (arr0 false 0 :: T :: R3))) ∧ TupY (arr0 false 0) R3 (R.length + 3) (l ++ [v]) y' := by
  have hvn : v.enc.cells.map AV.nrm = v.enc.cells := by simp [AV.nrm]
  have hvc : v.enc.cells.all AV.clo1 = true := by simp [AV.clo1]
  rcases h with ⟨rfl, rfl, rfl⟩ | ⟨hne, k, rfl, hk⟩
  · have hid : (a :: b :: c :: (R ++ (arr0 true 0 :: T :: (R2 ++ [AObj.cells v.enc.cells 0 false]))))[R.length + 3]? = some (.cells [.int .i64 3, .int .i64 0, .str ⟨#[97]⟩, .isl [] true] 0 false) := by simp [arr0]
    have hj : (a :: b :: c :: (R ++ (arr0 true 0 :: T :: (R2 ++ [AObj.cells v.enc.cells 0 false]))))[R.length + (R2.length + 1 + 1) + 1 + 1 + 1]? = some (.cells v.enc.cells 0 false) := by simp
    have := app_slC (sz := 4) (bytes := 56) hid hj (show R.length + 3 ≠ R.length + (R2.length + 1 + 1) + 1 + 1 + 1 by omega) rfl (by simp) rfl hvc (by omega) (by omega)
    rw [this, hvn]
    have hcs : closeS (a :: b :: c :: (R ++ (arr0 true 0 :: T :: (R2 ++ [AObj.cells v.enc.cells 0 false])))) (.sl (R.length + 3) 0 1 4 true) = a :: b :: c :: (R ++ (arr0 false 0 :: T :: (R2 ++ [AObj.cells v.enc.cells 0 false]))) := by
      unfold closeS
      simp only [hid]
      simp [AV.tidy, AV.clo1, arr0, AV.nrm]
    rw [hcs]
    refine ⟨_, R2 ++ [.cells v.enc.cells 0 false, .tok 2 4], by simp; rfl, .inr ⟨⟨by simp, rfl⟩, R2.length + 1, ?_, by simp⟩⟩
    simp [GV.encs, GV.enc, AV.nrm]
    omega
  · obtain ⟨hne, rfl⟩ := hne
    have hx : LstA (R2 ++ [AObj.cells v.enc.cells 0 false]) (a :: b :: c :: (R ++ [arr0 false 0, T])).length (GV.encs (.mk 3 0 ⟨#[97]⟩ [] :: l)) 4 (.own (k + (R.length + 3 + 2)) (GV.encs (.mk 3 0 ⟨#[97]⟩ [] :: l))) := by
      refine .inr ⟨k, by simp, ?_⟩
      rw [List.getElem?_append_left (List.getElem?_eq_some_iff.1 hk).1, hk, gvs_len]; rfl
    obtain ⟨x', R3, h1, h2, _⟩ := Go.Proofs.YtpkfkipbemdhmaaGreatDoor.grow (bytes := 56) (m := R2.length) (cs := v.enc.cells) (fz := 0) (ext := false) hx (by simp) (by simp) hvc (by omega) (by omega) (encs_okEl _) (by rw [gvs_len]; simp; omega)
    rw [hvn] at h2
    refine ⟨x', R3, ?_, ?_⟩
    · have e0 : ∀ S : Heap, (a :: b :: c :: (R ++ [arr0 false 0, T])) ++ S = a :: b :: c :: (R ++ (arr0 false 0 :: T :: S)) := fun S => by simp
      have e : R2.length + (a :: b :: c :: (R ++ [arr0 false 0, T])).length = R.length + (R2.length + 1 + 1) + 1 + 1 + 1 := by simp; omega
      rw [e0, e0, e] at h1
      exact h1
    · rcases h2 with ⟨h2, _⟩ | ⟨k', h2, h3⟩
      · cases (List.append_eq_nil_iff.1 h2).2
      · refine .inr ⟨⟨by simp, rfl⟩, k', ?_, ?_⟩
        · rw [h2]
          have e2 : AV.agg v.enc.cells = v.enc := by rw [GV.enc_cells]; exact (GV.enc_eq v).symm
          have e3 : GV.encs (.mk 3 0 ⟨#[97]⟩ [] :: l) ++ [AV.agg v.enc.cells] = GV.encs (.mk 3 0 ⟨#[97]⟩ [] :: (l ++ [v])) := by
            rw [e2]; simp only [GV.encs_map, List.map_append, List.map_cons, List.map_nil, List.cons_append]
          rw [e3]; simp
        · rw [h3]; simp [gvs_len]
end Go.Proofs.YtpkfkipbemdhmaaGreatDoor
end
section
set_option linter.unusedVariables false
set_option linter.unusedSimpArgs false
set_option linter.unnecessarySimpa false
namespace Go.Proofs.YtpkfkipbemdhmaaGreatDoor
open Go.Mach
theorem take_min {α : Type} (l : List α) (i n : Nat) (h : i = min l.length n) : l.take i = l.take n := by
  rw [h]; simp [List.take_eq_take_iff, Nat.min_comm]
theorem fit2in (p : GP) (hs : p.size ≤ 1048576) (i : Nat) (hi : i < p.facts.length) (ho : (p.facts[i]).ok) (nm : ByteArray) (xd xu : AV) (R : Heap) (K : List Fr) (Q : AExit → FR → Heap → Prop) (f : FR) (σ : Heap)
    (h1 : f 1 = .ptr 0 0) (h2 : f 2 = .ptr 1 0) (h3 : f 3 = .ptr 2 0) (h5 : f 5 = .int .i64 (i : Int)) (h6 : f 6 = .ptr (R.length + 4) 0) (hσ : σ = fitP p xd xu (.isl [] true) (R ++ [arr0 true 0, .cells [.str nm, .sl (R.length + 3) 0 1 4 true] 0 false]))
    (hk : ∀ f σ, f 1 = .ptr 0 0 → f 2 = .ptr 1 0 → f 3 = .ptr 2 0 → f 5 = .int .i64 (i : Int) → f 6 = .ptr (R.length + 4) 0 →
      (∃ y A R2, σ = fitP p xd xu (.isl [] true) (R ++ (A :: .cells [.str nm, y] 0 false :: R2)) ∧ TupY A R2 (R.length + 3) (((p.facts[i]).args.take 7).map fit) y) → wpK T 0 202 K f σ Q) :
    wpK T 0 202 (.code c10.body.snd.snd.snd.fst.snd.inn.inn.snd.fst.inn.snd.fst :: K) f σ Q := by
  subst hσ
  have hl := p.facts_len
  have hm := p.facts_mem (List.getElem_mem hi)
  have hal := GU.args_le p.facts[i]
  have e1 : p.facts[i]? = some p.facts[i] := List.getElem?_eq_getElem hi
  generalize hu : p.facts[i] = u at *
  have hlen := len_sizes u.args
  simp [c10, ACode.fst, ACode.snd, ACode.inn, fitP]
  refine W_for T 0 202 (min u.args.length 7) (fun j f σ => f 1 = .ptr 0 0 ∧ f 2 = .ptr 1 0 ∧ f 3 = .ptr 2 0 ∧ f 5 = .int .i64 (i : Int) ∧ f 6 = .ptr (R.length + 4) 0 ∧ f 7 = .int .i64 (j : Int) ∧
    ∃ y A R2, σ = fitP p xd xu (.isl [] true) (R ++ (A :: .cells [.str nm, y] 0 false :: R2)) ∧ TupY A R2 (R.length + 3) ((u.args.take j).map fit) y) ?_ _ _ ?_
  rotate_left 1
  · exact ⟨by simp [h1], by simp [h2], by simp [h3], by simp [h5], by simp [h6], by simp, _, _, [], rfl, .inl ⟨by simp, rfl, rfl⟩⟩
  clear h1 h2 h3 h5 h6
  rintro j f σ hj ⟨h1, h2, h3, h5, h6, h7, y, A, R2, rfl, hy⟩
  by_cases hlt : j < min u.args.length 7
  · have c1 : j < u.args.length := by omega
    have c2 : (j : Int) < 7 := by omega
    have hvo : GV.ok u.args[j] := (GV.oks_iff _).1 ho _ (List.getElem_mem c1)
    have hvs := (sizes_mem (List.getElem_mem c1)).1
    have hf := callFit u.args[j] hvo (by omega)
    have hlw : IntKind.i64.wrap ((j : Int) + 1) = (j : Int) + 1 := wr64 (by omega) (by omega)
    rw [take_map fit _ _ c1]
    obtain ⟨y', R3, ha, hy'⟩ := hy.grow (v := fit u.args[j]) (T := .cells [.str nm, y] 0 false) (a := .cells [.isl (p.decls.map GD.enc) false, .isl (p.facts.map GU.enc) false, .isl (p.rules.map GR.enc) false] 0 false) (b := .cells [.isl [] true, .isl [] true, .isl [] true] 0 false) (c := .cells [xd, xu, .isl [] true] 0 false) (by simp; omega)
    generalize (u.args.take j).map fit = done at *
    obtain ⟨s1, s2⟩ := hy'.cell
    simp [← GV.enc_eq] at ha
    simp [fitP, h1, h2, h3, h5, h6, h7, hi, e1, hu, c1, c2, hf, hlw, setRun, ← GV.enc_eq, ha, s1, s2]
    exact ⟨hlt, y', _, R3, ⟨rfl, rfl, rfl⟩, hy'⟩
  · have c1 : ¬ (j < u.args.length ∧ (j : Int) < 7) := by omega
    rw [take_min u.args j 7 (by omega)] at hy
    by_cases d1 : j < u.args.length
    · have d2 : ¬ ((j : Int) < 7) := fun h => c1 ⟨d1, h⟩
      simp [fitP, h1, h2, h3, h5, h6, h7, hi, e1, hu, d1, d2]
      exact hk _ _ (by simp [h1]) (by simp [h2]) (by simp [h3]) (by simp [h5]) (by simp [h6]) ⟨_, _, _, rfl, hy⟩
    · simp [fitP, h1, h2, h3, h5, h6, h7, hi, e1, hu, d1]
      exact hk _ _ (by simp [h1]) (by simp [h2]) (by simp [h3]) (by simp [h5]) (by simp [h6]) ⟨_, _, _, rfl, hy⟩
theorem gu_okEl (x : GU) : okEl 2 true x.enc = true := rfl
theorem fit2 (p : GP) (hp : p.ok) (hs : p.size ≤ 1048576) (xd : AV) (R0 : Heap) (K : List Fr) (Q : AExit → FR → Heap → Prop) (f : FR) (σ : Heap) (h1 : f 1 = .ptr 0 0) (h2 : f 2 = .ptr 1 0) (h3 : f 3 = .ptr 2 0) (hσ : σ = fitP p xd (.isl [] true) (.isl [] true) R0)
    (hk : ∀ f σ, f 1 = .ptr 0 0 → f 2 = .ptr 1 0 → f 3 = .ptr 2 0 → (∃ xu R, σ = fitP p xd xu (.isl [] true) R ∧ LstB (((p.facts.take 64).map tupOf).map GU.enc) xu) → wpK T 0 202 K f σ Q) :
    wpK T 0 202 (.code c10.body.snd.snd.snd.fst :: K) f σ Q := by
  subst hσ
  have hl := p.facts_len
  have hin := fit2in p hs
  have hcode : ∃ c, c = c10.body.snd.snd.snd.fst.snd.inn.inn.snd.fst.inn.snd.fst := ⟨_, rfl⟩
  obtain ⟨c, hc⟩ := hcode
  simp only [← hc] at hin
  have hL : c10.body.snd.snd.snd.fst = .seq c10.body.snd.snd.snd.fst.fst (.block 2 (.loop (.seq c10.body.snd.snd.snd.fst.snd.inn.inn.fst (.seq (.block 3 (.seq c10.body.snd.snd.snd.fst.snd.inn.inn.snd.fst.inn.fst (.seq c c10.body.snd.snd.snd.fst.snd.inn.inn.snd.fst.inn.snd.snd))) c10.body.snd.snd.snd.fst.snd.inn.inn.snd.snd)))) := by rw [hc]; rfl
  rw [hL]
  clear hL hc
  simp [c10, ACode.fst, ACode.snd, ACode.inn, fitP]
  refine W_for T 0 202 (min p.facts.length 64) (fun i f σ => f 1 = .ptr 0 0 ∧ f 2 = .ptr 1 0 ∧ f 3 = .ptr 2 0 ∧ f 5 = .int .i64 (i : Int) ∧ ∃ xu R, σ = fitP p xd xu (.isl [] true) R ∧ LstA R 3 (((p.facts.take i).map tupOf).map GU.enc) 2 xu) ?_ _ _ ?_
  rotate_left 1
  · exact ⟨by simp [h1], by simp [h2], by simp [h3], by simp, _, _, rfl, .inl ⟨by simp, rfl⟩⟩
  clear h1 h2 h3
  rintro i f σ hi ⟨h1, h2, h3, h5, xu, R, rfl, hx⟩
  by_cases hlt : i < min p.facts.length 64
  · have c1 : i < p.facts.length := by omega
    have c2 : (i : Int) < 64 := by omega
    have hmem := List.getElem_mem c1
    have hsz := p.facts_mem hmem
    have hn := GU.name_le p.facts[i]
    have hlw : IntKind.i64.wrap ((i : Int) + 1) = (i : Int) + 1 := wr64 (by omega) (by omega)
    have hr := lawRel p.facts[i].name (by omega)
    have e1 : p.facts[i]? = some p.facts[i] := List.getElem?_eq_getElem c1
    have hin := hin i c1 (hp.2.1 _ hmem) (relOf p.facts[i].name) xd xu R
    rw [take_map tupOf _ _ c1, List.map_append]
    have hall := allEl_map GU.enc 2 gu_okEl ((p.facts.take i).map tupOf)
    have hlen : (((p.facts.take i).map tupOf).map GU.enc).length = i := by simp; omega
    generalize hES : ((p.facts.take i).map tupOf).map GU.enc = es at *
    simp [fitP, h1, h2, h3, h5, c1, c2, e1, hr, setRun]
    refine hin _ _ _ _ (by simp [h1]) (by simp [h2]) (by simp [h3]) (by simp [h5]) (by simp) (by simp [fitP, arr0]) ?_
    clear hin h1 h2 h3 h5
    rintro f σ h1 h2 h3 h5 h6 ⟨y, A, R2, rfl, hy⟩
    obtain ⟨a, ha⟩ : ∃ a, a = AObj.cells [.isl (p.decls.map GD.enc) false, .isl (p.facts.map GU.enc) false, .isl (p.rules.map GR.enc) false] 0 false := ⟨_, rfl⟩
    obtain ⟨b, hb⟩ : ∃ b, b = AObj.cells [.isl [] true, .isl [] true, .isl [] true] 0 false := ⟨_, rfl⟩
    obtain ⟨c, hc⟩ : ∃ c, c = AObj.cells [xd, xu, .isl [] true] 0 false := ⟨_, rfl⟩
    obtain ⟨y1, y2⟩ := hy.cell
    have hyk := hy.clo1f
    obtain ⟨A1, hcl, hA1⟩ := hy.close (pre := a :: b :: c :: R) (T := .cells [.str (relOf p.facts[i].name), y] 0 false) (by simp) (R2 ++ [.cells [.str (relOf p.facts[i].name), y] 0 false])
    obtain ⟨x', R3, hg, hx'⟩ := growC (pre := [a, b, c]) (R := R ++ (A :: .cells [.str (relOf p.facts[i].name), y] 0 false :: (R2 ++ [.cells [.str (relOf p.facts[i].name), y] 0 false])))
      (R1 := R ++ (A1 :: .cells [.str (relOf p.facts[i].name), y] 0 false :: (R2 ++ [.cells [.str (relOf p.facts[i].name), y] 0 false]))) (m := R.length + (R2.length + 2)) (sz := 2) (bytes := 40) (fz := 0) (fz1 := 0) (ext := false) (ext1 := false)
      (x := xu) (es := es) (cs := [.str (relOf p.facts[i].name), y]) (ys := [.str (relOf p.facts[i].name), .isl (GV.encs (.mk 3 0 ⟨#[97]⟩ [] :: (p.facts[i].args.take 7).map fit)) false])
      (hx.more _) (by simp) rfl (by simp [hyk]) (by
        simp only [List.cons_append, List.nil_append] at hcl ⊢
        simp [closeL, hcl]) (by simp) rfl (by simp) (by
        intro k n s hk
        rcases Nat.lt_or_ge k R.length with hk2 | hk2
        · rw [List.getElem?_append_left hk2] at hk ⊢; exact hk
        · rw [List.getElem?_append_right hk2] at hk ⊢
          generalize k - R.length = m at *
          match m with
          | 0 =>
            simp at hk ⊢
            rcases hA1 with ⟨cs, f, e, h | h⟩
            · exact absurd hk (hy.notok _ _)
            · rw [h]; exact hk
          | m + 1 => simpa using hk) (by simp) (by omega) (by omega) hall (by rw [hlen]; omega)
    obtain ⟨s1, s2⟩ := hx'.cell
    have hfin : es ++ [AV.agg ([AV.str (relOf p.facts[i].name), .isl (GV.encs (.mk 3 0 ⟨#[97]⟩ [] :: (p.facts[i].args.take 7).map fit)) false].map AV.nrm)] = es ++ [(tupOf p.facts[i]).enc] := rfl
    rw [hfin] at hx'
    subst ha hb hc
    simp [hyk] at hg
    simp [fitP, h1, h2, h3, h5, h6, hlw, setRun, y1, y2, s1, s2, hyk, hg]
    exact ⟨hlt, _, _, ⟨rfl, rfl⟩, hx'⟩
  · have c1 : ¬ (i < p.facts.length ∧ (i : Int) < 64) := by omega
    rw [take_min p.facts i 64 (by omega)] at hx
    by_cases d1 : i < p.facts.length
    · have d2 : ¬ ((i : Int) < 64) := fun h => c1 ⟨d1, h⟩
      simp [fitP, h1, h5, d1, d2]
      exact hk _ _ (by simp [h1]) (by simp [h2]) (by simp [h3]) ⟨_, _, rfl, hx.b⟩
    · simp [fitP, h1, h5, d1]
      exact hk _ _ (by simp [h1]) (by simp [h2]) (by simp [h3]) ⟨_, _, rfl, hx.b⟩
end Go.Proofs.YtpkfkipbemdhmaaGreatDoor
end
section
set_option linter.unusedVariables false
set_option linter.unusedSimpArgs false
set_option linter.unnecessarySimpa false
namespace Go.Proofs.YtpkfkipbemdhmaaGreatDoor
open Go.Mach
theorem chkO_f1 (ρ : Regs) (σ σ' : Heap) (x : AX) : (chkO ρ σ σ' [x] = some ()) = (objOf σ (ev ρ x) = objOf σ' (ev ρ x)) := by
  have := sameO_iff (objOf σ (ev ρ x)) (objOf σ' (ev ρ x))
  unfold chkO
  simp only [List.all_cons, List.all_nil, Bool.and_true]
  rw [← this]
  split <;> simp_all
theorem grow5 {a b c d e : AObj} {R R2 : Heap} {es cs : List AV} {x : AV} {sz bytes : Nat} (hx : LstA R2 (R.length + 5) es sz x) (hl : cs.length = sz) (hc : cs.all AV.clo1 = true) (h0 : 0 < sz) (hb : bytes ≤ 1000) (hes : es.all (okEl sz true) = true) (hn : es.length ≤ 10000000000) :
    ∃ x' R3, appendC (a :: b :: c :: (R ++ (d :: e :: (R2 ++ [.cells cs 0 false])))) sz true bytes false x (.sl (R.length + (R2.length + 1 + 1) + 1 + 1 + 1) 0 1 sz true) = some (x', a :: b :: c :: (R ++ (d :: e :: R3))) ∧ LstA R3 (R.length + 5) (es ++ [.agg (cs.map AV.nrm)]) sz x' ∧
      ∀ (j : Nat) cs' f e, R2[j]? = some (AObj.cells cs' f e) → R3[j]? = some (AObj.cells cs' f e) := by
  have hlen : (a :: b :: c :: (R ++ [d, e])).length = R.length + 5 := by simp
  have hx2 := hx.more [AObj.cells cs 0 false]
  rw [← hlen] at hx2
  obtain ⟨x', R3, h1, h2, h3⟩ := grow (bytes := bytes) (m := R2.length) (cs := cs) (fz := 0) (ext := false) hx2 (by simp) hl hc h0 hb hes hn
  have e0 : ∀ S : Heap, (a :: b :: c :: (R ++ [d, e])) ++ S = a :: b :: c :: (R ++ (d :: e :: S)) := fun S => by simp
  have e1 : R2.length + (a :: b :: c :: (R ++ [d, e])).length = R.length + (R2.length + 1 + 1) + 1 + 1 + 1 := by simp; omega
  rw [e0, e0, e1] at h1
  rw [hlen] at h2
  exact ⟨x', R3, h1, h2, fun j cs' f e hj => h3 j cs' f e (by rw [List.getElem?_append_left (List.getElem?_eq_some_iff.1 hj).1]; exact hj)⟩
def RuSt (p : GP) (xd xu xr : AV) (R : Heap) (r : GR) (L : List GT) (agg : ByteArray) (pos : Int) (es : List AV) (σ : Heap) : Prop :=
  ∃ k cs ext y R2, σ = fitP p xd xu xr (R ++ (.cells r.enc.cells 0 false :: .cells [.str (relOf r.label), .str (relOf r.head), .sl (k + (R.length + 5)) 0 L.length 7 true, .str agg, .int .i64 pos, y] 0 false :: R2)) ∧
    R2[k]? = some (.cells cs 0 ext) ∧ cs.map AV.nrm = flat (GT.encs L) ∧ cs.all AV.clo1 = true ∧ LstA R2 (R.length + 5) es 3 y
def Fr3 (R : Heap) (i : Nat) (f : FR) : Prop := f 1 = .ptr 0 0 ∧ f 2 = .ptr 1 0 ∧ f 3 = .ptr 2 0 ∧ f 8 = .int .i64 (i : Int) ∧ f 9 = .ptr (R.length + 3) 0 ∧ f 10 = .ptr (R.length + 4) 0
abbrev body3 : ACode := c10.body.snd.snd.snd.snd.fst.snd.inn.inn.snd.fst.inn
theorem fit3a (p : GP) (hs : p.size ≤ 1048576) (i : Nat) (hi : i < p.rules.length) (ho : (p.rules[i]).ok) (xd xu xr : AV) (R : Heap) (C : ACode) (K : List Fr) (Q : AExit → FR → Heap → Prop) (f : FR) (σ : Heap)
    (h1 : f 1 = .ptr 0 0) (h2 : f 2 = .ptr 1 0) (h3 : f 3 = .ptr 2 0) (h8 : f 8 = .int .i64 (i : Int)) (hσ : σ = fitP p xd xu xr R)
    (hk : ∀ f σ, Fr3 R i f → RuSt p xd xu xr R p.rules[i] (argsOf (p.rules[i]).args) ⟨#[]⟩ 0 [] σ → wpK T 0 202 (.code C :: K) f σ Q) :
    wpK T 0 202 (.code body3.fst :: .code (.seq body3.snd.fst C) :: K) f σ Q := by
  subst hσ
  have hm := p.rules_mem (List.getElem_mem hi)
  have hal := GR.args_le p.rules[i]
  have hl1 := GR.label_le p.rules[i]
  have hl2 := GR.head_le p.rules[i]
  have e1 : p.rules[i]? = some p.rules[i] := List.getElem?_eq_getElem hi
  generalize hu : p.rules[i] = r at *
  have hr1 := lawRel r.label (by omega)
  have hr2 := lawRel r.head (by omega)
  obtain ⟨hA, hcall⟩ := argsX_at r.args ho.1 (by omega) 0 (fitP p xd xu xr (R ++ [.cells r.enc.cells 0 false, .cells [.str ⟨#[]⟩, .str ⟨#[]⟩, .isl [] true, .str ⟨#[]⟩, .int .i64 0, .isl [] true] 0 false]))
  obtain ⟨k, cs, rest, ext, hr, hkk, hn, hc⟩ := hA
  rw [hr] at hcall
  simp [fitP] at hcall
  simp [body3, c10, ACode.fst, ACode.snd, ACode.inn, fitP, h1, h2, h3, h8, hi, e1, hu, setRun, hr1, hr2, hcall, chkO_f1, objOf]
  refine hk _ _ ⟨by simp [h1], by simp [h2], by simp [h3], by simp [h8], by simp, by simp⟩ ⟨k, cs, ext, _, rest, ?_, hkk, hn, hc, .inl ⟨rfl, rfl⟩⟩
  simp [fitP]
  omega
theorem gl_okEl (x : GL) : okEl 3 true x.enc = true := rfl
theorem fit3b (p : GP) (hs : p.size ≤ 1048576) (i : Nat) (hi : i < p.rules.length) (ho : (p.rules[i]).ok) (xd xu xr : AV) (R : Heap) (L : List GT) (K : List Fr) (Q : AExit → FR → Heap → Prop) (f : FR) (σ : Heap)
    (hf : Fr3 R i f) (hσ : RuSt p xd xu xr R p.rules[i] L ⟨#[]⟩ 0 [] σ)
    (hk : ∀ f σ, Fr3 R i f → RuSt p xd xu xr R p.rules[i] L ⟨#[]⟩ 0 ((((p.rules[i]).body.take 8).map litOf).map GL.enc) σ → wpK T 0 202 K f σ Q) :
    wpK T 0 202 (.code body3.snd.snd.fst :: K) f σ Q := by
  have hm := p.rules_mem (List.getElem_mem hi)
  have hbl := GR.body_len p.rules[i]
  have hbm := fun y (hy : y ∈ (p.rules[i]).body) => (p.rules[i]).body_mem hy
  have e1 : p.rules[i]? = some p.rules[i] := List.getElem?_eq_getElem hi
  generalize hu : p.rules[i] = r at *
  obtain ⟨k, cs, ext, y, R2, rfl, hk1, hk2, hk3, hy⟩ := hσ
  obtain ⟨h1, h2, h3, h8, h9, h10⟩ := hf
  simp [body3, c10, ACode.fst, ACode.snd, ACode.inn, fitP]
  refine W_for T 0 202 (min r.body.length 8) (fun j f σ => Fr3 R i f ∧ f 11 = .int .i64 (j : Int) ∧ RuSt p xd xu xr R r L ⟨#[]⟩ 0 (((r.body.take j).map litOf).map GL.enc) σ) ?_ _ _ ?_
  rotate_left 1
  · exact ⟨⟨by simp [h1], by simp [h2], by simp [h3], by simp [h8], by simp [h9], by simp [h10]⟩, by simp, k, cs, ext, y, R2, by simp [fitP], hk1, hk2, hk3, hy⟩
  clear h1 h2 h3 h8 h9 h10 hk1 hk2 hk3 hy
  rintro j f σ hj ⟨⟨h1, h2, h3, h8, h9, h10⟩, h11, k, cs, ext, y, R2, rfl, hk1, hk2, hk3, hy⟩
  by_cases hlt : j < min r.body.length 8
  · have c1 : j < r.body.length := by omega
    have c2 : (j : Int) < 8 := by omega
    have hmem := List.getElem_mem c1
    have hlo := ho.2.2 _ hmem
    have hls := hbm _ hmem
    have hlit := callLawLit r.body[j] hlo (by omega)
    have hlw : IntKind.i64.wrap ((j : Int) + 1) = (j : Int) + 1 := wr64 (by omega) (by omega)
    have e2 : r.body[j]? = some r.body[j] := List.getElem?_eq_getElem c1
    rw [take_map litOf _ _ c1, List.map_append]
    have hall := allEl_map GL.enc 3 gl_okEl ((r.body.take j).map litOf)
    have hlen : (((r.body.take j).map litOf).map GL.enc).length = j := by simp; omega
    generalize hES : ((r.body.take j).map litOf).map GL.enc = es at *
    obtain ⟨a, ha⟩ : ∃ a, a = AObj.cells [.isl (p.decls.map GD.enc) false, .isl (p.facts.map GU.enc) false, .isl (p.rules.map GR.enc) false] 0 false := ⟨_, rfl⟩
    obtain ⟨b, hb⟩ : ∃ b, b = AObj.cells [.isl [] true, .isl [] true, .isl [] true] 0 false := ⟨_, rfl⟩
    obtain ⟨c, hc⟩ : ∃ c, c = AObj.cells [xd, xu, xr] 0 false := ⟨_, rfl⟩
    obtain ⟨d, hd⟩ : ∃ d, d = AObj.cells r.enc.cells 0 false := ⟨_, rfl⟩
    obtain ⟨e, he⟩ : ∃ e, e = AObj.cells [.str (relOf r.label), .str (relOf r.head), .sl (k + (R.length + 5)) 0 L.length 7 true, .str ⟨#[]⟩, .int .i64 0, y] 0 false := ⟨_, rfl⟩
    obtain ⟨x', R3, hg, hx', hpres⟩ := grow5 (a := a) (b := b) (c := c) (d := d) (e := e) (R := R) (R2 := R2) (bytes := 48) (cs := (litOf r.body[j]).enc.cells) hy (by simp) (by simp [AV.clo1]) (by omega) (by omega) hall (by rw [hlen]; omega)
    obtain ⟨s1, s2⟩ := hx'.cell
    obtain ⟨s3, s4⟩ := hy.cell
    have hfin : es ++ [AV.agg ((litOf r.body[j]).enc.cells.map AV.nrm)] = es ++ [(litOf r.body[j]).enc] := by simp [AV.nrm, ← GL.enc_eq]
    rw [hfin] at hx'
    subst ha hb hc hd he
    simp [← GL.enc_eq] at hg
    simp [fitP, h1, h2, h3, h8, h9, h10, h11, hi, e1, e2, hu, c1, c2, hlit, hlw, setRun, s1, s2, s3, s4, ← GL.enc_eq, hg]
    exact ⟨hlt, ⟨by simp [h1], by simp [h2], by simp [h3], by simp [h8], by simp [h9], by simp [h10]⟩, k, cs, ext, x', R3, by simp [fitP], hpres _ _ _ _ hk1, hk2, hk3, hx'⟩
  · have c1 : ¬ (j < r.body.length ∧ (j : Int) < 8) := by omega
    rw [take_min r.body j 8 (by omega)] at hy
    by_cases d1 : j < r.body.length
    · have d2 : ¬ ((j : Int) < 8) := fun h => c1 ⟨d1, h⟩
      simp [fitP, h1, h2, h3, h8, h9, h10, h11, hi, e1, hu, d1, d2]
      exact hk _ _ ⟨by simp [h1], by simp [h2], by simp [h3], by simp [h8], by simp [h9], by simp [h10]⟩ ⟨k, cs, ext, y, R2, by simp [fitP], hk1, hk2, hk3, hy⟩
    · simp [fitP, h1, h2, h3, h8, h9, h10, h11, hi, e1, hu, d1]
      exact hk _ _ ⟨by simp [h1], by simp [h2], by simp [h3], by simp [h8], by simp [h9], by simp [h10]⟩ ⟨k, cs, ext, y, R2, by simp [fitP], hk1, hk2, hk3, hy⟩
end Go.Proofs.YtpkfkipbemdhmaaGreatDoor
end
section
set_option linter.unusedVariables false
set_option linter.unusedSimpArgs false
set_option linter.unnecessarySimpa false
namespace Go.Proofs.YtpkfkipbemdhmaaGreatDoor
open Go.Mach
theorem callLit0 (bs : Nat) (σ : Heap) : callT T 15 [.agg [.int .i64 0, .str ⟨#[]⟩, .isl [] true]] bs σ = some ((litOf lit0).enc, σ) :=
  call_data rfl rfl rfl (lawlit_ok lit0 ⟨by unfold GV.i64ok; simp [lit0], by simp [lit0, GT.oks]⟩ (by rw [gl_size]; decide)) rfl rfl rfl
theorem fit3c (p : GP) (i : Nat) (hi : i < p.rules.length) (xd xu xr : AV) (R : Heap) (L : List GT) (K : List Fr) (Q : AExit → FR → Heap → Prop) (f : FR) (σ : Heap)
    (hf : Fr3 R i f) (hσ : RuSt p xd xu xr R p.rules[i] L ⟨#[]⟩ 0 ((((p.rules[i]).body.take 8).map litOf).map GL.enc) σ)
    (hk : ∀ f σ, Fr3 R i f → RuSt p xd xu xr R p.rules[i] L ⟨#[]⟩ 0 ((bodyOf (p.rules[i]).body).map GL.enc) σ → wpK T 0 202 K f σ Q) :
    wpK T 0 202 (.code body3.snd.snd.snd.fst :: K) f σ Q := by
  generalize hu : p.rules[i] = r at *
  obtain ⟨k, cs, ext, y, R2, rfl, hk1, hk2, hk3, hy⟩ := hσ
  obtain ⟨h1, h2, h3, h8, h9, h10⟩ := hf
  by_cases hb : r.body = []
  · have hes : (((r.body.take 8).map litOf).map GL.enc) = [] := by rw [hb]; rfl
    have hbo : (bodyOf r.body).map GL.enc = [(litOf lit0).enc] := by simp [bodyOf, hb]
    rw [hes] at hy
    rw [hbo] at hk
    rcases hy with ⟨_, rfl⟩ | ⟨k', rfl, hk'⟩
    · obtain ⟨a, ha⟩ : ∃ a, a = AObj.cells [.isl (p.decls.map GD.enc) false, .isl (p.facts.map GU.enc) false, .isl (p.rules.map GR.enc) false] 0 false := ⟨_, rfl⟩
      simp [body3, c10, ACode.fst, ACode.snd, ACode.inn, fitP, h1, h2, h3, h8, h9, h10, setRun, callLit0]
      refine hk _ _ ⟨by simp [h1], by simp [h2], by simp [h3], by simp [h8], by simp [h9], by simp [h10]⟩ ⟨k, cs, ext, _, R2 ++ [.cells (litOf lit0).enc.cells 0 false, .tok 1 3], ?_, ?_, hk2, hk3, .inr ⟨R2.length + 1, rfl, by simp⟩⟩
      · simp [fitP, ← GL.enc_eq]
        omega
      · rw [List.getElem?_append_left (List.getElem?_eq_some_iff.1 hk1).1]; exact hk1
    · have hy0 : LstA R2 (R.length + 5) [] 3 (.own (k' + (R.length + 5)) []) := .inr ⟨k', rfl, hk'⟩
      obtain ⟨x', R3, hg, hx', hpres⟩ := grow5 (a := .cells [.isl (p.decls.map GD.enc) false, .isl (p.facts.map GU.enc) false, .isl (p.rules.map GR.enc) false] 0 false) (b := .cells [.isl [] true, .isl [] true, .isl [] true] 0 false) (c := .cells [xd, xu, xr] 0 false) (d := .cells r.enc.cells 0 false)
        (e := .cells [.str (relOf r.label), .str (relOf r.head), .sl (k + (R.length + 5)) 0 L.length 7 true, .str ⟨#[]⟩, .int .i64 0, .own (k' + (R.length + 5)) []] 0 false) (R := R) (R2 := R2) (bytes := 48) (cs := (litOf lit0).enc.cells) hy0 (by simp) (by simp [AV.clo1]) (by omega) (by omega) rfl (by simp)
      obtain ⟨s1, s2⟩ := hx'.cell
      have hfin : ([] : List AV) ++ [AV.agg ((litOf lit0).enc.cells.map AV.nrm)] = [(litOf lit0).enc] := by simp [AV.nrm, ← GL.enc_eq]
      rw [hfin] at hx'
      simp [← GL.enc_eq] at hg
      simp [body3, c10, ACode.fst, ACode.snd, ACode.inn, fitP, h1, h2, h3, h8, h9, h10, setRun, callLit0, ← GL.enc_eq, hg, s1, s2]
      exact hk _ _ ⟨by simp [h1], by simp [h2], by simp [h3], by simp [h8], by simp [h9], by simp [h10]⟩ ⟨k, cs, ext, x', R3, by simp [fitP], hpres _ _ _ _ hk1, hk2, hk3, hx'⟩
  · have hbo : bodyOf r.body = (r.body.take 8).map litOf := by simp [bodyOf, hb]
    rw [hbo] at hk
    have hne : (((r.body.take 8).map litOf).map GL.enc) ≠ [] := by simp [hb]
    rcases hy with ⟨h0, _⟩ | ⟨k', rfl, hk'⟩
    · exact absurd h0 hne
    · have hlen : ¬ ((((r.body.take 8).map litOf).map GL.enc).length = 0) := fun h => hne (List.length_eq_zero_iff.1 h)
      generalize ((r.body.take 8).map litOf).map GL.enc = es at *
      simp [body3, c10, ACode.fst, ACode.snd, ACode.inn, fitP, h1, h2, h3, h8, h9, h10, hlen, hne]
      exact hk _ _ ⟨by simp [h1], by simp [h2], by simp [h3], by simp [h8], by simp [h9], by simp [h10]⟩ ⟨k, cs, ext, _, R2, by simp [fitP], hk1, hk2, hk3, .inr ⟨k', rfl, hk'⟩⟩
end Go.Proofs.YtpkfkipbemdhmaaGreatDoor
end
section
set_option linter.unusedVariables false
set_option linter.unusedSimpArgs false
set_option linter.unnecessarySimpa false
namespace Go.Proofs.YtpkfkipbemdhmaaGreatDoor
open Go.Mach
theorem LstA.setc {R : Heap} {off sz k fz : Nat} {ext : Bool} {es cs : List AV} {x : AV} (h : LstA R off es sz x) (hk : R[k]? = some (.cells cs fz ext)) {v : AObj} : LstA (R.set k v) off es sz x := by
  rcases h with h | ⟨j, h1, h2⟩
  · exact .inl h
  · have : k ≠ j := fun e => by subst e; rw [hk] at h2; cases h2
    exact .inr ⟨j, h1, by rw [List.getElem?_set, if_neg this]; exact h2⟩
theorem aggOf_at {q : Nat} (h : q < 3) : window [AV.str ⟨#[109, 105, 110]⟩, .str ⟨#[109, 97, 120]⟩, .str ⟨#[99, 111, 117, 110, 116]⟩] q 1 = some [.str (aggOf q)] := by
  have : q = 0 ∨ q = 1 ∨ q = 2 := by omega
  rcases this with rfl | rfl | rfl <;> rfl
theorem setRun_nrm (cs vs : List AV) (o : Nat) (h : o + vs.length ≤ cs.length) : (setRun cs o vs).map AV.nrm = setRun (cs.map AV.nrm) o (vs.map AV.nrm) := by
  rw [setRun_take _ _ _ h, setRun_take _ _ _ (by simpa using h)]
  simp
theorem setRun_clo (cs vs : List AV) (o : Nat) (h : o + vs.length ≤ cs.length) (hc : cs.all AV.clo1 = true) (hv : vs.all AV.clo1 = true) : (setRun cs o vs).all AV.clo1 = true := by
  rw [setRun_take _ _ _ h, List.all_append, List.all_append, hv]
  rw [List.all_eq_true] at hc
  have h1 : (cs.take o).all AV.clo1 = true := List.all_eq_true.2 fun x hx => hc x (List.mem_of_mem_take hx)
  have h2 : (cs.drop (o + vs.length)).all AV.clo1 = true := List.all_eq_true.2 fun x hx => hc x (List.mem_of_mem_drop hx)
  rw [h1, h2]; rfl
theorem args_setRun {cs : List AV} {L : List GT} {n : Nat} (hn : n < L.length) (hcs : cs.map AV.nrm = flat (GT.encs L)) (v : ByteArray) :
    (setRun cs (n * 7) [.int .i64 1, .str v, .int .i64 0, .int .i64 0, .str ⟨#[]⟩, .isl [] true, .isl [] true]).map AV.nrm = flat (GT.encs (L.set n (.mk 1 v nilV []))) ∧ n * 7 + 7 ≤ cs.length := by
  have hlen : cs.length = L.length * 7 := by
    have := congrArg List.length hcs
    rw [List.length_map, Go.Mach.flat_len (encsT_len L), GT.encs_length] at this; exact this
  have hle : n * 7 + 7 ≤ cs.length := by omega
  refine ⟨?_, hle⟩
  rw [setRun_nrm _ _ _ hle, hcs]
  have h1 := flat_set (s := 7) (v := (GT.mk 1 v nilV []).enc) (by simp) (es := GT.encs L) (i := n) (by rw [GT.encs_length]; exact hn) (encsT_len L)
  have h2 : (GT.mk 1 v nilV []).enc.cells = [AV.int .i64 1, .str v, .int .i64 0, .int .i64 0, .str ⟨#[]⟩, .isl [] true, .isl [] true].map AV.nrm := by
    simp [AV.nrm, GT.enc_cells, GT.kind, GT.name, GT.value, GT.args, nilV, GV.kind, GV.num, GV.text, GV.items]
  rw [h2] at h1
  rw [h1, GT.encs_map, GT.encs_map, List.map_set]
theorem fit3d (p : GP) (hs : p.size ≤ 1048576) (i : Nat) (hi : i < p.rules.length) (ho : (p.rules[i]).ok) (xd xu xr : AV) (R : Heap) (es : List AV) (K : List Fr) (Q : AExit → FR → Heap → Prop) (f : FR) (σ : Heap)
    (hf : Fr3 R i f) (hσ : RuSt p xd xu xr R p.rules[i] (argsOf (p.rules[i]).args) ⟨#[]⟩ 0 es σ)
    (hk : ∀ f σ, Fr3 R i f → RuSt p xd xu xr R p.rules[i] (ruleOf p.rules[i]).args (ruleOf p.rules[i]).agg (ruleOf p.rules[i]).pos es σ → wpK T 0 202 K f σ Q) :
    wpK T 0 202 (.code body3.snd.snd.snd.snd.fst :: K) f σ Q := by
  have hm := p.rules_mem (List.getElem_mem hi)
  have hgl := GR.agg_le p.rules[i]
  generalize hu : p.rules[i] = r at *
  obtain ⟨k, cs, ext, y, R2, rfl, hk1, hk2, hk3, hy⟩ := hσ
  obtain ⟨h1, h2, h3, h8, h9, h10⟩ := hf
  have hq2 : ∀ bs σ, callT T 20 [.int .i64 r.pos, .int .i64 2] bs σ = some (.int .i64 (pickN r.pos 2 : Int), σ) := pickQ r.pos 2 (by omega) ho.2.1
  have hL := argsOf_len r.args
  obtain ⟨y1, y2⟩ := hy.cell
  by_cases d1 : 1 < (argsOf r.args).length
  · have d1' : (1 : Int) < ((argsOf r.args).length : Int) := by omega
    by_cases d2 : pickN r.pos 2 = 1
    · have hag : hasAgg r := ⟨d1, d2⟩
      have hq3 : ∀ bs σ, callT T 20 [.int .i64 r.pos, .int .i64 3] bs σ = some (.int .i64 (pickN r.pos 3 : Int), σ) := pickQ r.pos 3 (by omega) ho.2.1
      have hl3 := pickN_lt (c := r.pos) (n := 3) (by omega)
      have hql := pickQ r.pos ((argsOf r.args).length - 1) (by omega) ho.2.1
      have hll := pickN_lt (c := r.pos) (n := (argsOf r.args).length - 1) (by omega)
      have hsub : ((argsOf r.args).length : Int) - 1 = (((argsOf r.args).length - 1 : Nat) : Int) := by omega
      have hvar := lawVar r.agg (by omega)
      have hwin := aggOf_at hl3
      have hru : (ruleOf r).args = (argsOf r.args).set (posOf r) (.mk 1 (varOf r.agg) nilV []) ∧ (ruleOf r).agg = aggOf (pickN r.pos 3) ∧ (ruleOf r).pos = (posOf r : Int) := by simp [ruleOf, hag]
      rw [hru.1, hru.2.1, hru.2.2] at hk
      have hpo : posOf r = 1 + pickN r.pos ((argsOf r.args).length - 1) := rfl
      have hpl := posOf_lt hag
      obtain ⟨g1, g2⟩ := args_setRun hpl.2 hk2 (varOf r.agg)
      have g3 := setRun_clo cs [.int .i64 1, .str (varOf r.agg), .int .i64 0, .int .i64 0, .str ⟨#[]⟩, .isl [] true, .isl [] true] (posOf r * 7) (by simpa using g2) hk3 rfl
      have hw1 : IntKind.i64.wrap (((argsOf r.args).length : Int) - 1) = (((argsOf r.args).length - 1 : Nat) : Int) := by rw [hsub]; exact wr64 (by omega) (by omega)
      have hw2 : IntKind.i64.wrap (1 + (pickN r.pos ((argsOf r.args).length - 1) : Int)) = (posOf r : Int) := by rw [hpo]; rw [wr64 (by omega) (by omega)]; omega
      have hkl : k < R2.length := (List.getElem?_eq_some_iff.1 hk1).1
      have hpl1 : (posOf r : Int) < ((argsOf r.args).length : Int) := by omega
      have hpl2 : ((pickN r.pos 3 : Nat) : Int) < 3 := by omega
      generalize posOf r = n at *
      generalize pickN r.pos ((argsOf r.args).length - 1) = m at *
      generalize pickN r.pos 3 = q at *
      have hset : (argsOf r.args).length = ((argsOf r.args).set n (.mk 1 (varOf r.agg) nilV [])).length := by simp
      have hget : ∀ (a b c d e : AObj) (X : Heap), (a :: b :: c :: (R ++ d :: e :: (R2 ++ X)))[k + (R.length + 5)]? = some (.cells cs 0 ext) := fun a b c d e X => by
        rw [show k + (R.length + 5) = (R.length + (k + 2)) + 3 by omega]
        simp [List.getElem?_append_left hkl, hk1]
      have hsetA : ∀ (a b c d e v : AObj) (X : Heap), (a :: b :: c :: (R ++ d :: e :: (R2 ++ X))).set (k + (R.length + 5)) v = a :: b :: c :: (R ++ d :: e :: (R2.set k v ++ X)) := fun a b c d e v X => by
        rw [show k + (R.length + 5) = (R.length + (k + 2)) + 3 by omega]
        simp [List.set_append_left _ _ hkl]
      simp only [setRun] at g1 g3
      simp only [body3, c10, ACode.fst, ACode.snd, ACode.inn]
      simp [hget, hsetA, fitP, h1, h2, h3, h8, h9, h10, d1, d1', d2, hq2, hq3, hql, hw1, hw2, hl3, hpl2, hpl.2, hpl1, hwin, hvar, g2, setRun, y1, y2]
      refine hk _ _ ⟨by simp [h1], by simp [h2], by simp [h3], by simp [h8], by simp [h9], by simp [h10]⟩ ⟨k, _, ext, y, _, by simp [fitP]; rfl, ?_, g1, g3, ?_⟩
      · rw [List.getElem?_append_left (by simpa using hkl)]; simp [hkl]
      · exact (hy.setc hk1).more _
    · have hag : ¬ hasAgg r := fun h => d2 h.2
      have hru : (ruleOf r).args = argsOf r.args ∧ (ruleOf r).agg = ⟨#[]⟩ ∧ (ruleOf r).pos = 0 := by simp [ruleOf, hag]
      rw [hru.1, hru.2.1, hru.2.2] at hk
      have d3 : ¬ ((pickN r.pos 2 : Nat) : Int) = 1 := by omega
      simp [body3, c10, ACode.fst, ACode.snd, ACode.inn, fitP, h1, h2, h3, h8, h9, h10, d1, d1', d2, d3, hq2]
      exact hk _ _ ⟨by simp [h1], by simp [h2], by simp [h3], by simp [h8], by simp [h9], by simp [h10]⟩ ⟨k, cs, ext, y, R2, by simp [fitP], hk1, hk2, hk3, hy⟩
  · have hag : ¬ hasAgg r := fun h => d1 h.1
    have hru : (ruleOf r).args = argsOf r.args ∧ (ruleOf r).agg = ⟨#[]⟩ ∧ (ruleOf r).pos = 0 := by simp [ruleOf, hag]
    rw [hru.1, hru.2.1, hru.2.2] at hk
    have d1' : ¬ (1 : Int) < ((argsOf r.args).length : Int) := by omega
    simp [body3, c10, ACode.fst, ACode.snd, ACode.inn, fitP, h1, h2, h3, h8, h9, h10, d1, d1']
    exact hk _ _ ⟨by simp [h1], by simp [h2], by simp [h3], by simp [h8], by simp [h9], by simp [h10]⟩ ⟨k, cs, ext, y, R2, by simp [fitP], hk1, hk2, hk3, hy⟩
theorem fit3e (p : GP) (i : Nat) (hi : i < p.rules.length) (xd xu xr : AV) (R : Heap) (esr : List AV) (hesr : esr.all (okEl 6 true) = true) (hln : esr.length ≤ 1000) (hxr : LstA R 3 esr 6 xr) (K : List Fr) (Q : AExit → FR → Heap → Prop) (f : FR) (σ : Heap)
    (hf : Fr3 R i f) (hσ : RuSt p xd xu xr R p.rules[i] (ruleOf p.rules[i]).args (ruleOf p.rules[i]).agg (ruleOf p.rules[i]).pos ((ruleOf p.rules[i]).body.map GL.enc) σ)
    (hlab : (ruleOf p.rules[i]).label = relOf (p.rules[i]).label ∧ (ruleOf p.rules[i]).head = relOf (p.rules[i]).head ∧ (ruleOf p.rules[i]).args ≠ [])
    (hk : ∀ f σ, f 1 = .ptr 0 0 → f 2 = .ptr 1 0 → f 3 = .ptr 2 0 → f 8 = .int .i64 (i : Int) → (∃ xr' R', σ = fitP p xd xu xr' R' ∧ LstA R' 3 (esr ++ [(ruleOf p.rules[i]).enc]) 6 xr') → wpK T 0 202 K f σ Q) :
    wpK T 0 202 (.code body3.snd.snd.snd.snd.snd :: K) f σ Q := by
  generalize hu : p.rules[i] = r at *
  generalize hw : ruleOf r = w at *
  obtain ⟨l1, l2, l3⟩ := hlab
  obtain ⟨k, cs, ext, y, R2, rfl, hk1, hk2, hk3, hy⟩ := hσ
  obtain ⟨h1, h2, h3, h8, h9, h10⟩ := hf
  rw [← l1, ← l2]
  obtain ⟨a, ha⟩ : ∃ a, a = AObj.cells [.isl (p.decls.map GD.enc) false, .isl (p.facts.map GU.enc) false, .isl (p.rules.map GR.enc) false] 0 false := ⟨_, rfl⟩
  obtain ⟨b, hb⟩ : ∃ b, b = AObj.cells [.isl [] true, .isl [] true, .isl [] true] 0 false := ⟨_, rfl⟩
  obtain ⟨c, hc⟩ : ∃ c, c = AObj.cells [xd, xu, xr] 0 false := ⟨_, rfl⟩
  obtain ⟨d, hd⟩ : ∃ d, d = AObj.cells r.enc.cells 0 false := ⟨_, rfl⟩
  obtain ⟨e, he⟩ : ∃ e, e = AObj.cells [.str w.label, .str w.head, .sl (k + (R.length + 5)) 0 w.args.length 7 true, .str w.agg, .int .i64 w.pos, y] 0 false := ⟨_, rfl⟩
  obtain ⟨y1, y2⟩ := hy.cell
  have hkl : k < R2.length := (List.getElem?_eq_some_iff.1 hk1).1
  have e0 : ∀ S : Heap, (a :: b :: c :: (R ++ [d, e])) ++ S = [a, b, c] ++ (R ++ (d :: e :: S)) := fun S => by simp
  have hl5 : (a :: b :: c :: (R ++ [d, e])).length = R.length + 5 := by simp
  have hcl1 := close_terms (σ := [a, b, c] ++ (R ++ (d :: e :: (R2 ++ [AObj.cells [.str w.label, .str w.head, .sl (k + (R.length + 5)) 0 w.args.length 7 true, .str w.agg, .int .i64 w.pos, y] 0 false])))) (k := k + (R.length + 5)) (L := w.args) (cs := cs) (fz := 0) (ext := ext)
    (by rw [← e0, ← hl5, List.getElem?_append_right (by omega), Nat.add_sub_cancel, List.getElem?_append_left hkl]; exact hk1) hk2 hk3 l3
  have hfz : frz ([a, b, c] ++ (R ++ (d :: e :: (R2 ++ [AObj.cells [.str w.label, .str w.head, .sl (k + (R.length + 5)) 0 w.args.length 7 true, .str w.agg, .int .i64 w.pos, y] 0 false])))) (k + (R.length + 5)) (0 + w.args.length * 7) =
      [a, b, c] ++ (R ++ (d :: e :: (frz R2 k (0 + w.args.length * 7) ++ [AObj.cells [.str w.label, .str w.head, .sl (k + (R.length + 5)) 0 w.args.length 7 true, .str w.agg, .int .i64 w.pos, y] 0 false]))) := by
    rw [← e0, ← e0]
    rw [← hl5]
    rw [frz_app]
    congr 1
    unfold frz
    rw [List.getElem?_append_left hkl, hk1]
    simp only
    rw [List.set_append_left _ _ hkl]
  rw [hfz] at hcl1
  have hcly := fun σ => hy.b.close (σ := σ)
  obtain ⟨x', R3, hg, hx'⟩ := growC (pre := [a, b, c]) (R := R ++ (d :: e :: (R2 ++ [AObj.cells [.str w.label, .str w.head, .sl (k + (R.length + 5)) 0 w.args.length 7 true, .str w.agg, .int .i64 w.pos, y] 0 false])))
    (R1 := R ++ (d :: e :: (frz R2 k (0 + w.args.length * 7) ++ [AObj.cells [.str w.label, .str w.head, .sl (k + (R.length + 5)) 0 w.args.length 7 true, .str w.agg, .int .i64 w.pos, y] 0 false])))
    (m := R.length + (R2.length + 2)) (sz := 6) (bytes := 104) (fz := 0) (fz1 := 0) (ext := false) (ext1 := false) (x := xr) (es := esr)
    (cs := [.str w.label, .str w.head, .sl (k + (R.length + 5)) 0 w.args.length 7 true, .str w.agg, .int .i64 w.pos, y]) (ys := [.str w.label, .str w.head, .isl (GT.encs w.args) false, .str w.agg, .int .i64 w.pos, .isl (w.body.map GL.enc) false])
    (hxr.more _) (by simp) rfl (by simp) (by
      simp [closeL]
      simp at hcl1
      simp [hcl1, hcly]) (by
      rw [List.getElem?_append_right (by omega)]
      have : R.length + (R2.length + 2) - R.length = (frz R2 k (0 + w.args.length * 7)).length + 2 := by rw [frz_len]; omega
      rw [this]; simp) rfl (by simp) (by
      intro k' n s hk'
      rcases Nat.lt_or_ge k' R.length with h | h
      · rw [List.getElem?_append_left h] at hk' ⊢; exact hk'
      · rw [List.getElem?_append_right h] at hk' ⊢
        generalize k' - R.length = m at *
        match m with
        | 0 => simpa using hk'
        | 1 => simpa using hk'
        | m + 2 =>
          simp only [List.getElem?_cons_succ] at hk' ⊢
          rcases Nat.lt_or_ge m R2.length with h | h
          · rw [List.getElem?_append_left h] at hk'
            rw [List.getElem?_append_left (by rw [frz_len]; exact h)]; exact frz_tok hk'
          · rw [List.getElem?_append_right h] at hk'
            rw [List.getElem?_append_right (by rw [frz_len]; exact h), frz_len]; exact hk') (by simp [frz_len]) (by omega) (by omega) hesr (by omega)
  obtain ⟨s1, s2⟩ := hx'.cell
  have hfin : esr ++ [AV.agg ([AV.str w.label, .str w.head, .isl (GT.encs w.args) false, .str w.agg, .int .i64 w.pos, .isl (w.body.map GL.enc) false].map AV.nrm)] = esr ++ [w.enc] := rfl
  rw [hfin] at hx'
  subst ha hb hc hd he
  simp at hg
  simp [body3, c10, ACode.fst, ACode.snd, ACode.inn, fitP, h1, h2, h3, h8, h9, h10, setRun, y1, y2, s1, s2, hg]
  exact hk _ _ (by simp [h1]) (by simp [h2]) (by simp [h3]) (by simp [h8]) ⟨x', R3, by simp [fitP], hx'⟩
end Go.Proofs.YtpkfkipbemdhmaaGreatDoor
end
section
set_option linter.unusedVariables false
set_option linter.unusedSimpArgs false
set_option linter.unnecessarySimpa false
namespace Go.Proofs.YtpkfkipbemdhmaaGreatDoor
open Go.Mach
theorem gr_okEl (x : GR) : okEl 6 true x.enc = true := rfl
theorem ruleOf_parts (r : GR) : (ruleOf r).label = relOf r.label ∧ (ruleOf r).head = relOf r.head ∧ (ruleOf r).args ≠ [] ∧ (ruleOf r).body = bodyOf r.body := by
  have h := argsOf_len r.args
  unfold ruleOf
  split
  · exact ⟨rfl, rfl, fun e => by have := congrArg List.length e; simp at this; rw [this] at h; simp at h, rfl⟩
  · exact ⟨rfl, rfl, fun e => by simp only at e; rw [e] at h; simp at h, rfl⟩
theorem fit3 (p : GP) (hp : p.ok) (hs : p.size ≤ 1048576) (xd xu : AV) (R0 : Heap) (K : List Fr) (Q : AExit → FR → Heap → Prop) (f : FR) (σ : Heap) (h1 : f 1 = .ptr 0 0) (h2 : f 2 = .ptr 1 0) (h3 : f 3 = .ptr 2 0) (hσ : σ = fitP p xd xu (.isl [] true) R0)
    (hk : ∀ f σ, f 1 = .ptr 0 0 → f 2 = .ptr 1 0 → f 3 = .ptr 2 0 → (∃ xr R, σ = fitP p xd xu xr R ∧ LstB (((p.rules.take 64).map ruleOf).map GR.enc) xr) → wpK T 0 202 K f σ Q) :
    wpK T 0 202 (.code c10.body.snd.snd.snd.snd.fst :: K) f σ Q := by
  subst hσ
  have hl := p.rules_len
  have ha := fit3a p hs
  have hb := fit3b p hs
  have hc := fit3c p
  have hd := fit3d p hs
  have he := fit3e p
  obtain ⟨B, hB⟩ : ∃ B, B = body3 := ⟨_, rfl⟩
  have hBs : B = .seq B.fst (.seq B.snd.fst (.seq B.snd.snd.fst (.seq B.snd.snd.snd.fst (.seq B.snd.snd.snd.snd.fst B.snd.snd.snd.snd.snd)))) := by rw [hB]; rfl
  simp only [← hB] at ha hb hc hd he
  have hL : c10.body.snd.snd.snd.snd.fst = .seq c10.body.snd.snd.snd.snd.fst.fst (.block 6 (.loop (.seq c10.body.snd.snd.snd.snd.fst.snd.inn.inn.fst (.seq (.block 7 B) c10.body.snd.snd.snd.snd.fst.snd.inn.inn.snd.snd)))) := by rw [hB]; rfl
  rw [hL]
  clear hL hB
  simp [c10, ACode.fst, ACode.snd, ACode.inn, fitP]
  refine W_for T 0 202 (min p.rules.length 64) (fun i f σ => f 1 = .ptr 0 0 ∧ f 2 = .ptr 1 0 ∧ f 3 = .ptr 2 0 ∧ f 8 = .int .i64 (i : Int) ∧ ∃ xr R, σ = fitP p xd xu xr R ∧ LstA R 3 (((p.rules.take i).map ruleOf).map GR.enc) 6 xr) ?_ _ _ ?_
  rotate_left 1
  · exact ⟨by simp [h1], by simp [h2], by simp [h3], by simp, _, _, rfl, .inl ⟨by simp, rfl⟩⟩
  clear h1 h2 h3
  rintro i f σ hi ⟨h1, h2, h3, h8, xr, R, rfl, hx⟩
  by_cases hlt : i < min p.rules.length 64
  · have c1 : i < p.rules.length := by omega
    have c2 : (i : Int) < 64 := by omega
    have hmem := List.getElem_mem c1
    have hlw : IntKind.i64.wrap ((i : Int) + 1) = (i : Int) + 1 := wr64 (by omega) (by omega)
    have e1 : p.rules[i]? = some p.rules[i] := List.getElem?_eq_getElem c1
    obtain ⟨q1, q2, q3, q4⟩ := ruleOf_parts p.rules[i]
    rw [take_map ruleOf _ _ c1, List.map_append]
    have hall := allEl_map GR.enc 6 gr_okEl ((p.rules.take i).map ruleOf)
    have hlen : (((p.rules.take i).map ruleOf).map GR.enc).length = i := by simp; omega
    generalize hES : ((p.rules.take i).map ruleOf).map GR.enc = es at *
    simp [fitP, h1, h2, h3, h8, c1, c2, e1]
    rw [hBs]
    simp only [wpK_seq]
    refine ha i c1 (hp.2.2 _ hmem) xd xu xr R _ _ _ _ _ (by simp [h1]) (by simp [h2]) (by simp [h3]) (by simp [h8]) rfl ?_
    clear h1 h2 h3 h8
    intro f σ hf hσ
    simp only [wpK_seq]
    refine hb i c1 (hp.2.2 _ hmem) xd xu xr R _ _ _ f σ hf hσ ?_
    clear hf hσ f σ
    intro f σ hf hσ
    simp only [wpK_seq]
    refine hc i c1 xd xu xr R _ _ _ f σ hf hσ ?_
    clear hf hσ f σ
    intro f σ hf hσ
    simp only [wpK_seq]
    refine hd i c1 (hp.2.2 _ hmem) xd xu xr R _ _ _ f σ hf hσ ?_
    clear hf hσ f σ
    intro f σ hf hσ
    rw [← q4] at hσ
    refine he i c1 xd xu xr R es hall (by rw [hlen]; omega) hx _ _ f σ hf hσ ⟨q1, q2, q3⟩ ?_
    clear hf hσ f σ
    intro f σ h1 h2 h3 h8 ⟨xr', R', hσ, hx'⟩
    subst hσ
    simp [h1, h2, h3, h8, hlw]
    exact ⟨hlt, xr', R', rfl, hx'⟩
  · have c1 : ¬ (i < p.rules.length ∧ (i : Int) < 64) := by omega
    rw [take_min p.rules i 64 (by omega)] at hx
    by_cases d1 : i < p.rules.length
    · have d2 : ¬ ((i : Int) < 64) := fun h => c1 ⟨d1, h⟩
      simp [fitP, h1, h8, d1, d2]
      exact hk _ _ (by simp [h1]) (by simp [h2]) (by simp [h3]) ⟨_, _, rfl, hx.b⟩
    · simp [fitP, h1, h8, d1]
      exact hk _ _ (by simp [h1]) (by simp [h2]) (by simp [h3]) ⟨_, _, rfl, hx.b⟩
theorem fit4_ok (p : GP) (hp : p.ok) (hs : p.size ≤ 1048576) : pureT T c10 [p.enc] = some (progOf p).enc := by
  apply pure_enter (by simp [c10])
  have h1 := fit1 p hp hs
  have h2 := fit2 p hp hs
  have h3 := fit3 p hp hs
  obtain ⟨A, hA⟩ : ∃ A, A = c10.body.snd.snd.fst := ⟨_, rfl⟩
  obtain ⟨B, hB⟩ : ∃ B, B = c10.body.snd.snd.snd.fst := ⟨_, rfl⟩
  obtain ⟨C, hC⟩ : ∃ C, C = c10.body.snd.snd.snd.snd.fst := ⟨_, rfl⟩
  simp only [← hA, ← hB, ← hC] at h1 h2 h3
  have hL : c10.body = .seq c10.body.fst (.seq c10.body.snd.fst (.seq A (.seq B (.seq C c10.body.snd.snd.snd.snd.snd)))) := by rw [hA, hB, hC]; rfl
  rw [hL]
  clear hL hA hB hC
  simp [c10, ACode.fst, ACode.snd, GP.enc_eq]
  refine h1 _ _ _ _ (by simp) (by simp) (by simp) rfl ?_
  intro f σ g1 g2 g3 ⟨xd, R, hσ, hxd⟩
  simp only [wpK_seq]
  refine h2 xd R _ _ f σ g1 g2 g3 hσ ?_
  clear g1 g2 g3 hσ f σ
  intro f σ g1 g2 g3 ⟨xu, R, hσ, hxu⟩
  simp only [wpK_seq]
  refine h3 xd xu R _ _ f σ g1 g2 g3 hσ ?_
  clear g1 g2 g3 hσ f σ
  intro f σ g1 g2 g3 ⟨xr, R, hσ, hxr⟩
  subst hσ
  have a1 : xd.cells = [xd] ∧ xu.cells = [xu] ∧ xr.cells = [xr] := by
    refine ⟨?_, ?_, ?_⟩
    · rcases hxd with ⟨_, rfl⟩ | ⟨k, rfl⟩ <;> rfl
    · rcases hxu with ⟨_, rfl⟩ | ⟨k, rfl⟩ <;> rfl
    · rcases hxr with ⟨_, rfl⟩ | ⟨k, rfl⟩ <;> rfl
  have b1 := fun σ => hxd.close (σ := σ)
  have b2 := fun σ => hxu.close (σ := σ)
  have b3 := fun σ => hxr.close (σ := σ)
  simp [fitP, g1, g2, g3, setRun, a1, b1, b2, b3, closeL]
  refine ⟨?_, ?_, ?_⟩ <;> simp [progOf]
theorem callFit4 (p : GP) (hp : p.ok) (hs : p.size ≤ 1048576) (bs : Nat) (σ : Heap) : callT T 10 [p.enc] bs σ = some ((progOf p).enc, σ) := call_clean rfl rfl rfl (by simp) (fit4_ok p hp hs)
end Go.Proofs.YtpkfkipbemdhmaaGreatDoor
end
section
set_option linter.unusedVariables false
set_option linter.unusedSimpArgs false
set_option linter.unnecessarySimpa false
namespace Go.Proofs.YtpkfkipbemdhmaaGreatDoor
open Go.Mach
def hi (l : List UInt8) : Prop := ∀ c ∈ l, 32 ≤ c.toNat
theorem hi_nil : hi [] := fun c h => by cases h
theorem hi_cons {c : UInt8} {l : List UInt8} (hc : 32 ≤ c.toNat) (h : hi l) : hi (c :: l) := fun x hx => by
  rcases List.mem_cons.1 hx with rfl | hx
  · exact hc
  · exact h x hx
theorem hi_app {a b : List UInt8} (ha : hi a) (hb : hi b) : hi (a ++ b) := fun x hx => by
  rcases List.mem_append.1 hx with hx | hx
  · exact ha x hx
  · exact hb x hx
theorem hi_name {t : ByteArray} (h : nameOK t = true) : hi t.data.toList := by
  obtain ⟨c, l, e, _, h2⟩ := name_list h
  rw [e]; intro x hx
  have := h2 x hx
  simp [innC, innerB, letterB] at this; omega
theorem hi_var {t : ByteArray} (h : varOK t = true) : hi t.data.toList := by
  obtain ⟨c, l, e, _, h2⟩ := var_list h
  rw [e]; intro x hx
  have := h2 x hx
  simp [varC, upB, innerB, letterB] at this; omega
theorem hi_rel {t : ByteArray} (h : relOK t = true) : hi t.data.toList := hi_name (rel_name h).1
theorem hi_text {t : ByteArray} (h : textOK t = true) : hi t.data.toList := fun x hx => by
  simp only [textOK, Bool.and_eq_true, List.all_eq_true] at h
  have := h.1 x hx
  simp [plainB] at this; omega
theorem hi_itoa (n : Int) : hi (Lib.itoa n) := fun x hx => by
  have := (itoa_num n).1 x hx
  simp [numB, digitB] at this
  rcases this with h | h
  · omega
  · subst h; decide
theorem hi_join {α : Type} (f : Nat → α → List UInt8) (sep : List UInt8) (hs : hi sep) : ∀ (i : Nat) (l : List α), (∀ x ∈ l, ∀ i, hi (f i x)) → hi (joinF f sep i l)
  | _, [], _ => hi_nil
  | i, x :: l, h => by
    simp only [joinF]
    refine hi_app ?_ (hi_app (h x (by simp) i) (hi_join f sep hs (i + 1) l fun y hy => h y (by simp [hy])))
    split
    · exact hi_nil
    · exact hs
theorem hi_44 : hi [44] := hi_cons (by decide) hi_nil
theorem hi_pr : ∀ (d : Nat) (v : GV), rightV d v = true → hi (pr v) := by
  intro d
  induction d with
  | zero =>
    intro v h
    rcases right_cases h with ⟨n', rfl, _⟩ | ⟨t', rfl, ht⟩ | ⟨t', rfl, ht⟩ | ⟨l', rfl, hl, _⟩
    · simp only [pr, if_true]; exact hi_itoa _
    · simp [pr]
      exact hi_cons (by decide) (hi_app (hi_text ht) (hi_cons (by decide) hi_nil))
    · simp [pr]
      exact hi_name ht
    · omega
  | succ d ih =>
    intro v h
    rcases right_cases h with ⟨n', rfl, _⟩ | ⟨t', rfl, ht⟩ | ⟨t', rfl, ht⟩ | ⟨l', rfl, _, _, hl⟩
    · simp only [pr, if_true]; exact hi_itoa _
    · simp [pr]
      exact hi_cons (by decide) (hi_app (hi_text ht) (hi_cons (by decide) hi_nil))
    · simp [pr]
      exact hi_name ht
    · simp [pr]
      rw [← ps_join]
      exact hi_cons (by decide) (hi_app (hi_join _ _ hi_44 _ _ fun x hx _ => ih x (hl x hx)) (hi_cons (by decide) hi_nil))
theorem hi_op {n : ByteArray} (h : opOK n = true) : hi n.data.toList := by
  rcases of_decide_eq_true h with rfl | rfl | rfl <;> exact hi_cons (by decide) hi_nil
theorem hi_sh : ∀ (d : Nat) (t : GT), termR d t = true → hi (shT t) := by
  intro d
  induction d with
  | zero =>
    intro t h
    have := (term_cases h).1
    omega
  | succ d ih =>
    intro t h
    obtain ⟨_, ⟨n, rfl, hn⟩ | ⟨v, rfl, hv, _⟩ | ⟨n, l, rfl, hn, hl⟩ | ⟨n, l, rfl, hn, _, hl⟩⟩ := term_cases h
    · simp [shT]; exact hi_var hn
    · simp [shT]; exact hi_pr _ v hv
    · have e : shT (.mk 3 n nil0 l) = n.data.toList ++ 40 :: (shTs [44] l ++ [41]) := by simp [shT]
      rw [e, ← ts_join]
      exact hi_app (hi_name (fn_name (by omega))) (hi_cons (by decide) (hi_app (hi_join _ _ hi_44 _ _ fun x hx _ => ih x (hl x hx)) (hi_cons (by decide) hi_nil)))
    · have e : shT (.mk 4 n nil0 l) = 40 :: (shTs n.data.toList l ++ [41]) := by simp [shT]
      rw [e, ← ts_join]
      exact hi_cons (by decide) (hi_app (hi_join _ _ (hi_op hn) _ _ fun x hx _ => ih x (hl x hx)) (hi_cons (by decide) hi_nil))
theorem hi_agg {a : List UInt8} (h : aggL a) : hi a := by
  rcases h with rfl | rfl | rfl | rfl
  · exact hi_nil
  all_goals (intro c hc; revert c; decide)
theorem hi_at {agg : List UInt8} {p : Int} (ha : aggL agg) {l : List GT} (hl : ∀ x ∈ l, termR 8 x = true) (hv : atVars agg p 0 l) : hi (shAtS agg p 0 l) := by
  have key : ∀ (l : List GT) (i : Nat), (∀ x ∈ l, termR 8 x = true) → atVars agg p i l → hi (joinF (shAt agg p) [44] i l) := by
    intro l
    induction l with
    | nil => intro i _ _; exact hi_nil
    | cons x l ih =>
      intro i hl hv
      simp only [joinF]
      refine hi_app ?_ (hi_app ?_ (ih (i + 1) (fun y hy => hl y (by simp [hy])) hv.2))
      · split
        · exact hi_nil
        · exact hi_44
      · have hx := hl x (by simp)
        unfold shAt
        split
        · rename_i hc
          have hk := hv.1 hc
          obtain ⟨_, ⟨n, rfl, hn⟩ | ⟨v, rfl, hv, _⟩ | ⟨n, l, rfl, hn, hl⟩ | ⟨n, l, rfl, hn, _, hl⟩⟩ := term_cases hx
          · exact hi_app (hi_agg ha) (hi_cons (by decide) (hi_app (hi_var hn) (hi_cons (by decide) hi_nil)))
          all_goals (simp [GT.kind] at hk)
        · exact hi_sh _ _ hx
  rw [← ats_join]; exact key l 0 hl hv
theorem hi_lit {x : GL} (h : litB x = true) : hi (shLit x) := by
  rcases lit_cases h with ⟨hk, hn, ha⟩ | ⟨hk, hn, a, b, e, ha, hb⟩ | ⟨hk, hn, a, e, ha⟩
  · have h1 : hi (shAtom x.name.data.toList x.args [] 0) := by
      unfold shAtom
      rw [atS_nil, ← ts_join]
      exact hi_app (hi_rel hn) (hi_cons (by decide) (hi_cons (by decide) (hi_app (hi_join _ _ hi_44 _ _ fun y hy _ => hi_sh _ _ (args_all ha y hy)) (hi_cons (by decide) hi_nil))))
    rcases hk with hk | hk
    · rw [sh1 hk]; exact h1
    · rw [sh2 hk]; exact hi_cons (by decide) h1
  · rw [sh3 hk e]
    have hop : hi x.name.data.toList := by rcases of_decide_eq_true hn with h | h | h | h | h | h <;> (rw [h]; intro c hc; revert c; decide)
    exact hi_app (hi_sh _ _ ha) (hi_cons (by decide) (hi_app hop (hi_cons (by decide) (hi_sh _ _ hb))))
  · rw [sh4 hk e]
    exact hi_app (hi_var hn) (hi_cons (by decide) (hi_cons (by decide) (hi_cons (by decide) (hi_cons (by decide) (hi_sh _ _ ha)))))
theorem hi_rule {x : GR} (h : ruleB x = true) : hi (shRule x) := by
  simp only [ruleB, Bool.and_eq_true, decide_eq_true_eq, List.all_eq_true] at h
  obtain ⟨⟨⟨⟨⟨a1, a2⟩, a3⟩, a4⟩, a5⟩, a6⟩ := h
  obtain ⟨g1, g2, _⟩ := agg_L a6
  unfold shRule shAtom
  rw [← ls_join]
  refine hi_app (hi_rel a1) (hi_cons (by decide) (hi_app (hi_app (hi_rel a2) (hi_cons (by decide) (hi_cons (by decide) (hi_app (hi_at g1 (args_all a3) g2) (hi_cons (by decide) hi_nil))))) ?_))
  refine hi_cons (by decide) (hi_cons (by decide) (hi_cons (by decide) (hi_cons (by decide) (hi_app (hi_join _ _ (hi_cons (by decide) (hi_cons (by decide) hi_nil)) _ _ fun y hy _ => hi_lit (a5 y hy)) (hi_cons (by decide) hi_nil)))))
theorem hi_tup {x : GU} (h : tupB x = true) : hi (shTup x) := by
  simp only [tupB, Bool.and_eq_true, decide_eq_true_eq, List.all_eq_true] at h
  unfold shTup
  rw [← ps_join]
  exact hi_app (hi_rel h.1.1.1) (hi_cons (by decide) (hi_cons (by decide) (hi_app (hi_join _ _ hi_44 _ _ fun y hy _ => hi_pr _ _ (h.2 y hy)) (hi_cons (by decide) (hi_cons (by decide) hi_nil)))))
def nlc (l : List UInt8) : Nat := l.countP (fun c => c.toNat == 10)
theorem nlc_app (a b : List UInt8) : nlc (a ++ b) = nlc a + nlc b := by simp [nlc]
theorem nlc_hi {l : List UInt8} (h : hi l) : nlc l = 0 := by
  simp only [nlc, List.countP_eq_zero, beq_iff_eq]
  intro c hc; have := h c hc; omega
theorem nlc_line {l : List UInt8} (h : hi l) : nlc (l ++ [10]) = 1 := by rw [nlc_app, nlc_hi h]; rfl
theorem nlc_flat {α : Type} (f : α → List UInt8) : ∀ l : List α, (∀ x ∈ l, nlc (f x) = 1) → nlc (l.flatMap f) = l.length
  | [], _ => rfl
  | x :: l, h => by rw [List.flatMap_cons, nlc_app, h x (by simp), nlc_flat f l fun y hy => h y (by simp [hy]), List.length_cons]; omega
theorem nlc_prog {p : GP} (h : progB p = true) : nlc (shProg p) = p.decls.length + p.facts.length + p.rules.length := by
  simp only [progB, Bool.and_eq_true, List.all_eq_true] at h
  have h1 := nlc_flat shDecl p.decls fun x hx => by
    have hd := h.2 x hx
    simp only [declB, Bool.and_eq_true, decide_eq_true_eq] at hd
    have e : shDecl x = (sMat.data.toList ++ 40 :: (x.name.data.toList ++ 44 :: (Lib.itoa x.arity ++ [41, 46]))) ++ [10] := by simp [shDecl]
    rw [e]
    exact nlc_line (hi_app (hi_name (by decide +kernel)) (hi_cons (by decide) (hi_app (hi_rel hd.1) (hi_cons (by decide) (hi_app (hi_itoa _) (hi_cons (by decide) (hi_cons (by decide) hi_nil)))))))
  have h2 := nlc_flat (fun t => shTup t ++ [10]) p.facts fun x hx => nlc_line (hi_tup (h.1.1.2 x hx))
  have h3 := nlc_flat (fun r => shRule r ++ [10]) p.rules fun x hx => nlc_line (hi_rule (h.1.2 x hx))
  unfold shProg
  rw [nlc_app, nlc_app, h1, h2, h3]
  omega
theorem tells_call (x : GP) (hs : x.size ≤ 1000000000) (bs : Nat) (σ : Heap) : callT T 7 [x.enc] bs σ = some (.bool true, σ) := call_clean rfl rfl rfl (by simp) (printerTells_ok x hs)
theorem nlc_take (l : List UInt8) (i : Nat) (h : i < l.length) : nlc (l.take (i + 1)) = nlc (l.take i) + if l[i].toNat = 10 then 1 else 0 := by
  rw [List.take_add_one, List.getElem?_eq_getElem h, nlc_app]
  simp only [Option.toList_some, nlc, List.countP_singleton, beq_iff_eq]
theorem printerGoes_ok (p : GP) (hp : p.ok) (hs : p.size ≤ 1048576) : pureT T c8 [p.enc] = some (.bool true) := by
  have hr := prog_right p
  have hsz := progOf_le p
  have hfit := callFit4 p hp hs
  generalize progOf p = q at *
  have hpr := sayProgram q (by omega)
  have hright := callPRight q (by omega)
  have htells := tells_call q (by omega)
  have hln := prog_len hr
  have hn := nlc_prog hr
  have hprog : textProgram q = S (shProg q) := by simp only [textProgram]; rw [if_pos hr]
  rw [hprog] at hpr
  rw [hr] at hright
  have l1 := q.decls_len
  have l2 := q.facts_len
  have l3 := q.rules_len
  generalize shProg q = t at *
  obtain ⟨ds, us, rs⟩ := q
  simp only at l1 l2 l3 hn
  rw [GP.enc_eq] at hfit hpr hright htells
  simp only at hfit hpr hright htells
  apply pure_enter (by simp [c8])
  simp [c8, hfit, hpr, setRun]
  refine W_for T 0 44 t.length (fun i f σ => f 4 = .str (S t) ∧ f 3 = .ptr 1 0 ∧ f 5 = .int .i64 (nlc (t.take i) : Int) ∧ f 6 = .int .i64 (i : Int) ∧ ∃ o, σ = [o, .cells [.isl (ds.map GD.enc) false, .isl (us.map GU.enc) false, .isl (rs.map GR.enc) false] 0 false]) ?_ _ _ ?_
  rotate_left 1
  · simp [nlc]
  rintro i f σ hi' ⟨h4, h3, h5, h6, o, rfl⟩
  have hsize : (S t).size = t.length := rfl
  by_cases hlt : i < t.length
  · have hlw : IntKind.i64.wrap ((i : Int) + 1) = (i : Int) + 1 := wr64 (by omega) (by omega)
    have hle : nlc (t.take i) ≤ i := by have := List.countP_le_length (p := fun c : UInt8 => c.toNat == 10) (l := t.take i); simp only [nlc, List.length_take] at this ⊢; omega
    have hnw : IntKind.i64.wrap ((nlc (t.take i) : Int) + 1) = (nlc (t.take i) : Int) + 1 := wr64 (by omega) (by omega)
    have hd : (S t).data = t.toArray := rfl
    rw [nlc_take t i hlt]
    by_cases hc : t[i].toNat = 10
    · have hc2 : ((t[i].toNat : Nat) : Int) = 10 := by omega
      simp [h4, h3, h5, h6, hsize, hlt, hd, hc, hc2, hlw, hnw]
    · have hc2 : ¬ ((t[i].toNat : Nat) : Int) = 10 := by omega
      simp [h4, h3, h5, h6, hsize, hlt, hd, hc, hc2, hlw]
  · have he : i = t.length := by omega
    subst he
    rw [List.take_length] at h5
    have w1 : IntKind.i64.wrap ((ds.length : Int) + (us.length : Int)) = (ds.length : Int) + (us.length : Int) := wr64 (by omega) (by omega)
    have w2 : IntKind.i64.wrap ((ds.length : Int) + (us.length : Int) + (rs.length : Int)) = (ds.length : Int) + (us.length : Int) + (rs.length : Int) := wr64 (by omega) (by omega)
    simp [h4, h3, h5, h6, hsize, htells, hright, w1, w2, hn]
end Go.Proofs.YtpkfkipbemdhmaaGreatDoor
end
