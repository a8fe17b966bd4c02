import Derived.Test.YtddmjmkbnfoodaaC6
set_option linter.unusedVariables false
set_option linter.unusedSimpArgs false
set_option linter.unnecessarySimpa false
section
namespace Go.Proofs.Ytddmjmkbnfoodaa
open Go.Mach
mutual
theorem hang1 (e1 e2 : List GB) : ∀ t : GT, (∀ n ∈ vs1 t, lookupV e1 n = lookupV e2 n) → evalV e1 t = evalV e2 t
  | .mk k n v l, h => by
    simp only [evalV]
    by_cases h1 : k = 1
    · simp only [if_pos h1]; exact h n (by simp [vs1, h1])
    · simp only [if_neg h1]
      by_cases h2 : k = 2
      · simp only [if_pos h2]
      · simp only [if_neg h2]
        rw [hangL e1 e2 l (fun m hm => h m (by simp only [vs1, if_neg h1]; exact hm))]
theorem hangL (e1 e2 : List GB) : ∀ l : List GT, (∀ n ∈ vsL l, lookupV e1 n = lookupV e2 n) → evalVs e1 l = evalVs e2 l
  | [], _ => rfl
  | t :: l, h => by
    simp only [evalVs]
    rw [hang1 e1 e2 t (fun m hm => h m (by simp [vsL, hm])), hangL e1 e2 l (fun m hm => h m (by simp [vsL, hm]))]
end
mutual
def plainT : GT → Bool
  | .mk k _ _ l => (decide (k ≠ 2) || l.isEmpty) && plainL l
def plainL : List GT → Bool
  | [] => true
  | t :: l => plainT t && plainL l
end
theorem plainL_iff : ∀ l : List GT, plainL l = true ↔ ∀ t ∈ l, plainT t = true
  | [] => by simp [plainL]
  | t :: l => by simp [plainL, plainL_iff l]
mutual
theorem none1 (e : List GB) (n : ByteArray) (hn : lookupV e n = none) : ∀ t : GT, plainT t = true → n ∈ vs1 t → evalV e t = none
  | .mk k m v l, hp, h => by
    simp only [plainT, Bool.and_eq_true, Bool.or_eq_true, decide_eq_true_eq] at hp
    simp only [vs1] at h
    simp only [evalV]
    by_cases h1 : k = 1
    · rw [if_pos h1] at h
      simp at h; subst h
      simp only [if_pos h1]; exact hn
    · rw [if_neg h1] at h
      simp only [if_neg h1]
      by_cases h2 : k = 2
      · rcases hp.1 with h3 | h3
        · exact absurd h2 h3
        · cases l with
          | nil => simp [vsL] at h
          | cons x l => simp at h3
      · simp only [if_neg h2]
        rw [noneL e n hn l hp.2 h]
theorem noneL (e : List GB) (n : ByteArray) (hn : lookupV e n = none) : ∀ l : List GT, plainL l = true → n ∈ vsL l → evalVs e l = none
  | [], _, h => by simp [vsL] at h
  | t :: l, hp, h => by
    simp only [plainL, Bool.and_eq_true] at hp
    simp only [vsL, List.mem_append] at h
    simp only [evalVs]
    rcases h with h | h
    · rw [none1 e n hn t hp.1 h]
    · rw [noneL e n hn l hp.2 h]
      cases evalV e t <;> rfl
end
theorem plain_leaf (t : GT) : plainT (leafT t) = true := by
  unfold leafT; split <;> rfl
theorem plain_term : ∀ (d : Nat) (t : GT), plainT (termV d t) = true
  | 0, t => plain_leaf t
  | d + 1, t => by
    have ih := plain_term d
    unfold termV
    split
    · exact plain_leaf t
    split
    · rfl
    split
    · rfl
    split
    · simp only [plainT, Bool.and_eq_true]
      refine ⟨rfl, (plainL_iff _).2 fun x hx => ?_⟩
      obtain ⟨y, _, rfl⟩ := List.mem_map.1 hx; exact ih y
    · simp only [plainT, Bool.and_eq_true]
      refine ⟨rfl, (plainL_iff _).2 fun x hx => ?_⟩
      obtain ⟨y, _, rfl⟩ := List.mem_map.1 hx; exact ih y
theorem mem_fold : ∀ (ns b : List ByteArray) (m : ByteArray), m ∈ ns.foldl addB b ↔ m ∈ b ∨ m ∈ ns
  | [], b, m => by simp
  | n :: ns, b, m => by
    rw [List.foldl_cons, mem_fold ns]
    unfold addB
    split
    · rename_i h
      have := (memB_iff n b).1 h
      constructor
      · rintro (h | h)
        · exact .inl h
        · exact .inr (by simp [h])
      · rintro (h | h)
        · exact .inl h
        · rcases List.mem_cons.1 h with rfl | h
          · exact .inl this
          · exact .inr h
    · simp [or_assoc]
theorem mem_nub (ns : List ByteArray) (m : ByteArray) : m ∈ nub ns ↔ m ∈ ns := by simp [nub, mem_fold]
theorem fold_len : ∀ (ns b : List ByteArray), (ns.foldl addB b).length ≤ b.length + ns.length
  | [], b => by simp
  | n :: ns, b => by
    rw [List.foldl_cons]
    have := fold_len ns (addB b n)
    have h2 : (addB b n).length ≤ b.length + 1 := by unfold addB; split <;> simp
    simp only [List.length_cons]; omega
theorem nub_len (ns : List ByteArray) : (nub ns).length ≤ ns.length := by have := fold_len ns []; simpa [nub] using this
abbrev sOther : ByteArray := ⟨#[79, 116, 104, 101, 114]⟩
theorem look_behind (e : List GB) (n : ByteArray) : lookupV (e ++ e) n = lookupV e n := by
  simp only [lookupV, List.find?_append, Option.or_self]
theorem look_ahead (e : List GB) (x : GV) {n : ByteArray} (h : n ≠ sOther) : lookupV (⟨sOther, x⟩ :: e) n = lookupV e n := by
  simp only [lookupV, List.find?_cons]
  rw [decide_eq_false (fun e => h e.symm)]
theorem eval_behind (e : List GB) (t : GT) : evalV (e ++ e) t = evalV e t := hang1 _ _ t fun n _ => look_behind e n
theorem eval_ahead (e : List GB) (x : GV) (t : GT) (h : sOther ∉ nub (vs1 t)) : evalV (⟨sOther, x⟩ :: e) t = evalV e t :=
  hang1 _ _ t fun n hn => look_ahead e x fun en => h ((mem_nub _ _).2 (en ▸ hn))
theorem eval_all (e : List GB) {t : GT} (hp : plainT t = true) {v : GV} (h : evalV e t = some v) : ∀ n ∈ nub (vs1 t), (lookupV e n).isSome = true := fun n hn => by
  cases hl : lookupV e n with
  | some _ => rfl
  | none => rw [none1 e n hl t hp ((mem_nub _ _).1 hn)] at h; cases h
end Go.Proofs.Ytddmjmkbnfoodaa
end
section
set_option maxRecDepth 100000
namespace Go.Proofs.Ytddmjmkbnfoodaa
open Go.Mach
theorem encsB_okEl (l : List GB) : (GB.encs l).all (okEl 5 true) = true := by
  rw [List.all_eq_true]
  intro x hx
  obtain ⟨v, _, rfl⟩ := List.mem_map.1 hx
  rfl
theorem app_sl_isl {σ : Heap} {k sz bytes : Nat} {cs ys : List AV} (h : σ[k]? = some (.cells cs 0 false)) (hl : cs.length = sz) (h0 : 0 < sz) (hb : bytes ≤ 1000) (hc : cs.all AV.clo1 = true) (hn : cs.map AV.nrm = cs) (hy : ys.all (okEl sz true) = true) (hlen : ys.length ≤ 1000000000) :
    ∃ x' σ', appendA σ sz true bytes false (.sl k 0 1 sz true) (.isl ys false) = some (x', σ') ∧ σ.length ≤ σ'.length ∧ (∀ i, i < σ.length → σ'[i]? = σ[i]?) ∧
      x'.solid = true ∧ x'.cells = [x'] ∧ ∀ τ, τ[k]? = some (.cells cs 0 false) → ∃ τ', closeA τ x' = some (.isl (.agg cs :: ys) false, τ') ∧ τ'.length = τ.length ∧ ∀ i, i ≠ k → τ'[i]? = τ[i]? := by
  by_cases hx : ys = []
  · subst hx
    refine ⟨.sl k 0 1 sz true, σ, app_isl_nil3 h hl, Nat.le_refl _, fun _ _ => rfl, rfl, rfl, fun τ hτ => ⟨frz τ k (0 + 1 * sz), ?_, ?_, ?_⟩⟩
    · have := close0_one hτ hl hc
      rw [hn] at this
      show close1 τ _ = _
      have e : 0 + 1 * sz = sz := by omega
      rw [e]
      exact close1_of0 this
    · unfold frz; rw [hτ]; simp
    · intro i hi
      unfold frz; rw [hτ]
      show (τ.set k _)[i]? = _
      rw [List.getElem?_set_ne (Ne.symm hi)]
  · refine ⟨_, _, app_isl_sl1 h hl hc hx hy (by omega) hb h0, by simp, fun i hi => List.getElem?_append_left hi, rfl, rfl, fun τ hτ => ⟨τ, rfl, rfl, fun _ _ => rfl⟩⟩
theorem callBEvalX (env : List GB) (he : Small env) (t : GT) (ht : t.size ≤ 1000000000) {x : AV} {σ σ' : Heap} (hx : closeA σ x = some (.isl (GB.encs env) false, σ')) (bs : Nat) : callT T 7 [t.enc, x] bs σ = some (resO (evalV env t), σ') :=
  call_data (args' := [t.enc, .isl (GB.encs env) false]) rfl rfl rfl (bEval_ok env he t ht) (resO_scal _) (by simp) (by simp [closeT, hx])
set_option maxHeartbeats 4000000 in
theorem bindHangs_ok (t : GT) (env : List GB) (x : GV) (ht : t.ok ∧ t.size ≤ 1048576) (he : OkB env) (hx : x.ok ∧ x.size ≤ 1048576) : pureT T c3 [t.enc, .isl (GB.encs env) false, x.enc] = some (.bool true) := by
  have hcT := callTerm8 t ht.1 (by omega)
  have hcE := callEnv env he.1 (fun b hb => by have := he.2.1 b hb; omega) (by have := he.2.2; omega)
  have hes := env_small env
  have hel : (envV env).length ≤ 8 := by simp [envV]; omega
  have hus := term_small 8 (by omega) t
  have hpl := plain_term 8 t
  generalize envV env = e at *
  generalize termV 8 t = u at *
  have hE1 := callBEval e hes u hus
  have hsm2 : Small (e ++ e) := ⟨by simp; omega, fun b hb => hes.2 b (by simpa using hb)⟩
  have hsm3 : Small (⟨sOther, x⟩ :: e) := ⟨by simp; omega, fun b hb => by
    rcases List.mem_cons.1 hb with rfl | hb
    · show x.size ≤ _; omega
    · exact hes.2 b hb⟩
  have hE2 := fun (y : AV) σ σ' h bs => callBEvalX (e ++ e) hsm2 u hus (x := y) (σ := σ) (σ' := σ') h bs
  have hE3 := fun (y : AV) σ σ' h bs => callBEvalX (⟨sOther, x⟩ :: e) hsm3 u hus (x := y) (σ := σ) (σ' := σ') h bs
  rw [eval_behind] at hE2
  have hnl : (nub (vs1 u)).length ≤ 1000000000 := by have h1 := nub_len (vs1 u); have h2 := vs1_len u; omega
  have hall := fun v h => eval_all e hpl (v := v) h
  have hah := eval_ahead e x u
  have hV : ∀ bs σ, callT T 8 [u.enc] bs σ = some (encN (nub (vs1 u)), σ) := fun bs σ => call_clean rfl rfl rfl (by simp) (vars_ok u hus)
  have hds := evalD_size hes u hus
  have hL := fun n => callBLookup e hes n
  generalize hns : nub (vs1 u) = ns at *
  generalize ho : evalV e u = o at *
  have hS := callSame (o.getD nilV) (o.getD nilV) (by omega)
  unfold resO at hE1 hE2 hE3 hL
  generalize hd : o.getD nilV = d at *
  obtain ⟨x1, σ1, a1, L1, l1, k1⟩ := (LO.nil 4 5 true [AObj.cells [.int .i64 t.kind, .str t.name, .int .i64 t.value.kind, .int .i64 t.value.num, .str t.value.text, .isl (GV.encs t.value.items) false, .isl (GT.encs t.args) false] 0 false, AObj.cells [.int .i64 x.kind, .int .i64 x.num, .str x.text, .isl (GV.encs x.items) false] 0 false, AObj.cells [.int .i64 u.kind, .str u.name, .int .i64 u.value.kind, .int .i64 u.value.num, .str u.value.text, .isl (GV.encs u.value.items) false, .isl (GT.encs u.args) false] 0 false, AObj.cells [.int .i64 d.kind, .int .i64 d.num, .str d.text, .isl (GV.encs d.items) false] 0 false]).isl (bytes := 72) (b := false) (GB.encs e) (encsB_okEl e) (by simp [GB.encs]; omega) (by omega) (by omega) (by simp)
  obtain ⟨x2, σ2, a2, L2, l2, k2⟩ := L1.isl (bytes := 72) (b := false) (GB.encs e) (encsB_okEl e) (by simp [GB.encs]; omega) (by omega) (by omega) (by simp at l1; omega)
  simp at l1 k1
  obtain ⟨x3, σ3, a3, l3, k3, so3, ce3, cl3⟩ := app_sl_isl (σ := σ2 ++ [.cells [.str sOther, .int .i64 x.kind, .int .i64 x.num, .str x.text, .isl (GV.encs x.items) false] 0 false]) (k := σ2.length) (sz := 5) (bytes := 72) (cs := [.str sOther, .int .i64 x.kind, .int .i64 x.num, .str x.text, .isl (GV.encs x.items) false]) (ys := GB.encs e) (by simp) rfl (by omega) (by omega) rfl rfl (encsB_okEl e) (by simp [GB.encs]; omega)
  simp only [List.length_append, List.length_cons, List.length_nil] at l3 k3
  have hcs : closeS (σ2 ++ [.cells [.str sOther, .int .i64 x.kind, .int .i64 x.num, .str x.text, .isl (GV.encs x.items) false] 0 false]) (.sl σ2.length 0 1 5 true) = σ2 ++ [.cells [.str sOther, .int .i64 x.kind, .int .i64 x.num, .str x.text, .isl (GV.encs x.items) false] 0 false] := closeS_tidy (cs := [.str sOther, .int .i64 x.kind, .int .i64 x.num, .str x.text, .isl (GV.encs x.items) false]) (fz := 0) (ext := false) (by simp) rfl
  have z2 : σ3[2]? = some (AObj.cells [.int .i64 u.kind, .str u.name, .int .i64 u.value.kind, .int .i64 u.value.num, .str u.value.text, .isl (GV.encs u.value.items) false, .isl (GT.encs u.args) false] 0 false) := by rw [k3 2 (by omega), List.getElem?_append_left (by omega), k2 2 (by omega), k1 2 (by omega)]; rfl
  have z3 : σ3[3]? = some (AObj.cells [.int .i64 d.kind, .int .i64 d.num, .str d.text, .isl (GV.encs d.items) false] 0 false) := by rw [k3 3 (by omega), List.getElem?_append_left (by omega), k2 3 (by omega), k1 3 (by omega)]; rfl
  have w1 : σ2[1]? = some (AObj.cells [.int .i64 x.kind, .int .i64 x.num, .str x.text, .isl (GV.encs x.items) false] 0 false) := by rw [k2 1 (by omega), k1 1 (by omega)]; rfl
  have zk : σ3[σ2.length]? = some (.cells [.str sOther, .int .i64 x.kind, .int .i64 x.num, .str x.text, .isl (GV.encs x.items) false] 0 false) := by rw [k3 _ (by omega)]; simp
  have q2 : 2 < σ3.length := by omega
  have q3 : 3 < σ3.length := by omega
  have p1 : 1 < σ2.length := by omega
  have hE2' := hE2 x2 σ3 σ3 (by rw [L2.closeA]; simp [GB.encs])
  apply pure_enter (by simp [c3])
  simp [c3, callAwake, hcT, hcE, hE1, hE2', hV, enc_mk, GT.enc_mk, setRun, a1, L1.closeS, a2, a3, hcs, z2, z3, w1, q2, q3, p1, L2.solid, L2.cells, so3, ce3, encN, -appendA_ag, -getElem?_pos, List.getElem?_append_left, List.getElem?_append_right, List.getElem?_set_ne, list_set_at, List.getElem?_cons_zero, List.getElem?_cons_succ]
  rw [sym_true] at hS
  refine W_for T 0 127 ns.length (fun i f τ => f 7 = .bool true ∧ f 8 = .ptr 2 0 ∧ f 9 = .isl (GB.encs e) false ∧ f 10 = .ptr 3 0 ∧ f 11 = .bool o.isSome ∧ f 13 = x3 ∧ f 14 = .ptr σ3.length 0 ∧ f 15 = .bool o.isSome ∧ f 16 = .isl (ns.map .str) false ∧ f 17 = .int .i64 (i : Int) ∧ τ = σ3 ++ [AObj.cells [.int .i64 d.kind, .int .i64 d.num, .str d.text, .isl (GV.encs d.items) false] 0 false] ∧ ∀ j, (hj : j < ns.length) → j < i → ns[j] ≠ sOther) ?_ _ _ ?_
  · rintro i f τ hi ⟨g7, g8, g9, g10, g11, g13, g14, g15, g16, g17, rfl, hnot⟩
    by_cases hlt : i < ns.length
    · have hw : IntKind.i64.wrap ((i : Int) + 1) = (i : Int) + 1 := wr64 (by omega) (by omega)
      have e1 : ns[i]? = some ns[i] := List.getElem?_eq_getElem hlt
      by_cases hn : ns[i] = sOther
      · simp [g7, g8, g9, g10, g11, g13, g14, g15, g16, g17, hlt, e1, hn, hS, enc_mk, z3, q3, setRun, -appendA_ag, -getElem?_pos, List.getElem?_append_left, List.getElem?_append_right, List.getElem?_set_ne, list_set_at, List.getElem?_cons_zero, List.getElem?_cons_succ]
      · simp [g7, g8, g9, g10, g11, g13, g14, g15, g16, g17, hlt, e1, hn, hw, setRun, -appendA_ag, -getElem?_pos, List.getElem?_append_left, List.getElem?_append_right, List.getElem?_set_ne, list_set_at, List.getElem?_cons_zero, List.getElem?_cons_succ]
        intro j hj hji
        by_cases ej : j = i
        · subst ej; exact hn
        · exact hnot j hj (by omega)
    · have hei : i = ns.length := by omega
      subst hei
      have hno : sOther ∉ ns := fun hm => by
        obtain ⟨j, hj, ej⟩ := List.getElem_of_mem hm
        exact hnot j hj hj ej
      have hb := hah hno
      rw [hb] at hE3
      obtain ⟨τ', hcl, hlen', hk'⟩ := cl3 (σ3 ++ [AObj.cells [.int .i64 d.kind, .int .i64 d.num, .str d.text, .isl (GV.encs d.items) false] 0 false]) (by rw [List.getElem?_append_left (by omega)]; exact zk)
      have hE3' := hE3 x3 (σ3 ++ [AObj.cells [.int .i64 d.kind, .int .i64 d.num, .str d.text, .isl (GV.encs d.items) false] 0 false]) τ' hcl
      rw [hd] at hE3'
      simp at hlen'
      have y3 : τ'[3]? = some (AObj.cells [.int .i64 d.kind, .int .i64 d.num, .str d.text, .isl (GV.encs d.items) false] 0 false) := by rw [hk' 3 (by omega), List.getElem?_append_left (by omega)]; exact z3
      have ya : τ'[σ3.length]? = some (AObj.cells [.int .i64 d.kind, .int .i64 d.num, .str d.text, .isl (GV.encs d.items) false] 0 false) := by rw [hk' _ (by omega)]; simp
      have r3 : 3 < τ'.length := by omega
      have ra : σ3.length < τ'.length := by omega
      have r3' : 3 < σ3.length + 1 := by omega
      simp [g7, g8, g9, g10, g11, g13, g14, g15, g16, g17, z2, q2, hE3', enc_mk, GT.enc_mk, setRun, -appendA_ag, -getElem?_pos, List.getElem?_append_left, List.getElem?_append_right, List.getElem?_set_ne, list_set_at, List.getElem?_cons_zero, List.getElem?_cons_succ]
      refine W_for T 0 127 ns.length (fun i f τ => f 7 = .bool true ∧ f 9 = .isl (GB.encs e) false ∧ f 10 = .ptr 3 0 ∧ f 11 = .bool o.isSome ∧ f 14 = .ptr σ3.length 0 ∧ f 15 = .bool o.isSome ∧ f 16 = .isl (ns.map .str) false ∧ f 18 = .ptr (σ3.length + 1) 0 ∧ f 19 = .bool o.isSome ∧ (∃ b, f 20 = .bool b ∧ (o.isSome = true → b = true)) ∧ f 21 = .int .i64 (i : Int) ∧ σ3.length + 2 ≤ τ.length ∧ τ[3]? = some (AObj.cells [.int .i64 d.kind, .int .i64 d.num, .str d.text, .isl (GV.encs d.items) false] 0 false) ∧ τ[σ3.length]? = some (AObj.cells [.int .i64 d.kind, .int .i64 d.num, .str d.text, .isl (GV.encs d.items) false] 0 false) ∧ τ[σ3.length + 1]? = some (AObj.cells [.int .i64 d.kind, .int .i64 d.num, .str d.text, .isl (GV.encs d.items) false] 0 false)) ?_ _ _ ?_
      · rintro i f τ hi ⟨g7, g9, g10, g11, g14, g15, g16, g18, g19, ⟨b, g20, hb20⟩, g21, gl, t3, ta, tb⟩
        have j3 : 3 < τ.length := by omega
        have ja : σ3.length < τ.length := by omega
        have jb : σ3.length + 1 < τ.length := by omega
        by_cases hlt : i < ns.length
        · have hw : IntKind.i64.wrap ((i : Int) + 1) = (i : Int) + 1 := wr64 (by omega) (by omega)
          have e1 : ns[i]? = some ns[i] := List.getElem?_eq_getElem hlt
          have hLi := hL ns[i]
          cases b with
          | false =>
            have hnone : o.isSome = false := by
              cases h : o.isSome with
              | false => rfl
              | true => exact absurd (hb20 h) (by simp)
            simp [g7, g9, g10, g11, g14, g15, g16, g18, g19, g20, g21, hlt, e1, hLi, hw, hnone, t3, ta, tb, j3, ja, jb, setRun, -appendA_ag, -getElem?_pos, List.getElem?_append_left, List.getElem?_append_right, List.getElem?_set_ne, list_set_at, List.getElem?_cons_zero, List.getElem?_cons_succ]
            omega
          | true =>
            have hbb : o.isSome = true → (lookupV e ns[i]).isSome = true := fun h => by
              obtain ⟨v, hv⟩ := Option.isSome_iff_exists.1 h
              exact hall v hv _ (List.getElem_mem hlt)
            simp [g7, g9, g10, g11, g14, g15, g16, g18, g19, g20, g21, hlt, e1, hLi, hw, t3, ta, tb, j3, ja, jb, setRun, -appendA_ag, -getElem?_pos, List.getElem?_append_left, List.getElem?_append_right, List.getElem?_set_ne, list_set_at, List.getElem?_cons_zero, List.getElem?_cons_succ]
            refine ⟨?_, by omega⟩
            cases hl : lookupV e ns[i] with
            | some _ => exact .inr rfl
            | none =>
              refine .inl ⟨rfl, ?_⟩
              cases ho3 : o with
              | none => rfl
              | some v =>
                have := hbb (by rw [ho3]; rfl)
                rw [hl] at this; cases this
        · have hei : i = ns.length := by omega
          cases ho2 : o.isSome with
          | true =>
            have hb1 := hb20 ho2
            subst hb1
            simp [g7, g9, g10, g11, g14, g15, g16, g18, g19, g20, g21, hei, ho2, hS, enc_mk, t3, ta, tb, j3, ja, jb, setRun, -appendA_ag, -getElem?_pos, List.getElem?_append_left, List.getElem?_append_right, List.getElem?_set_ne, list_set_at, List.getElem?_cons_zero, List.getElem?_cons_succ]
          | false =>
            cases b <;> simp [g7, g9, g10, g11, g14, g15, g16, g18, g19, g20, g21, hei, ho2, hS, enc_mk, t3, ta, tb, j3, ja, jb, setRun, -appendA_ag, -getElem?_pos, List.getElem?_append_left, List.getElem?_append_right, List.getElem?_set_ne, list_set_at, List.getElem?_cons_zero, List.getElem?_cons_succ]
      · simp [g7, g9, g10, g11, g14, g15, g16, y3, ya, r3', hlen', -appendA_ag, -getElem?_pos, List.getElem?_append_left, List.getElem?_append_right, List.getElem?_set_ne, list_set_at, List.getElem?_cons_zero, List.getElem?_cons_succ]
  · simp
end Go.Proofs.Ytddmjmkbnfoodaa
end
