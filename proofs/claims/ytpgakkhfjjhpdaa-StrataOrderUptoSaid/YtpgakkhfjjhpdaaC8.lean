import Derived.Test.YtpgakkhfjjhpdaaC7
import Derived.Test.YtpgakkhfjjhpdaaC6
set_option linter.unusedVariables false
set_option linter.unusedSimpArgs false
set_option linter.unnecessarySimpa false
section
set_option maxRecDepth 100000
namespace Go.Proofs.Ytpgakkhfjjhpdaa
open Go.Mach
theorem least_of {P : Nat → Prop} : ∀ n, P n → ∃ m, P m ∧ ∀ k, P k → m ≤ k := by
  intro n
  induction n using Nat.strongRecOn with
  | ind n ih =>
    intro h
    by_cases hk : ∃ k, k < n ∧ P k
    · obtain ⟨k, hlt, hp⟩ := hk
      exact ih k hlt hp
    · exact ⟨n, h, fun k hp => Nat.le_of_not_lt fun hlt => hk ⟨k, hlt, hp⟩⟩
theorem Ans.ex {E : List ED} {n : Nat} (hE : ∀ e ∈ E, e.head < n ∧ e.on < n) : ∃ o, Ans E n o := by
  by_cases h : ∃ s, Sol E s ∧ ∀ i, s i ≤ n
  · obtain ⟨s0, hs0, hb0⟩ := h
    have hm : ∀ i, ∃ m, (∃ s, (Sol E s ∧ ∀ i, s i ≤ n) ∧ s i = m) ∧ ∀ k, (∃ s, (Sol E s ∧ ∀ i, s i ≤ n) ∧ s i = k) → m ≤ k := fun i => least_of _ ⟨s0, ⟨hs0, hb0⟩, rfl⟩
    let m : Nat → Nat := fun i => Classical.choose (hm i)
    have h1 : ∀ i, ∃ s, (Sol E s ∧ ∀ i, s i ≤ n) ∧ s i = m i := fun i => (Classical.choose_spec (hm i)).1
    have h2 : ∀ i s, Sol E s → (∀ i, s i ≤ n) → m i ≤ s i := fun i s hs hb => (Classical.choose_spec (hm i)).2 _ ⟨s, ⟨hs, hb⟩, rfl⟩
    have hg : ∀ i, i < n → gN ((List.range n).map m) i = m i := fun i hi => by
      unfold gN; simp [hi]
    refine ⟨some ((List.range n).map m), by simp, fun e he => ?_, fun i => ?_, fun s hs i => ?_⟩
    · obtain ⟨he1, he2⟩ := hE e he
      rw [hg _ he1, hg _ he2]
      obtain ⟨s, ⟨hs, hb⟩, e1⟩ := h1 e.head
      have := hs e he
      have := h2 e.on s hs hb
      omega
    · by_cases hi : i < n
      · rw [hg i hi]
        obtain ⟨s, ⟨_, hb⟩, e1⟩ := h1 i
        have := hb i
        omega
      · rw [gN_ge (by simp; omega)]; omega
    · by_cases hi : i < n
      · rw [hg i hi]
        have hmin : Sol E fun i => min (s i) (s0 i) := fun e he => by
          have a := hs e he
          have b := hs0 e he
          show min (s e.on) (s0 e.on) + e.up ≤ min (s e.head) (s0 e.head)
          omega
        have := h2 i _ hmin fun i => by have := hb0 i; show min (s i) (s0 i) ≤ n; omega
        have h3 : min (s i) (s0 i) ≤ s i := by omega
        omega
      · rw [gN_ge (by simp; omega)]; omega
  · exact ⟨none, h⟩
open Classical in
noncomputable def ansE (E : List ED) (n : Nat) : Option (List Nat) := if h : ∃ o, Ans E n o then Classical.choose h else none
theorem ansE_ans {E : List ED} {n : Nat} (hE : ∀ e ∈ E, e.head < n ∧ e.on < n) : Ans E n (ansE E n) := by
  have h := Ans.ex hE
  unfold ansE
  rw [dif_pos h]
  exact Classical.choose_spec h
theorem ansE_eq {E : List ED} {n : Nat} {o : Option (List Nat)} (ho : Ans E n o) : ansE E n = o := by
  have h : ∃ o, Ans E n o := ⟨o, ho⟩
  unfold ansE
  rw [dif_pos h]
  exact (Classical.choose_spec h).unique ho
def encN8 (l : List Nat) : List AV := l.map fun (n : Nat) => .int .i64 (n : Int)
def natA : AV → Nat
  | .int _ n => n.toNat
  | _ => 0
theorem natA_enc (l : List Nat) : (encN8 l).map natA = l := by
  unfold encN8; rw [List.map_map]; conv => rhs; rw [← List.map_id l]
  rfl
theorem encN8_len (l : List Nat) : (encN8 l).length = l.length := by simp [encN8]
theorem encN8_set (l : List Nat) (i v : Nat) : (encN8 l).set i (.int .i64 (v : Int)) = encN8 (l.set i v) := by simp [encN8, List.map_set]
theorem encN8_win {l : List Nat} {i : Nat} (h : i < l.length) : window (encN8 l) i 1 = some [.int .i64 (gN l i : Int)] := by
  unfold window
  rw [if_pos (by rw [encN8_len]; omega)]
  congr 1
  apply List.ext_getElem?
  intro j
  rw [List.getElem?_take, List.getElem?_drop]
  cases j with
  | zero => simp [encN8, h, gN]
  | succ j => simp
def mu8 (n : Nat) (σ : Heap) : Nat := match σ[1]? with
  | some (AObj.cells cs _ _) => left n (cs.map natA)
  | _ => 0
def resO : Option (List Nat) → AV
  | none => .tup [.isl [] false, .int .i64 80]
  | some l => .tup [.isl (encN8 l) false, .int .i64 0]
noncomputable def resS (p : GP) : AV := if (checkP p).1 ≠ 0 then .tup [.isl [] false, .int .i64 (checkP p).1] else resO (ansE (edgesP p) p.decls.length)
def scpC : ACode → ACode
  | .scope _ _ r => r
  | c => c
def scpA : ACode → ACode
  | .scope a _ _ => a
  | c => c
abbrev SR : ACode := scpC (sndC c10.body)
abbrev SL : ACode := sndC SR
abbrev SA : ACode := scpA (sndC c10.body)
def InvS (E : List ED) (n : Nat) (f : FR) (σ : Heap) : Prop := f 6 = .isl (E.map encE) false ∧ f 7 = .sl 1 0 n 1 false ∧ 2 ≤ σ.length ∧ ∃ l, σ[1]? = some (.cells (encN8 l) 0 false) ∧ l.length = n ∧ Low E l ∧ ∀ i, gN l i ≤ n
theorem close_ints {σ : Heap} {id n : Nat} {l : List Nat} (h : σ[id]? = some (.cells (encN8 l) 0 false)) (hn : l.length = n) : ∃ σ', closeA σ (.sl id 0 n 1 false) = some (.isl (encN8 l) false, σ') := by
  have hw : window (encN8 l) 0 (n * 1) = some (encN8 l) := window_full (by rw [encN8_len]; omega)
  have hall : (encN8 l).all AV.clo1 = true := by simp [encN8, AV.clo1]
  have hnr : (encN8 l).map AV.nrm = encN8 l := by simp [encN8, AV.nrm]
  have hch : chunk 1 false n (encN8 l) = some (encN8 l) := by rw [← hn, ← encN8_len l]; exact chunk_one _
  by_cases h0 : n = 0
  · subst h0
    have : l = [] := List.eq_nil_of_length_eq_zero hn
    subst this
    exact ⟨σ, (close1_of0 (r := (.isl [] false, σ)) (σ := σ) (v := .sl id 0 0 1 false) rfl)⟩
  · exact ⟨_, close1_of0 (r := (.isl (encN8 l) false, frz σ id (0 + n * 1))) (by simp only [close0, if_neg h0, h, hw, Option.bind_some, hall, if_true, hnr, hch, Option.map_some])⟩
theorem str_loop (E : List ED) (n : Nat) (hE : ∀ e ∈ E, e.head < n ∧ e.on < n ∧ e.up ≤ 1) (hn : n ≤ 1000000) (hEl : E.length ≤ 100000000) (J : FR → Heap → Prop) (f : FR) (σ : Heap) (hI : InvS E n f σ) (hJ : ∀ f' σ', mu8 n σ' < mu8 n σ → InvS E n f' σ' → J f' σ') :
    wpK T 0 59 [.code SL] f σ (gotoW T 0 59 0 [] (endP 59 [.tmp 2, .tmp 3] (resO (ansE E n))) J) := by
  obtain ⟨h6, h7, hN, l, hσ, hl, hlow, hle⟩ := hI
  have hmu : mu8 n σ = left n l := by unfold mu8; rw [hσ]; simp only [natA_enc]
  simp [SL, SR, c10, sndC, scpC, h6]
  refine W_for T 0 59 E.length (fun i g τ => g 6 = .isl (E.map encE) false ∧ g 7 = .sl 1 0 n 1 false ∧ g 25 = .isl (E.map encE) false ∧ g 26 = .int .i64 (E.length : Int) ∧ g 27 = .int .i64 (i : Int) ∧ 2 ≤ τ.length ∧ τ[1]? = some (.cells (encN8 l) 0 false) ∧ ∀ j, (hj : j < E.length) → j < i → gN l E[j].on + E[j].up ≤ gN l E[j].head) ?_ _ _ ?_
  · rintro i g τ hi ⟨g6, g7, g25, g26, g27, gN', gσ, hall⟩
    by_cases hlt : i < E.length
    · have hw : IntKind.i64.wrap ((i : Int) + 1) = (i : Int) + 1 := wr64 (by omega) (by omega)
      have e0 : E[i]? = some E[i] := List.getElem?_eq_getElem hlt
      have hem := List.getElem_mem hlt
      have hlast : ∀ e, e = E[i] → gN l e.on + e.up ≤ gN l e.head → ∀ j, (hj : j < E.length) → j < i + 1 → gN l E[j].on + E[j].up ≤ gN l E[j].head := by
        rintro e rfl h j hj hji
        by_cases hje : j = i
        · subst hje; exact h
        · exact hall j hj (by omega)
      obtain ⟨b1, b2, b3⟩ := hE _ hem
      have hset : Low E (l.set E[i].head (gN l E[i].on + E[i].up)) := low_set hlow hem (by omega)
      have hfail := fun h => low_fail (n := n) hlow hem h
      generalize he : E[i] = e at *
      have hlast := hlast e rfl
      have hb := hle e.on
      have hadd : IntKind.i64.wrap ((gN l e.on : Int) + (e.up : Int)) = (gN l e.on : Int) + (e.up : Int) := by rw [wr64 (by omega) (by omega)]
      have b1' : e.head + 1 ≤ n := by omega
      have hw1 : window (encN8 l) e.on 1 = some [.int .i64 (gN l e.on : Int)] := encN8_win (by omega)
      have hw2 : window (encN8 l) e.head 1 = some [.int .i64 (gN l e.head : Int)] := encN8_win (by omega)
      have n1 : 1 < τ.length := by omega
      by_cases hle2 : gN l e.on + e.up ≤ gN l e.head
      · have hle3 : ((gN l e.on : Int) + (e.up : Int)) ≤ (gN l e.head : Int) := by omega
        simp [-getElem?_pos, List.getElem?_append_left, List.getElem?_append_right, List.getElem?_cons_zero, List.getElem?_cons_succ, list_set_at, g6, g7, g25, g26, g27, hlt, e0, encE, setRun, n1, gσ, b1, b2, hw1, hw2, hadd, hle3, hw]
        exact ⟨by omega, hlast hle2⟩
      · have hle3 : ¬ (((gN l e.on : Int) + (e.up : Int)) ≤ (gN l e.head : Int)) := by omega
        by_cases hbig : n < gN l e.on + e.up
        · have hbig2 : (n : Int) < ((gN l e.on : Int) + (e.up : Int)) := by omega
          have ha : ansE E n = none := ansE_eq (hfail hbig)
          rw [ha]
          simp [-getElem?_pos, List.getElem?_append_left, List.getElem?_append_right, List.getElem?_cons_zero, List.getElem?_cons_succ, list_set_at, g6, g7, g25, g26, g27, hlt, e0, encE, setRun, n1, gσ, b1, b2, hw1, hw2, hadd, hle3, hbig2, resO, endP, res1]
          done
        · have hbig2 : ¬ ((n : Int) < ((gN l e.on : Int) + (e.up : Int))) := by omega
          simp [-getElem?_pos, List.getElem?_append_left, List.getElem?_append_right, List.getElem?_cons_zero, List.getElem?_cons_succ, list_set_at, g6, g7, g25, g26, g27, hlt, e0, encE, setRun, n1, gσ, b1, b2, hw1, hw2, hadd, hle3, hbig2, encN8_len, hl, b1']
          have hl2 : e.head < l.length := by omega
          have hs : (encN8 l).set e.head (.int .i64 ((gN l e.on : Int) + (e.up : Int))) = encN8 (l.set e.head (gN l e.on + e.up)) := by
            rw [← encN8_set]; congr 2
          rw [hs]
          refine hJ _ _ ?_ ⟨by simp [g6], by simp [g7], by simp; omega, l.set e.head (gN l e.on + e.up), ?_, by simp [hl], hset, fun i => ?_⟩
          · rw [hmu]
            unfold mu8
            rw [List.getElem?_append_left (by simp; omega), list_set_at n1]
            simp only [natA_enc]
            exact left_set hl2 (by omega) (by omega)
          · rw [List.getElem?_append_left (by simp; omega), list_set_at n1]
          · rw [gN_set hl2]
            split
            · omega
            · exact hle i
    · have hei : i = E.length := by omega
      have ha : ansE E n = some l := ansE_eq ⟨hl, fun e he => by obtain ⟨j, hj, rfl⟩ := List.getElem_of_mem he; exact hall j hj (by omega), hle, hlow⟩
      obtain ⟨σ2, hcl⟩ := close_ints gσ hl
      rw [ha]
      simp [g6, g7, g25, g26, g27, hlt, resO, endP, res1, hcl]
      done
  · simp [h6, h7, hN, hσ]
theorem callEdges (p : GP) (hc : ChkOk p) (hp : p.size ≤ 1000000000) (bs : Nat) (σ : Heap) : callT T 21 [p.enc] bs σ = some (.isl ((edgesP p).map encE) false, σ) := call_clean rfl rfl rfl (by simp) (edges_ok p hc hp)
theorem strata_ok (p : GP) (hp : p.size ≤ 1000000000) : pureT T c10 [p.enc] = some (resS p) := by
  have hck := callCheck p hp
  have hld := GP.decls_len p
  simp only [GP.enc_eq] at hck
  obtain ⟨⟨e, m⟩, hen⟩ : ∃ x, checkP p = x := ⟨_, rfl⟩
  unfold resS
  rw [hen] at hck ⊢
  apply pure_enter (by simp [c10])
  show wpK T 0 59 [.code c10.body] _ [] (endP 59 [.tmp 2, .tmp 3] _)
  have hb : c10.body = .seq (fstC c10.body) (.scope (.seq (fstC SA) (.seq (fstC (sndC SA)) (.seq (fstC (sndC (sndC SA))) (.seq (.lab 0) SL)))) 0 (.seq .skip SL)) := rfl
  rw [hb]
  by_cases h0 : e = 0
  · subst h0
    have hc : ChkOk p := chk_ok (by rw [hen])
    have hE : ∀ e ∈ edgesP p, e.head < p.decls.length ∧ e.on < p.decls.length ∧ e.up ≤ 1 := fun e he => edge_lt hc he
    have hd64 : p.decls.length ≤ 64 := by
      have h := hc.prog
      unfold progB at h
      simp only [Bool.and_eq_true, decide_eq_true_eq] at h
      exact h.1.1.1.1
    have hEl : (edgesP p).length ≤ 100000000 := by
      have h := hc.prog
      unfold progB at h
      simp only [Bool.and_eq_true, decide_eq_true_eq, List.all_eq_true] at h
      have h8 : ∀ r ∈ p.rules, r.body.length ≤ 8 := fun r hr => by
        have := h.1.2 r hr
        unfold ruleB at this
        simp only [Bool.and_eq_true, decide_eq_true_eq] at this
        omega
      have h1 := accE_len h8 p.rules.length ⟨⟨#[]⟩, ⟨#[]⟩, [], ⟨#[]⟩, 0, []⟩ 0 (by simp)
      have h2 : accE p p.rules.length ⟨⟨#[]⟩, ⟨#[]⟩, [], ⟨#[]⟩, 0, []⟩ 0 = edgesP p := by unfold accE edgesP; rw [List.take_length]; simp
      rw [h2] at h1
      have := h.1.1.1.2.2
      omega
    have hcall := callEdges p hc hp
    simp only [GP.enc_eq] at hcall
    rw [if_neg (by simp)]
    have loop := fun J f σ => str_loop (edgesP p) p.decls.length hE (by omega) hEl J f σ
    generalize edgesP p = E at *
    generalize SL = K at loop
    simp [SA, c10, fstC, sndC, scpA]
    refine W_scope T 0 59 (InvS E p.decls.length) (fun _ σ => mu8 p.decls.length σ) (fun f σ hI => ?_) _ _ ?_
    · simp
      exact loop _ f σ hI fun f' σ' h1 h2 => ⟨h1, h2⟩
    · simp [hck, hcall, GP.enc_eq, show (p.decls.length : Int) * 8 ≤ 70368744177664 by omega, show (p.decls.length : Int) ≤ 70368744177664 by omega]
      refine loop _ _ _ ⟨by simp, by simp, by simp, List.replicate p.decls.length 0, by simp [encN8], by simp, low_zero _ _, fun i => ?_⟩ fun f' σ' _ h => h
      unfold gN
      by_cases hi : i < p.decls.length
      · simp [hi]
      · rw [List.getElem?_eq_none (by simp; omega)]; simp
  · simp [SA, c10, fstC, sndC, scpA, h0]
    refine W_scope T 0 59 (fun _ _ => False) (fun _ _ => 0) (fun f σ hI => hI.elim) _ _ ?_
    simp [hck, h0, GP.enc_eq, endP, res1]
    done
theorem callStrata (p : GP) (hp : p.size ≤ 1000000000) (bs : Nat) (σ : Heap) : callT T 10 [p.enc] bs σ = some (resS p, σ) := call_clean rfl rfl rfl (by simp) (strata_ok p hp)
end Go.Proofs.Ytpgakkhfjjhpdaa
end
section
set_option maxRecDepth 100000
namespace Go.Proofs.Ytpgakkhfjjhpdaa
open Go.Mach
noncomputable def numsP (p : GP) : Option (List Nat) := if (checkP p).1 ≠ 0 then none else ansE (edgesP p) p.decls.length
def inS (p : GP) (s : List Nat) (n : Int) (r : GR) : Bool := decide ((gN s (atP p.decls r.head) : Int) = n)
noncomputable def rulesP (p : GP) (n : Int) : List GR := match numsP p with
  | none => []
  | some s => p.rules.filter (inS p s n)
theorem rules8_ok (p : GP) (hp : p.size ≤ 1000000000) (n : Int) : pureT T c15 [p.enc, .int .i64 n] = some (.isl ((rulesP p n).map GR.enc) false) := by
  have hs := callStrata p hp
  have hlr := GP.rules_len p
  have hld := GP.decls_len p
  simp only [GP.enc_eq] at hs
  apply pure_enter (by simp [c15])
  by_cases h0 : (checkP p).1 = 0
  · have hc := chk_ok h0
    have hE : ∀ e ∈ edgesP p, e.head < p.decls.length ∧ e.on < p.decls.length := fun e he => ⟨(edge_lt hc he).1, (edge_lt hc he).2.1⟩
    have hr1 : resS p = resO (ansE (edgesP p) p.decls.length) := by unfold resS; rw [if_neg (by simpa using h0)]
    have hr2 : numsP p = ansE (edgesP p) p.decls.length := by unfold numsP; rw [if_neg (by simpa using h0)]
    have hA := ansE_ans hE
    rw [hr1] at hs
    cases ho : ansE (edgesP p) p.decls.length with
    | none =>
      have hrp : rulesP p n = [] := by unfold rulesP; rw [hr2, ho]
      rw [ho] at hs
      rw [hrp]
      simp [c15, hs, GP.enc_eq, resO]
    | some s =>
      have hrp : rulesP p n = p.rules.filter (inS p s n) := by unfold rulesP; rw [hr2, ho]
      rw [ho] at hs hA
      rw [hrp]
      obtain ⟨hlen, _, _, _⟩ := hA
      obtain ⟨⟨v, σ1⟩, hcall, hv, hl1, hk1, hm1⟩ := numbers_call p hc.dup (by omega) 0 [.cells [.isl (p.decls.map GD.enc) false, .isl (p.facts.map GU.enc) false, .isl (p.rules.map GR.enc) false] 0 false] (by simp)
      simp only [List.length_singleton] at hv hl1 hk1 hm1
      subst hv
      have h01 := hk1 0 (by omega)
      simp only [GP.enc_eq] at hcall
      simp [c15, hs, hcall, GP.enc_eq, h01, resO]
      refine W_for T 0 40 p.rules.length (fun i f τ => f 1 = .int .i64 n ∧ f 5 = .isl (encN8 s) false ∧ f 7 = .map 2 ∧ f 20 = .isl (p.rules.map GR.enc) false ∧ f 21 = .int .i64 (p.rules.length : Int) ∧ f 22 = .int .i64 (i : Int) ∧ 3 ≤ τ.length ∧ τ[2]? = some (.mp (encI (numP p.decls))) ∧ LX 3 6 τ (((p.rules.take i).filter (inS p s n)).map GR.enc) (f 4)) ?_ _ _ ?_
      · rintro i f τ hi ⟨h1, h5, h7, h20, h21, h22, hN, hm, hX⟩
        by_cases hlt : i < p.rules.length
        · have hw : IntKind.i64.wrap ((i : Int) + 1) = (i : Int) + 1 := wr64 (by omega) (by omega)
          have e0 : p.rules[i]? = some p.rules[i] := List.getElem?_eq_getElem hlt
          have hrm := List.getElem_mem hlt
          have hhd := look_at (hc.head _ hrm)
          have hlt2 := hc.head _ hrm
          have hstep : (p.rules.take (i + 1)).filter (inS p s n) = (p.rules.take i).filter (inS p s n) ++ (if inS p s n p.rules[i] = true then [p.rules[i]] else []) := by
            rw [List.take_succ_eq_append_getElem hlt, List.filter_append]
            congr 1
            rw [List.filter_cons, List.filter_nil]
          have hfl : ((p.rules.take i).filter (inS p s n)).length ≤ p.rules.length := by
            have h1 := List.length_filter_le (inS p s n) (p.rules.take i)
            have h2 : (p.rules.take i).length ≤ p.rules.length := by simp; omega
            omega
          rw [hstep]
          generalize p.rules[i] = r at *
          have hlk : ∀ o a, mlookA (τ ++ [o]) false [2] (.int .i64 0) false (.map 2) (.str a) = some (.int .i64 ((lookI (numP p.decls) a).getD 0 : Nat)) := fun o a => mlook_i (by rw [List.getElem?_append_left (by omega)]; exact hm) a
          have hidx : (encN8 s)[atP p.decls r.head]? = some (.int .i64 (gN s (atP p.decls r.head) : Int)) := by
            simp [encN8, gN, hlt2, hlen]
          have n2 : 2 < τ.length := by omega
          by_cases hin : (gN s (atP p.decls r.head) : Int) = n
          · have hin' : inS p s n r = true := by simp [inS, hin]
            rw [if_pos hin']
            simp [-getElem?_pos, -appendA_ag, List.getElem?_append_left, List.getElem?_append_right, List.getElem?_cons_zero, List.getElem?_cons_succ, list_set_at, h1, h5, h7, h20, h21, h22, hlt, e0, GR.enc_eq, setRun, hlk, hhd, hidx, hin]
            refine stW_app2T (N := 3) hX rfl rfl (by omega) (by omega) hN (by simp; omega) fun x1 τ1 hO1 l1 q4 => ?_
            have r2 := q4 2 _ hm (.inl (by omega))
            simp [h1, h5, h7, h20, h21, h22, hw, r2]
            exact ⟨by omega, by simpa [GR.enc_eq] using hO1.toLX⟩
          · have hin' : ¬ inS p s n r = true := by simp [inS, hin]
            rw [if_neg hin']
            simp [-getElem?_pos, -appendA_ag, List.getElem?_append_left, List.getElem?_append_right, List.getElem?_cons_zero, List.getElem?_cons_succ, list_set_at, h1, h5, h7, h20, h21, h22, hlt, e0, GR.enc_eq, setRun, hlk, hhd, hidx, hin, hw]
            exact ⟨by omega, by rw [List.getElem?_append_left n2]; exact hm, hX.app _⟩
        · have he : i = p.rules.length := by omega
          subst he
          rw [List.take_length] at hX
          obtain ⟨σ2, hcl⟩ := LX_closeR hX
          simp [h1, h5, h7, h20, h21, h22, hcl]
      · simp
        exact ⟨by omega, hm1, .inl ⟨rfl, rfl⟩⟩
  · have hrp : rulesP p n = [] := by unfold rulesP numsP; rw [if_pos (by simpa using h0)]
    have hr1 : resS p = .tup [.isl [] false, .int .i64 (checkP p).1] := by unfold resS; rw [if_pos (by simpa using h0)]
    rw [hr1] at hs
    rw [hrp]
    simp [c15, hs, GP.enc_eq, h0]
end Go.Proofs.Ytpgakkhfjjhpdaa
end
section
set_option maxRecDepth 100000
namespace Go.Proofs.Ytpgakkhfjjhpdaa
open Go.Mach
theorem pick8_ok (c n : Int) (h : n ≠ 0) : pureT T c12 [.int .i64 c, .int .i64 n] = some (.int .i64 ((if c < 0 then IntKind.i64.wrap (0 - IntKind.i64.wrap (c + 1)) else c).tmod n)) := by
  apply pure_enter (by simp [c12])
  by_cases hc : c < 0
  · simp [c12, hc, h]
  · simp [c12, hc, h]
theorem pick8 (c : Int) (n : Nat) (h : 0 < n) (h1 : GV.i64ok c) (bs : Nat) (σ : Heap) :
    callT T 12 [.int .i64 c, .int .i64 (n : Int)] bs σ = some (.int .i64 (pickN c n : Int), σ) := by
  refine call_clean rfl rfl rfl rfl ?_
  rw [pick8_ok c n (by omega), pick_eq c n h h1.1 h1.2]
theorem ints_ok (a b : List Nat) (ha : a.length ≤ 100000000) (hb : b.length ≤ 100000000) : pureT T c13 [.isl (encN8 a) false, .isl (encN8 b) false] = some (.bool (decide (a = b))) := by
  apply pure_enter (by simp [c13])
  by_cases hl : a.length = b.length
  · obtain ⟨n, hn⟩ : ∃ n, b.length = n := ⟨_, rfl⟩
    rw [hn] at hl
    simp [c13, encN8_len, hl, hn]
    refine W_for T 0 26 n (fun i f σ => f 0 = .isl (encN8 a) false ∧ f 1 = .isl (encN8 b) false ∧ f 5 = .int .i64 (i : Int) ∧ ∀ j, (hj : j < a.length) → (hj2 : j < b.length) → j < i → a[j] = b[j]) ?_ _ _ ?_
    · rintro i f σ hi ⟨h0, h1, h5, hall⟩
      by_cases hlt : i < n
      · have hw : IntKind.i64.wrap ((i : Int) + 1) = (i : Int) + 1 := wr64 (by omega) (by omega)
        have hlta : i < a.length := by omega
        have hltb : i < b.length := by omega
        have e1 : (encN8 a)[i]? = some (.int .i64 (a[i] : Int)) := by simp [encN8, hlta]
        have e2 : (encN8 b)[i]? = some (.int .i64 (b[i] : Int)) := by simp [encN8, hltb]
        by_cases he : a[i] = b[i]
        · have he' : (a[i] : Int) = (b[i] : Int) := by omega
          rw [he'] at e1
          simp [-getElem?_pos, h0, h1, h5, encN8_len, hlt, e1, e2, hw, hl]
          refine fun j hj hj2 hji => ?_
          by_cases hje : j = i
          · subst hje; exact he
          · exact hall j (by omega) hj2 (by omega)
        · have he' : ¬ (a[i] : Int) = (b[i] : Int) := by omega
          have hne : a ≠ b := fun h => he (by subst h; rfl)
          simp [-getElem?_pos, h0, h1, h5, encN8_len, hlt, e1, e2, he, he', hne, hl]
      · have heq : a = b := List.ext_getElem (by omega) fun j h1 h2 => hall j h1 h2 (by omega)
        simp [h0, h1, h5, encN8_len, hlt, heq, hn]
    · simp
  · have hne : a ≠ b := fun h => hl (by rw [h])
    have hl' : ¬ (a.length : Int) = (b.length : Int) := by omega
    simp [c13, encN8_len, hl', hne]
theorem callInts (a b : List Nat) (ha : a.length ≤ 100000000) (hb : b.length ≤ 100000000) (bs : Nat) (σ : Heap) : callT T 13 [.isl (encN8 a) false, .isl (encN8 b) false] bs σ = some (.bool (sym (decide (a = b))), σ) := call_clean rfl rfl rfl (by simp) (ints_ok a b ha hb)
theorem index_eval : ∀ d ∈ relsD.map GD.name, evalFn T 50 22 [.str d] 0 [] = some (.int .i64 (atP relsD d : Int), []) := by
  intro d hd
  simp only [relsD, List.map_cons, List.map_nil, List.mem_cons, List.not_mem_nil, or_false] at hd
  rcases hd with rfl | rfl | rfl | rfl | rfl | rfl <;> kernel_rfl
theorem callIndex (n : ByteArray) (h : atP relsD n < 6) (bs : Nat) (σ : Heap) : callT T 22 [.str n] bs σ = some (.int .i64 (atP relsD n : Int), σ) := by
  have hm : n ∈ relsD.map GD.name := by
    unfold atP at h
    obtain ⟨d, hd, hn⟩ := List.findIdx_lt_length.1 (show relsD.findIdx (fun d => decide (d.name = n)) < relsD.length from h)
    exact List.mem_map.2 ⟨d, hd, by simpa using hn⟩
  exact call_clean rfl rfl rfl (by simp) (pureT_of_call rfl rfl rfl rfl (callT_of_eval (index_eval n hm)))
def encM (A : Mx) : List AV := (List.range 36).map fun n => .bool (A (n / 6) (n % 6))
theorem encM_len (A : Mx) : (encM A).length = 36 := by simp [encM]
theorem encM_get (A : Mx) {i j : Nat} (hi : i < 6) (hj : j < 6) : (encM A)[i * 6 + j]? = some (.bool (A i j)) := by
  have h : i * 6 + j < 36 := by omega
  unfold encM
  rw [List.getElem?_map, List.getElem?_range h]
  have e1 : (i * 6 + j) / 6 = i := by omega
  have e2 : (i * 6 + j) % 6 = j := by omega
  simp [e1, e2]
theorem encM_win (A : Mx) {i j : Nat} (hi : i < 6) (hj : j < 6) : window (encM A) (i * 6 + j) 1 = some [.bool (A i j)] := by
  have h := encM_get A hi hj
  have hlt : i * 6 + j < (encM A).length := by rw [encM_len]; omega
  unfold window
  rw [if_pos (by omega)]
  rw [List.drop_eq_getElem_cons hlt]
  rw [List.getElem?_eq_getElem hlt] at h
  injection h with h
  rw [h]; rfl
theorem encM_set (A : Mx) {i j : Nat} (hi : i < 6) (hj : j < 6) (b : Bool) : (encM A).set (i * 6 + j) (.bool b) = encM (upM A i j b) := by
  apply List.ext_getElem?
  intro m
  rw [List.getElem?_set]
  split
  · rename_i e; subst e
    rw [encM_len, if_pos (by omega), encM_get _ hi hj]
    simp [upM]
  · rename_i e
    unfold encM
    by_cases hm : m < 36
    · rw [List.getElem?_map, List.getElem?_map, List.getElem?_range hm]
      have : ¬ (m / 6 = i ∧ m % 6 = j) := fun h => e (by omega)
      simp [upM, this]
    · rw [List.getElem?_map, List.getElem?_map]
      simp [hm]
def mxA (E : List ED) : Mx := fun x y => E.any fun e => decide (e.head = x) && decide (e.on = y)
def mxS (E : List ED) : Mx := fun x y => E.any fun e => decide (e.head = x) && decide (e.on = y) && decide (e.up = 1)
theorem mxA_snoc (E : List ED) (e : ED) : mxA (E ++ [e]) = upM (mxA E) e.head e.on true := by
  funext x y
  simp only [mxA, upM, List.any_append, List.any_cons, List.any_nil, Bool.or_false]
  by_cases h : x = e.head ∧ y = e.on
  · rw [if_pos h, h.1, h.2]; simp
  · rw [if_neg h]
    have : (decide (e.head = x) && decide (e.on = y)) = false := by
      rw [← Bool.not_eq_true, Bool.and_eq_true, decide_eq_true_eq, decide_eq_true_eq]
      exact fun q => h ⟨q.1.symm, q.2.symm⟩
    rw [this, Bool.or_false]
theorem mxS_snoc (E : List ED) (e : ED) : mxS (E ++ [e]) = upM (mxS E) e.head e.on (mxS E e.head e.on || decide (e.up = 1)) := by
  funext x y
  simp only [mxS, upM, List.any_append, List.any_cons, List.any_nil, Bool.or_false]
  by_cases h : x = e.head ∧ y = e.on
  · rw [if_pos h, h.1, h.2]; simp
  · rw [if_neg h]
    have : (decide (e.head = x) && decide (e.on = y) && decide (e.up = 1)) = false := by
      rw [← Bool.not_eq_true, Bool.and_eq_true, Bool.and_eq_true, decide_eq_true_eq, decide_eq_true_eq]
      exact fun q => h ⟨q.1.1.symm, q.1.2.symm⟩
    rw [this, Bool.or_false]
def hangE (E : List ED) : MM := hangM ⟨mxA E, mxS E⟩
theorem hangE_ok {E : List ED} (hE : ∀ e ∈ E, e.head < 6 ∧ e.on < 6 ∧ e.up ≤ 1) : HgOk E (hangE E) := by
  refine hang_ok (fun s hs x y => ⟨fun h => ?_, fun h => ?_⟩) (fun e he => ⟨?_, fun h => ?_⟩) fun x y _ _ h => ?_
  · simp only [mxA, List.any_eq_true, Bool.and_eq_true, decide_eq_true_eq] at h
    obtain ⟨e, he, rfl, rfl⟩ := h
    have := hs e he; omega
  · simp only [mxS, List.any_eq_true, Bool.and_eq_true, decide_eq_true_eq] at h
    obtain ⟨e, he, ⟨rfl, rfl⟩, h1⟩ := h
    have := hs e he; omega
  · simp only [mxA, List.any_eq_true, Bool.and_eq_true, decide_eq_true_eq]
    exact ⟨e, he, rfl, rfl⟩
  · simp only [mxS, List.any_eq_true, Bool.and_eq_true, decide_eq_true_eq]
    exact ⟨e, he, ⟨rfl, rfl⟩, h⟩
  · simp only [mxA, mxS, List.any_eq_true, Bool.and_eq_true, decide_eq_true_eq] at h ⊢
    obtain ⟨e, he, h1, _⟩ := h
    exact ⟨e, he, h1⟩
end Go.Proofs.Ytpgakkhfjjhpdaa
end
section
set_option maxRecDepth 100000
namespace Go.Proofs.Ytpgakkhfjjhpdaa
open Go.Mach
abbrev HB : ACode := c11.body
abbrev H3 : ACode := sndC (sndC (sndC HB))
abbrev H4 : ACode := sndC H3
abbrev H5 : ACode := sndC H4
abbrev H6 : ACode := sndC H5
def zM : Mx := fun _ _ => false
def HInv (M : MM) (f : FR) (σ : Heap) : Prop := f 2 = .ptr 1 0 ∧ f 3 = .ptr 2 0 ∧ f 4 = .ptr 3 0 ∧ f 5 = .ptr 4 0 ∧ 5 ≤ σ.length ∧ σ[1]? = some (.cells (encM zM) 0 false) ∧ σ[2]? = some (.cells (encM zM) 0 false) ∧ σ[3]? = some (.cells (encM M.any) 0 false) ∧ σ[4]? = some (.cells (encM M.str) 0 false)
set_option maxHeartbeats 2000000 in
theorem hang_p1 (M0 : MM) (Q : AExit → FR → Heap → Prop) (K : ACode) (f : FR) (σ : Heap) (h : HInv M0 f σ) (tail : ∀ f σ, HInv (allF stepM 6 M0) f σ → wpK T 0 179 [.code K] f σ Q) : wpK T 0 179 [.code (.seq (fstC H4) K)] f σ Q := by
  obtain ⟨h2, h3, h4, h5, hl, y1, y2, y3, y4⟩ := h
  simp [H6, H5, H4, H3, HB, c11, sndC, fstC]
  refine W_for T 0 179 6 (fun k g τ => g 12 = .int .i64 (k : Int) ∧ HInv (allF stepM k M0) g τ) ?_ _ _ ?_
  · clear h2 h3 h4 h5 hl y1 y2 y3 y4
    rintro k g τ hk ⟨gk, hI⟩
    by_cases hk6 : k < 6
    · have hkI : (k : Int) < 6 := by omega
      have hwk : IntKind.i64.wrap ((k : Int) + 1) = (k : Int) + 1 := wr64 (by omega) (by omega)
      rw [allF_succ stepM k M0]
      generalize allF stepM k M0 = M1 at hI ⊢
      obtain ⟨g2, g3, g4, g5, gl, z1, z2, z3, z4⟩ := hI
      simp [gk, hkI]
      refine W_for T 0 179 6 (fun i g τ => g 12 = .int .i64 (k : Int) ∧ g 13 = .int .i64 (i : Int) ∧ HInv (matF stepM k i M1) g τ) ?_ _ _ ?_
      · clear gk g2 g3 g4 g5 gl z1 z2 z3 z4
        rintro i g τ hi ⟨gk, gi, hI⟩
        by_cases hi6 : i < 6
        · have hiI : (i : Int) < 6 := by omega
          have hwi : IntKind.i64.wrap ((i : Int) + 1) = (i : Int) + 1 := wr64 (by omega) (by omega)
          rw [matF_succ stepM k i M1]
          generalize matF stepM k i M1 = M2 at hI ⊢
          obtain ⟨g2, g3, g4, g5, gl, z1, z2, z3, z4⟩ := hI
          simp [gk, gi, hiI]
          refine W_for T 0 179 6 (fun j g τ => g 12 = .int .i64 (k : Int) ∧ g 13 = .int .i64 (i : Int) ∧ g 14 = .int .i64 (j : Int) ∧ HInv (rowF stepM k i j M2) g τ) ?_ _ _ ?_
          · clear gk gi g2 g3 g4 g5 gl z1 z2 z3 z4
            rintro j g τ hj ⟨gk, gi, gj, hI⟩
            by_cases hj6 : j < 6
            · have hjI : (j : Int) < 6 := by omega
              have hwj : IntKind.i64.wrap ((j : Int) + 1) = (j : Int) + 1 := wr64 (by omega) (by omega)
              rw [rowF_succ stepM k i j M2]
              generalize rowF stepM k i j M2 = M at hI ⊢
              obtain ⟨g2, g3, g4, g5, gl, z1, z2, z3, z4⟩ := hI
              have n1 : 1 < τ.length := by omega
              have n2 : 2 < τ.length := by omega
              have n3 : 3 < τ.length := by omega
              have n4 : 4 < τ.length := by omega
              have wA1 := encM_win M.any hi6 hk6
              have wA2 := encM_win M.any hk6 hj6
              have wS1 := encM_win M.str hi6 hj6
              have wS2 := encM_win M.str hi6 hk6
              have wS3 := encM_win M.str hk6 hj6
              have hsetA := encM_set M.any hi6 hj6 true
              have hsetS := fun b => encM_set M.str hi6 hj6 b
              have lA := encM_len M.any
              have lS := encM_len M.str
              have o1 : i * 6 + j + 1 ≤ 36 := by omega
              cases hA1 : M.any i k with
              | false =>
                have hM : stepM k i j M = M := by unfold stepM; simp [hA1]
                rw [hA1] at wA1
                rw [hM]
                simp [-getElem?_pos, List.getElem?_set_ne, list_set_at, g2, g3, g4, g5, gk, gi, gj, z1, z2, z3, z4, n1, n2, n3, n4, hkI, hiI, hjI, wA1, hwj, setRun, HInv]
                omega
              | true =>
                rw [hA1] at wA1
                cases hA2 : M.any k j with
                | false =>
                  have hM : stepM k i j M = M := by unfold stepM; simp [hA1, hA2]
                  rw [hA2] at wA2
                  rw [hM]
                  simp [-getElem?_pos, List.getElem?_set_ne, list_set_at, g2, g3, g4, g5, gk, gi, gj, z1, z2, z3, z4, n1, n2, n3, n4, hkI, hiI, hjI, wA1, wA2, hwj, setRun, HInv]
                  omega
                | true =>
                  rw [hA2] at wA2
                  have hM : stepM k i j M = ⟨upM M.any i j true, upM M.str i j (M.str i j || M.str i k || M.str k j)⟩ := by unfold stepM; simp [hA1, hA2]
                  rw [hM]
                  cases hS1 : M.str i j with
                  | true =>
                    rw [hS1] at wS1
                    simp [-getElem?_pos, List.getElem?_set_ne, list_set_at, g2, g3, g4, g5, gk, gi, gj, z1, z2, z3, z4, n1, n2, n3, n4, hkI, hiI, hjI, wA1, wA2, wS1, hsetA, hsetS, lA, lS, o1, hwj, setRun, HInv]
                    omega
                  | false =>
                    rw [hS1] at wS1
                    cases hS2 : M.str i k with
                    | true =>
                      rw [hS2] at wS2
                      simp [-getElem?_pos, List.getElem?_set_ne, list_set_at, g2, g3, g4, g5, gk, gi, gj, z1, z2, z3, z4, n1, n2, n3, n4, hkI, hiI, hjI, wA1, wA2, wS1, wS2, hsetA, hsetS, lA, lS, o1, hwj, setRun, HInv]
                      omega
                    | false =>
                      rw [hS2] at wS2
                      simp [-getElem?_pos, List.getElem?_set_ne, list_set_at, g2, g3, g4, g5, gk, gi, gj, z1, z2, z3, z4, n1, n2, n3, n4, hkI, hiI, hjI, wA1, wA2, wS1, wS2, wS3, hsetA, hsetS, lA, lS, o1, hwj, setRun, HInv]
                      omega
            · have he : j = 6 := by omega
              subst he
              obtain ⟨g2, g3, g4, g5, gl, z1, z2, z3, z4⟩ := hI
              simp [gk, gi, gj, hwi, HInv, g2, g3, g4, g5, z1, z2, z3, z4]
              omega
          · simp [gk, gi, HInv, g2, g3, g4, g5, z1, z2, z3, z4, rowF]
            omega
        · have he : i = 6 := by omega
          subst he
          obtain ⟨g2, g3, g4, g5, gl, z1, z2, z3, z4⟩ := hI
          simp [gk, gi, hwk, HInv, g2, g3, g4, g5, z1, z2, z3, z4]
          omega
      · simp [gk, HInv, g2, g3, g4, g5, z1, z2, z3, z4, matF]
        omega
    · have he : k = 6 := by omega
      subst he
      obtain ⟨g2, g3, g4, g5, gl, z1, z2, z3, z4⟩ := hI
      simp [gk]
      exact tail _ _ ⟨by simp [g2], by simp [g3], by simp [g4], by simp [g5], gl, z1, z2, z3, z4⟩
  · simp [HInv, h2, h3, h4, h5, y1, y2, y3, y4, allF]
    omega
set_option maxHeartbeats 2000000 in
theorem hang_p2 (M0 : MM) (Q : AExit → FR → Heap → Prop) (K : ACode) (f : FR) (σ : Heap) (h : HInv M0 f σ) (tail : ∀ f σ, HInv (allF stepS 6 M0) f σ → wpK T 0 179 [.code K] f σ Q) : wpK T 0 179 [.code (.seq (fstC H5) K)] f σ Q := by
  obtain ⟨h2, h3, h4, h5, hl, y1, y2, y3, y4⟩ := h
  simp [H6, H5, H4, H3, HB, c11, sndC, fstC]
  refine W_for T 0 179 6 (fun k g τ => g 15 = .int .i64 (k : Int) ∧ HInv (allF stepS k M0) g τ) ?_ _ _ ?_
  · clear h2 h3 h4 h5 hl y1 y2 y3 y4
    rintro k g τ hk ⟨gk, hI⟩
    by_cases hk6 : k < 6
    · have hkI : (k : Int) < 6 := by omega
      have hwk : IntKind.i64.wrap ((k : Int) + 1) = (k : Int) + 1 := wr64 (by omega) (by omega)
      rw [allF_succ stepS k M0]
      generalize allF stepS k M0 = M1 at hI ⊢
      obtain ⟨g2, g3, g4, g5, gl, z1, z2, z3, z4⟩ := hI
      simp [gk, hkI]
      refine W_for T 0 179 6 (fun i g τ => g 15 = .int .i64 (k : Int) ∧ g 16 = .int .i64 (i : Int) ∧ HInv (matF stepS k i M1) g τ) ?_ _ _ ?_
      · clear gk g2 g3 g4 g5 gl z1 z2 z3 z4
        rintro i g τ hi ⟨gk, gi, hI⟩
        by_cases hi6 : i < 6
        · have hiI : (i : Int) < 6 := by omega
          have hwi : IntKind.i64.wrap ((i : Int) + 1) = (i : Int) + 1 := wr64 (by omega) (by omega)
          rw [matF_succ stepS k i M1]
          generalize matF stepS k i M1 = M2 at hI ⊢
          obtain ⟨g2, g3, g4, g5, gl, z1, z2, z3, z4⟩ := hI
          simp [gk, gi, hiI]
          refine W_for T 0 179 6 (fun j g τ => g 15 = .int .i64 (k : Int) ∧ g 16 = .int .i64 (i : Int) ∧ g 17 = .int .i64 (j : Int) ∧ HInv (rowF stepS k i j M2) g τ) ?_ _ _ ?_
          · clear gk gi g2 g3 g4 g5 gl z1 z2 z3 z4
            rintro j g τ hj ⟨gk, gi, gj, hI⟩
            by_cases hj6 : j < 6
            · have hjI : (j : Int) < 6 := by omega
              have hwj : IntKind.i64.wrap ((j : Int) + 1) = (j : Int) + 1 := wr64 (by omega) (by omega)
              rw [rowF_succ stepS k i j M2]
              generalize rowF stepS k i j M2 = M at hI ⊢
              obtain ⟨g2, g3, g4, g5, gl, z1, z2, z3, z4⟩ := hI
              have n1 : 1 < τ.length := by omega
              have n2 : 2 < τ.length := by omega
              have n3 : 3 < τ.length := by omega
              have n4 : 4 < τ.length := by omega
              have wA1 := encM_win M.any hi6 hk6
              have wA2 := encM_win M.any hk6 hj6
              have wS1 := encM_win M.str hi6 hj6
              have wS2 := encM_win M.str hi6 hk6
              have wS3 := encM_win M.str hk6 hj6
              have hsetA := encM_set M.any hi6 hj6 true
              have hsetS := fun b => encM_set M.str hi6 hj6 b
              have lA := encM_len M.any
              have lS := encM_len M.str
              have o1 : i * 6 + j + 1 ≤ 36 := by omega
              cases hA1 : M.any i k with
              | false =>
                have hM : stepS k i j M = M := by unfold stepS; simp [hA1]
                rw [hA1] at wA1
                rw [hM]
                simp [-getElem?_pos, List.getElem?_set_ne, list_set_at, g2, g3, g4, g5, gk, gi, gj, z1, z2, z3, z4, n1, n2, n3, n4, hkI, hiI, hjI, wA1, hwj, setRun, HInv]
                omega
              | true =>
                rw [hA1] at wA1
                cases hA2 : M.any k j with
                | false =>
                  have hM : stepS k i j M = M := by unfold stepS; simp [hA1, hA2]
                  rw [hA2] at wA2
                  rw [hM]
                  simp [-getElem?_pos, List.getElem?_set_ne, list_set_at, g2, g3, g4, g5, gk, gi, gj, z1, z2, z3, z4, n1, n2, n3, n4, hkI, hiI, hjI, wA1, wA2, hwj, setRun, HInv]
                  omega
                | true =>
                  rw [hA2] at wA2
                  have hM : stepS k i j M = ⟨M.any, upM M.str i j (M.str i j || M.str i k || M.str k j)⟩ := by unfold stepS; simp [hA1, hA2]
                  rw [hM]
                  cases hS1 : M.str i j with
                  | true =>
                    rw [hS1] at wS1
                    simp [-getElem?_pos, List.getElem?_set_ne, list_set_at, g2, g3, g4, g5, gk, gi, gj, z1, z2, z3, z4, n1, n2, n3, n4, hkI, hiI, hjI, wA1, wA2, wS1, hsetS, lA, lS, o1, hwj, setRun, HInv]
                    omega
                  | false =>
                    rw [hS1] at wS1
                    cases hS2 : M.str i k with
                    | true =>
                      rw [hS2] at wS2
                      simp [-getElem?_pos, List.getElem?_set_ne, list_set_at, g2, g3, g4, g5, gk, gi, gj, z1, z2, z3, z4, n1, n2, n3, n4, hkI, hiI, hjI, wA1, wA2, wS1, wS2, hsetS, lA, lS, o1, hwj, setRun, HInv]
                      omega
                    | false =>
                      rw [hS2] at wS2
                      simp [-getElem?_pos, List.getElem?_set_ne, list_set_at, g2, g3, g4, g5, gk, gi, gj, z1, z2, z3, z4, n1, n2, n3, n4, hkI, hiI, hjI, wA1, wA2, wS1, wS2, wS3, hsetS, lA, lS, o1, hwj, setRun, HInv]
                      omega
            · have he : j = 6 := by omega
              subst he
              obtain ⟨g2, g3, g4, g5, gl, z1, z2, z3, z4⟩ := hI
              simp [gk, gi, gj, hwi, HInv, g2, g3, g4, g5, z1, z2, z3, z4]
              omega
          · simp [gk, gi, HInv, g2, g3, g4, g5, z1, z2, z3, z4, rowF]
            omega
        · have he : i = 6 := by omega
          subst he
          obtain ⟨g2, g3, g4, g5, gl, z1, z2, z3, z4⟩ := hI
          simp [gk, gi, hwk, HInv, g2, g3, g4, g5, z1, z2, z3, z4]
          omega
      · simp [gk, HInv, g2, g3, g4, g5, z1, z2, z3, z4, matF]
        omega
    · have he : k = 6 := by omega
      subst he
      obtain ⟨g2, g3, g4, g5, gl, z1, z2, z3, z4⟩ := hI
      simp [gk]
      exact tail _ _ ⟨by simp [g2], by simp [g3], by simp [g4], by simp [g5], gl, z1, z2, z3, z4⟩
  · simp [HInv, h2, h3, h4, h5, y1, y2, y3, y4, allF]
    omega
end Go.Proofs.Ytpgakkhfjjhpdaa
end
section
set_option maxRecDepth 100000
namespace Go.Proofs.Ytpgakkhfjjhpdaa
open Go.Mach
theorem encM_full (A : Mx) : window (encM A) 0 36 = some (encM A) := window_full (encM_len A)
theorem encM_clean (A : Mx) : (encM A).all AV.clean0 = true := by unfold encM; simp
theorem encM_run (A B : Mx) : setRun (encM A) 0 (encM B) = encM B := by
  rw [setRun_take _ _ _ (by rw [encM_len, encM_len]; omega), List.take_zero, List.nil_append, List.drop_of_length_le (by rw [encM_len, encM_len]; omega), List.append_nil]
theorem encM_take (A : Mx) : (encM A).take 36 = encM A := List.take_of_length_le (by rw [encM_len]; omega)
theorem closeL_bools : ∀ (l : List Bool) (σ : Heap), closeL σ (l.map .bool) = some (l.map .bool, σ)
  | [], σ => rfl
  | b :: l, σ => by
    have ih := closeL_bools l σ
    simp only [List.map_cons]
    simp [ih]
theorem encM_bools (A : Mx) : encM A = ((List.range 36).map fun n => A (n / 6) (n % 6)).map .bool := by unfold encM; rw [List.map_map]; rfl
theorem encM_close (A : Mx) (σ : Heap) : closeL σ (encM A) = some (encM A, σ) := by rw [encM_bools]; exact closeL_bools _ σ
theorem encM_dat1 (A : Mx) : ∀ x ∈ encM A, x.dat1 = true := by
  intro x hx
  unfold encM at hx
  obtain ⟨n, _, rfl⟩ := List.mem_map.1 hx
  rfl
theorem chkO_1h (ρ : Regs) (σ σ' : Heap) (x : AX) : (chkO ρ σ σ' [x] = some ()) = (objOf σ (ev ρ x) = objOf σ' (ev ρ x)) := by
  rw [chkO_l]; simp
abbrev resM (M : MM) : AV := .tup [.agg (encM M.any), .agg (encM M.str)]
theorem hang_fin (M : MM) (f : FR) (σ : Heap) (h : HInv M f σ) : wpK T 0 179 [.code H6] f σ (endP 179 [.cell 2 36 true, .cell 3 36 true] (resM M)) := by
  obtain ⟨g2, g3, g4, g5, gl, z1, z2, z3, z4⟩ := h
  have n1 : 1 < σ.length := by omega
  have n2 : 2 < σ.length := by omega
  have n4 : 4 < σ.length := by omega
  simp [-getElem?_pos, List.getElem?_set_ne, list_set_at, List.getElem?_append_left, List.getElem?_append_right, List.getElem?_cons_zero, List.getElem?_cons_succ, H6, H5, H4, H3, HB, c11, sndC, g2, g3, g4, g5, z1, z2, z3, z4, n1, n2, encM_full, endP, res1, encM_len, encM_take, encM_run, chkO_1h, objOf, encM_clean, encM_close]
  exact ⟨encM_dat1 _, encM_dat1 _⟩
set_option maxHeartbeats 2000000 in
theorem hang_edges (p : GP) (hpd : p.decls = relsD) (hp : p.size ≤ 1000000000) (hix : ∀ r ∈ p.rules, atP relsD r.head < 6 ∧ ∀ l ∈ r.body, l.kind = 1 ∨ l.kind = 2 → atP relsD l.name < 6) (Q : AExit → FR → Heap → Prop) (K : ACode) (f : FR) (σ : Heap)
    (h1 : f 1 = .ptr 0 0) (y0 : σ[0]? = some (pCells p)) (h : HInv ⟨mxA [], mxS []⟩ f σ) (tail : ∀ f σ, HInv ⟨mxA (edgesP p), mxS (edgesP p)⟩ f σ → wpK T 0 179 [.code K] f σ Q) : wpK T 0 179 [.code (.seq (fstC H3) K)] f σ Q := by
  have hlr := GP.rules_len p
  obtain ⟨h2, h3, h4, h5, hl, y1, y2, y3, y4⟩ := h
  have y0' := y0
  simp [H3, HB, c11, sndC, fstC]
  refine W_for T 0 179 p.rules.length (fun i g τ => g 1 = .ptr 0 0 ∧ g 6 = .int .i64 (i : Int) ∧ τ[0]? = some (pCells p) ∧ HInv ⟨mxA (accE p i default 0), mxS (accE p i default 0)⟩ g τ) ?_ _ _ ?_
  · clear h1 h2 h3 h4 h5 hl y0 y1 y2 y3 y4 y0'
    rintro i g τ hi ⟨g1, g6, x0, hI⟩
    have z0 := x0
    unfold pCells at z0
    by_cases hlt : i < p.rules.length
    · have hw : IntKind.i64.wrap ((i : Int) + 1) = (i : Int) + 1 := wr64 (by omega) (by omega)
      have e0 : p.rules[i]? = some p.rules[i] := List.getElem?_eq_getElem hlt
      have hrm := List.getElem_mem hlt
      have hbl := GR.body_len p.rules[i]
      have hrs := GP.rules_mem p hrm
      have hnext := fun r' => accE_next p i hlt r'
      have hst : accE p i default 0 = accE p i p.rules[i] 0 := by unfold accE; simp
      rw [hst] at hI
      obtain ⟨hh, hon⟩ := hix _ hrm
      generalize p.rules[i] = r at *
      obtain ⟨g2, g3, g4, g5, gl, z1, z2, z3, z4⟩ := hI
      have n0 : 0 < τ.length := by omega
      have n1 : 1 < τ.length := by omega
      have n2 : 2 < τ.length := by omega
      have n3 : 3 < τ.length := by omega
      have n4 : 4 < τ.length := by omega
      simp [-getElem?_pos, List.getElem?_set_ne, list_set_at, List.getElem?_append_left, List.getElem?_append_right, List.getElem?_cons_zero, List.getElem?_cons_succ, g1, g6, z0, n0, hlt, e0, GR.enc_eq, setRun]
      refine W_for T 0 179 r.body.length (fun k g τ' => g 1 = .ptr 0 0 ∧ g 6 = .int .i64 (i : Int) ∧ g 7 = .ptr τ.length 0 ∧ g 8 = .int .i64 (k : Int) ∧ τ.length + 1 ≤ τ'.length ∧ τ'[0]? = some (pCells p) ∧ τ'[τ.length]? = some (rCells8 r) ∧ HInv ⟨mxA (accE p i r k), mxS (accE p i r k)⟩ g τ') ?_ _ _ ?_
      · clear g1 g2 g3 g4 g5 g6 z0 z1 z2 z3 z4 x0 n0 n1 n2 n3 n4
        rintro k g τ' hki ⟨g1, g6, g7, g8, gN, x0, xr, hI⟩
        obtain ⟨g2, g3, g4, g5, gl', z1, z2, z3, z4⟩ := hI
        have z0 := x0
        have zr := xr
        unfold rCells8 at zr
        have dd : τ.length ≠ 3 := by omega
        have dd2 : τ.length ≠ 4 := by omega
        have dd3 : 3 ≠ τ.length := by omega
        have dd4 : 4 ≠ τ.length := by omega
        have n0 : 0 < τ'.length := by omega
        have n1 : 1 < τ'.length := by omega
        have n2 : 2 < τ'.length := by omega
        have n3 : 3 < τ'.length := by omega
        have n4 : 4 < τ'.length := by omega
        have nr : τ.length < τ'.length := by omega
        by_cases hkl : k < r.body.length
        · have hwk : IntKind.i64.wrap ((k : Int) + 1) = (k : Int) + 1 := wr64 (by omega) (by omega)
          have e1 : r.body[k]? = some r.body[k] := List.getElem?_eq_getElem hkl
          have hstep := accE_step p i r k hkl
          have hlm := List.getElem_mem hkl
          rw [hpd] at hstep
          rw [hstep]
          generalize hl' : r.body[k] = l at *
          by_cases k2 : l.kind = 2
          · have hb' := hon l hlm (.inr k2)
            have hed : edgeL relsD r l = some ⟨atP relsD r.head, atP relsD l.name, 1⟩ := by unfold edgeL upL; simp [k2]
            rw [hed]
            simp only [Option.toList_some]
            rw [mxA_snoc, mxS_snoc]
            have wS := encM_win (mxS (accE p i r k)) hh hb'
            have hsetA := encM_set (mxA (accE p i r k)) hh hb' true
            have hsetS := fun b => encM_set (mxS (accE p i r k)) hh hb' b
            have lA := encM_len (mxA (accE p i r k))
            have lS := encM_len (mxS (accE p i r k))
            have hhI : ((atP relsD r.head : Nat) : Int) < 6 := by omega
            have hbI : ((atP relsD l.name : Nat) : Int) < 6 := by omega
            have c1 := callIndex r.head hh
            have c2 := callIndex l.name hb'
            have o1 : atP relsD r.head * 6 + atP relsD l.name + 1 ≤ 36 := by omega
            cases hS : mxS (accE p i r k) (atP relsD r.head) (atP relsD l.name) with
            | true =>
              rw [hS] at wS
              simp [-getElem?_pos, List.getElem?_set_ne, list_set_at, List.getElem?_append_left, List.getElem?_append_right, List.getElem?_cons_zero, List.getElem?_cons_succ, g1, g2, g3, g4, g5, g6, g7, g8, z0, z1, z2, z3, z4, zr, n0, n1, n2, n3, n4, nr, hkl, e1, GL.enc_eq, setRun, k2, c1, c2, hh, hb', hhI, hbI, wS, hsetA, hsetS, lA, lS, o1, hwk, HInv, dd, dd2, dd3, dd4]
              exact ⟨by omega, rfl, by omega⟩
            | false =>
              rw [hS] at wS
              simp [-getElem?_pos, List.getElem?_set_ne, list_set_at, List.getElem?_append_left, List.getElem?_append_right, List.getElem?_cons_zero, List.getElem?_cons_succ, g1, g2, g3, g4, g5, g6, g7, g8, z0, z1, z2, z3, z4, zr, n0, n1, n2, n3, n4, nr, hkl, e1, GL.enc_eq, setRun, k2, c1, c2, hh, hb', hhI, hbI, wS, hsetA, hsetS, lA, lS, o1, hwk, HInv, dd, dd2, dd3, dd4]
              exact ⟨by omega, rfl, by omega⟩
          · by_cases k1 : l.kind = 1
            · have hb' := hon l hlm (.inl k1)
              by_cases ka : r.agg = ⟨#[]⟩
              · have ka' := eq_true ka
                have hed : edgeL relsD r l = some ⟨atP relsD r.head, atP relsD l.name, 0⟩ := by unfold edgeL upL; simp [k1, k2, ka']
                rw [hed]
                simp only [Option.toList_some]
                rw [mxA_snoc, mxS_snoc]
                have wS := encM_win (mxS (accE p i r k)) hh hb'
                have hsetA := encM_set (mxA (accE p i r k)) hh hb' true
                have hsetS := fun b => encM_set (mxS (accE p i r k)) hh hb' b
                have lA := encM_len (mxA (accE p i r k))
                have lS := encM_len (mxS (accE p i r k))
                have hhI : ((atP relsD r.head : Nat) : Int) < 6 := by omega
                have hbI : ((atP relsD l.name : Nat) : Int) < 6 := by omega
                have c1 := callIndex r.head hh
                have c2 := callIndex l.name hb'
                have o1 : atP relsD r.head * 6 + atP relsD l.name + 1 ≤ 36 := by omega
                cases hS : mxS (accE p i r k) (atP relsD r.head) (atP relsD l.name) with
                | true =>
                  rw [hS] at wS
                  simp [-getElem?_pos, List.getElem?_set_ne, list_set_at, List.getElem?_append_left, List.getElem?_append_right, List.getElem?_cons_zero, List.getElem?_cons_succ, g1, g2, g3, g4, g5, g6, g7, g8, z0, z1, z2, z3, z4, zr, n0, n1, n2, n3, n4, nr, hkl, e1, GL.enc_eq, setRun, k1, k2, ka', c1, c2, hh, hb', hhI, hbI, wS, hsetA, hsetS, lA, lS, o1, hwk, HInv, dd, dd2, dd3, dd4]
                  exact ⟨by omega, rfl, by omega⟩
                | false =>
                  rw [hS] at wS
                  simp [-getElem?_pos, List.getElem?_set_ne, list_set_at, List.getElem?_append_left, List.getElem?_append_right, List.getElem?_cons_zero, List.getElem?_cons_succ, g1, g2, g3, g4, g5, g6, g7, g8, z0, z1, z2, z3, z4, zr, n0, n1, n2, n3, n4, nr, hkl, e1, GL.enc_eq, setRun, k1, k2, ka', c1, c2, hh, hb', hhI, hbI, wS, hsetA, hsetS, lA, lS, o1, hwk, HInv, dd, dd2, dd3, dd4]
                  exact ⟨by omega, rfl, by omega⟩
              · have _dummy := ka
                have hed : edgeL relsD r l = some ⟨atP relsD r.head, atP relsD l.name, 1⟩ := by unfold edgeL upL; simp [k1, k2, ka]
                rw [hed]
                simp only [Option.toList_some]
                rw [mxA_snoc, mxS_snoc]
                have wS := encM_win (mxS (accE p i r k)) hh hb'
                have hsetA := encM_set (mxA (accE p i r k)) hh hb' true
                have hsetS := fun b => encM_set (mxS (accE p i r k)) hh hb' b
                have lA := encM_len (mxA (accE p i r k))
                have lS := encM_len (mxS (accE p i r k))
                have hhI : ((atP relsD r.head : Nat) : Int) < 6 := by omega
                have hbI : ((atP relsD l.name : Nat) : Int) < 6 := by omega
                have c1 := callIndex r.head hh
                have c2 := callIndex l.name hb'
                have o1 : atP relsD r.head * 6 + atP relsD l.name + 1 ≤ 36 := by omega
                cases hS : mxS (accE p i r k) (atP relsD r.head) (atP relsD l.name) with
                | true =>
                  rw [hS] at wS
                  simp [-getElem?_pos, List.getElem?_set_ne, list_set_at, List.getElem?_append_left, List.getElem?_append_right, List.getElem?_cons_zero, List.getElem?_cons_succ, g1, g2, g3, g4, g5, g6, g7, g8, z0, z1, z2, z3, z4, zr, n0, n1, n2, n3, n4, nr, hkl, e1, GL.enc_eq, setRun, k1, k2, ka, c1, c2, hh, hb', hhI, hbI, wS, hsetA, hsetS, lA, lS, o1, hwk, HInv, dd, dd2, dd3, dd4]
                  exact ⟨by omega, rfl, by omega⟩
                | false =>
                  rw [hS] at wS
                  simp [-getElem?_pos, List.getElem?_set_ne, list_set_at, List.getElem?_append_left, List.getElem?_append_right, List.getElem?_cons_zero, List.getElem?_cons_succ, g1, g2, g3, g4, g5, g6, g7, g8, z0, z1, z2, z3, z4, zr, n0, n1, n2, n3, n4, nr, hkl, e1, GL.enc_eq, setRun, k1, k2, ka, c1, c2, hh, hb', hhI, hbI, wS, hsetA, hsetS, lA, lS, o1, hwk, HInv, dd, dd2, dd3, dd4]
                  exact ⟨by omega, rfl, by omega⟩
            · have hed : edgeL relsD r l = none := by unfold edgeL upL; simp [k1, k2]
              rw [hed]
              simp [-getElem?_pos, List.getElem?_set_ne, list_set_at, List.getElem?_append_left, List.getElem?_append_right, List.getElem?_cons_zero, List.getElem?_cons_succ, g1, g2, g3, g4, g5, g6, g7, g8, z0, z1, z2, z3, z4, zr, n0, n1, n2, n3, n4, nr, hkl, e1, GL.enc_eq, setRun, k1, k2, hwk, HInv]
              exact ⟨by omega, rfl, by omega⟩
        · have hke : k = r.body.length := by omega
          subst hke
          rw [hnext default]
          simp [-getElem?_pos, List.getElem?_set_ne, list_set_at, List.getElem?_append_left, List.getElem?_append_right, List.getElem?_cons_zero, List.getElem?_cons_succ, g1, g2, g3, g4, g5, g6, g7, g8, zr, x0, z1, z2, z3, z4, hw, HInv]
          omega
      · simp [-getElem?_pos, List.getElem?_set_ne, list_set_at, List.getElem?_append_left, List.getElem?_append_right, List.getElem?_cons_zero, List.getElem?_cons_succ, g1, g2, g3, g4, g5, g6, x0, z1, z2, z3, z4, n0, n1, n2, n3, n4, HInv, rCells8]
        omega
    · have he : i = p.rules.length := by omega
      have hall : accE p i default 0 = edgesP p := by unfold accE edgesP; rw [he, List.take_length]; simp
      rw [hall] at hI
      obtain ⟨g2, g3, g4, g5, gl, z1, z2, z3, z4⟩ := hI
      simp [g1, g6, z0, hlt]
      exact tail _ _ ⟨by simp [g2], by simp [g3], by simp [g4], by simp [g5], gl, z1, z2, z3, z4⟩
  · have : accE p 0 default 0 = [] := by simp [accE]
    rw [this]
    simp [HInv, h1, h2, h3, h4, h5, y0', y1, y2, y3, y4]
    omega
theorem hangs_ok (p : GP) (hpd : p.decls = relsD) (hp : p.size ≤ 1000000000) (hix : ∀ r ∈ p.rules, atP relsD r.head < 6 ∧ ∀ l ∈ r.body, l.kind = 1 ∨ l.kind = 2 → atP relsD l.name < 6) : pureT T c11 [p.enc] = some (resM (hangE (edgesP p))) := by
  have edges := hang_edges p hpd hp hix
  have p1 := hang_p1 ⟨mxA (edgesP p), mxS (edgesP p)⟩
  have p2 := hang_p2 (allF stepM 6 ⟨mxA (edgesP p), mxS (edgesP p)⟩)
  have fin := hang_fin (allF stepS 6 (allF stepM 6 ⟨mxA (edgesP p), mxS (edgesP p)⟩))
  apply pure_enter (by simp [c11])
  show wpK T 0 179 [.code HB] _ [] (endP 179 [.cell 2 36 true, .cell 3 36 true] (resM (allF stepS 6 (allF stepM 6 ⟨mxA (edgesP p), mxS (edgesP p)⟩))))
  have hs : HB = .seq (fstC HB) (.seq (fstC (sndC HB)) (.seq (fstC (sndC (sndC HB))) (.seq (fstC H3) (.seq (fstC H4) (.seq (fstC H5) H6))))) := rfl
  rw [hs]
  generalize resM (allF stepS 6 (allF stepM 6 ⟨mxA (edgesP p), mxS (edgesP p)⟩)) = R at fin ⊢
  have q := fun (f : FR) (σ : Heap) (h : f 1 = .ptr 0 0 ∧ σ[0]? = some (pCells p) ∧ HInv ⟨mxA [], mxS []⟩ f σ) => edges _ (.seq (fstC H4) (.seq (fstC H5) H6)) f σ h.1 h.2.1 h.2.2 (fun f σ h => p1 _ (.seq (fstC H5) H6) f σ h (fun f σ h => p2 _ H6 f σ h (fun f σ h => fin f σ h)))
  generalize ACode.seq (fstC H3) (.seq (fstC H4) (.seq (fstC H5) H6)) = K at q ⊢
  simp [HB, c11, sndC, fstC]
  refine q _ _ ⟨by simp, ?_, ?_⟩
  · simp [pCells, GP.enc_eq]
  · simp [HInv, GP.enc_eq]
    exact ⟨rfl, rfl, rfl⟩
theorem callHangs (p : GP) (hpd : p.decls = relsD) (hp : p.size ≤ 1000000000) (hix : ∀ r ∈ p.rules, atP relsD r.head < 6 ∧ ∀ l ∈ r.body, l.kind = 1 ∨ l.kind = 2 → atP relsD l.name < 6) (bs : Nat) (σ : Heap) : callT T 11 [p.enc] bs σ = some (resM (hangE (edgesP p)), σ) := call_clean rfl rfl rfl (by simp) (hangs_ok p hpd hp hix)
end Go.Proofs.Ytpgakkhfjjhpdaa
end
section
set_option maxRecDepth 100000
namespace Go.Proofs.Ytpgakkhfjjhpdaa
open Go.Mach
def a8S : GT := .mk 1 ⟨#[83]⟩ (.mk 0 0 ⟨#[]⟩ []) []
def a8X : GT := .mk 1 ⟨#[88]⟩ (.mk 0 0 ⟨#[]⟩ []) []
def a8R : GR := ⟨⟨#[114]⟩, ⟨#[112]⟩, [a8S, a8X], ⟨#[]⟩, 0, [⟨1, ⟨#[113]⟩, [a8S, a8X]⟩, ⟨2, ⟨#[116]⟩, [a8S, a8X]⟩]⟩
def a8Q : GR := ⟨⟨#[115]⟩, ⟨#[116]⟩, [a8S, a8X], ⟨#[]⟩, 0, [⟨1, ⟨#[112]⟩, [a8S, a8X]⟩]⟩
def a8P : GP := ⟨relsD, [], [a8R]⟩
def a8P2 : GP := ⟨relsD, [], [a8R, a8Q]⟩
theorem a8_check : (checkP a8P).1 = 0 := by decide +kernel
theorem a8_check2 : (checkP a8P2).1 = 0 := by decide +kernel
theorem a8_edges : edgesP a8P = [⟨1, 2, 0⟩, ⟨1, 5, 1⟩] := by kernel_rfl
theorem a8_edges2 : edgesP a8P2 = [⟨1, 2, 0⟩, ⟨1, 5, 1⟩, ⟨5, 1, 0⟩] := by kernel_rfl
theorem a8_ans : ansE (edgesP a8P) 6 = some [0, 1, 0, 0, 0, 0] := by
  rw [a8_edges]
  refine ansE_eq ⟨rfl, fun e he => ?_, fun i => ?_, fun s hs i => ?_⟩
  · rcases List.mem_cons.1 he with rfl | he
    · decide
    · rcases List.mem_cons.1 he with rfl | he
      · decide
      · cases he
  · rcases i with _ | _ | _ | _ | _ | _ | i <;> simp [gN]
  · have := hs ⟨1, 5, 1⟩ (by simp)
    simp only at this
    rcases i with _ | _ | _ | _ | _ | _ | i <;> simp [gN]
    omega
theorem a8_ans2 : ansE (edgesP a8P2) 6 = none := by
  rw [a8_edges2]
  refine ansE_eq ?_
  rintro ⟨s, hs, _⟩
  have h1 := hs ⟨1, 5, 1⟩ (by simp)
  have h2 := hs ⟨5, 1, 0⟩ (by simp)
  simp only at h1 h2
  omega
theorem a8_res : resS a8P = .tup [.isl (encN8 [0, 1, 0, 0, 0, 0]) false, .int .i64 0] := by
  unfold resS
  rw [if_neg (by rw [a8_check]; simp)]
  have : a8P.decls.length = 6 := rfl
  rw [this, a8_ans]; rfl
theorem a8_res2 : resS a8P2 = .tup [.isl [] false, .int .i64 80] := by
  unfold resS
  rw [if_neg (by rw [a8_check2]; simp)]
  have : a8P2.decls.length = 6 := rfl
  rw [this, a8_ans2]; rfl
theorem a8_rules : (rulesP a8P 1).length = 1 := by
  have h : numsP a8P = some [0, 1, 0, 0, 0, 0] := by
    unfold numsP
    rw [if_neg (by rw [a8_check]; simp)]
    exact a8_ans
  have h2 : rulesP a8P 1 = a8P.rules.filter (inS a8P [0, 1, 0, 0, 0, 0] 1) := by unfold rulesP; rw [h]
  rw [h2]
  decide +kernel
def a8O (n : UInt8) : AObj := .cells [.int .i64 1, .str ⟨#[n]⟩, .int .i64 0, .int .i64 0, .str ⟨#[]⟩, .isl [] true, .isl [] true] 0 false
def a8H : Heap := [a8O 83, a8O 88,
  .cells [.int .i64 1, .str ⟨#[83]⟩, .int .i64 0, .int .i64 0, .str ⟨#[]⟩, .isl [] true, .isl [] true, .int .i64 1, .str ⟨#[88]⟩, .int .i64 0, .int .i64 0, .str ⟨#[]⟩, .isl [] true, .isl [] true] 0 false,
  .cells [.int .i64 1, .str ⟨#[113]⟩, .sl 2 0 2 7 true, .int .i64 2, .str ⟨#[116]⟩, .sl 2 0 2 7 true] 0 false,
  .cells [.str ⟨#[114]⟩, .str ⟨#[112]⟩, .sl 2 0 2 7 true, .str ⟨#[]⟩, .int .i64 0, .sl 3 0 2 3 true] 0 false,
  .cells [.isl (relsD.map GD.enc) false, .isl [] true, .sl 4 0 1 6 true] 0 false]
abbrev a8A : AV := .agg [.isl (relsD.map GD.enc) false, .isl [] true, .sl 4 0 1 6 true]
def a8H1 : Heap := [a8O 83, a8O 88,
  .cells [.int .i64 1, .str ⟨#[83]⟩, .int .i64 0, .int .i64 0, .str ⟨#[]⟩, .isl [] true, .isl [] true, .int .i64 1, .str ⟨#[88]⟩, .int .i64 0, .int .i64 0, .str ⟨#[]⟩, .isl [] true, .isl [] true] 14 false,
  .cells [.int .i64 1, .str ⟨#[113]⟩, .sl 2 0 2 7 true, .int .i64 2, .str ⟨#[116]⟩, .sl 2 0 2 7 true] 6 false,
  .cells [.str ⟨#[114]⟩, .str ⟨#[112]⟩, .sl 2 0 2 7 true, .str ⟨#[]⟩, .int .i64 0, .sl 3 0 2 3 true] 6 false,
  .cells [.isl (relsD.map GD.enc) false, .isl [] true, .sl 4 0 1 6 true] 0 false]
theorem a8_close : closeT a8H [a8A] = some ([a8P.enc], a8H1) := rfl
theorem a8_c1 : callT T 10 [a8A] 0 a8H = some (.tup [.isl (encN8 [0, 1, 0, 0, 0, 0]) false, .int .i64 0], a8H1) := by
  have := call_pure (T := T) (f := 10) (bs := 0) rfl rfl rfl a8_close (by simp) (strata_ok a8P (by decide +kernel))
  rw [a8_res] at this
  exact this
def a8O6 : AObj := .cells [.isl (relsD.map GD.enc) false, .isl [] true, .sl 4 0 1 6 true] 0 false
def a8O7 : AObj := .cells [.str ⟨#[114]⟩, .str ⟨#[112]⟩, .sl 2 0 2 7 true, .str ⟨#[]⟩, .int .i64 0, .sl 3 0 2 3 true] 0 true
def a8O8 : AObj := .cells [.int .i64 1, .str ⟨#[112]⟩, .sl 2 0 2 7 true] 0 false
def a8O9 : AObj := .cells [.str ⟨#[115]⟩, .str ⟨#[116]⟩, .sl 2 0 2 7 true, .str ⟨#[]⟩, .int .i64 0, .sl 8 0 1 3 true] 0 false
def a8Oa : AObj := .cells [.str ⟨#[114]⟩, .str ⟨#[112]⟩, .sl 2 0 2 7 true, .str ⟨#[]⟩, .int .i64 0, .sl 3 0 2 3 true, .str ⟨#[115]⟩, .str ⟨#[116]⟩, .sl 2 0 2 7 true, .str ⟨#[]⟩, .int .i64 0, .sl 8 0 1 3 true] 0 true
theorem a8_app1 : appendA (a8H1 ++ [a8O6]) 6 true 104 true (.isl [] true) (.sl 4 0 1 6 true) = some (.sl 7 0 1 6 true, a8H1 ++ [a8O6, a8O7]) := rfl
theorem a8_app2 : appendA (a8H1 ++ [a8O6, a8O7, a8O8, a8O9]) 6 true 104 true (.sl 7 0 1 6 true) (.sl 9 0 1 6 true) = some (.sl 10 0 2 6 true, a8H1 ++ [a8O6, .dead, a8O8, a8O9, a8Oa]) := rfl
abbrev a8B : AV := .agg [.isl (relsD.map GD.enc) false, .isl [] true, .sl 10 0 2 6 true]
def a8Ob : AObj := .cells [.isl (relsD.map GD.enc) false, .isl [] true, .sl 10 0 2 6 true] 0 false
def a8O8f : AObj := .cells [.int .i64 1, .str ⟨#[112]⟩, .sl 2 0 2 7 true] 3 false
def a8Oaf : AObj := .cells [.str ⟨#[114]⟩, .str ⟨#[112]⟩, .sl 2 0 2 7 true, .str ⟨#[]⟩, .int .i64 0, .sl 3 0 2 3 true, .str ⟨#[115]⟩, .str ⟨#[116]⟩, .sl 2 0 2 7 true, .str ⟨#[]⟩, .int .i64 0, .sl 8 0 1 3 true] 12 true
def a8Oi : AObj := .cells [.int .i64 0, .int .i64 1, .int .i64 0, .int .i64 0, .int .i64 0, .int .i64 0] 0 false
theorem a8_close2 : closeT (a8H1 ++ [a8Ob, .dead, a8O8, a8O9, a8Oa]) [a8B] = some ([a8P2.enc], a8H1 ++ [a8Ob, .dead, a8O8f, a8O9, a8Oaf]) := rfl
theorem a8_c2 : callT T 10 [a8B] 0 (a8H1 ++ [a8Ob, .dead, a8O8, a8O9, a8Oa]) = some (.tup [.isl [] false, .int .i64 80], a8H1 ++ [a8Ob, .dead, a8O8f, a8O9, a8Oaf]) := by
  have := call_pure (T := T) (f := 10) (bs := 0) rfl rfl rfl a8_close2 (by simp) (strata_ok a8P2 (by decide +kernel))
  rw [a8_res2] at this
  exact this
theorem a8_c3 : callT T 13 [.isl (encN8 [0, 1, 0, 0, 0, 0]) false, .sl 11 0 6 1 false] 0 (a8H1 ++ [a8Ob, .dead, a8O8f, a8O9, a8Oaf, a8Oi]) = some (.bool true, a8H1 ++ [a8Ob, .dead, a8O8f, a8O9, a8Oaf, a8Oi]) := by
  have hc : ∃ σ, closeT (a8H1 ++ [a8Ob, .dead, a8O8f, a8O9, a8Oaf, a8Oi]) [.isl (encN8 [0, 1, 0, 0, 0, 0]) false, .sl 11 0 6 1 false] = some ([.isl (encN8 [0, 1, 0, 0, 0, 0]) false, .isl (encN8 [0, 1, 0, 0, 0, 0]) false], σ) := ⟨_, rfl⟩
  obtain ⟨σ, hc⟩ := hc
  have := call_pure (T := T) (f := 13) (bs := 0) rfl rfl rfl hc (by simp) (ints_ok [0, 1, 0, 0, 0, 0] [0, 1, 0, 0, 0, 0] (by simp) (by simp))
  exact this
theorem a8_c4 : ∃ σ, callT T 15 [a8A, .int .i64 1] 0 (a8H1 ++ [a8Ob, .dead, a8O8f, a8O9, a8Oaf, a8Oi]) = some (.isl ((rulesP a8P 1).map GR.enc) false, σ) := by
  have hc : ∃ σ, closeT (a8H1 ++ [a8Ob, .dead, a8O8f, a8O9, a8Oaf, a8Oi]) [a8A, .int .i64 1] = some ([a8P.enc, .int .i64 1], σ) := ⟨_, rfl⟩
  obtain ⟨σ, hc⟩ := hc
  exact ⟨_, call_pure (T := T) (f := 15) (bs := 0) rfl rfl rfl hc (by simp) (rules8_ok a8P (by decide +kernel) 1)⟩
theorem awake8_ok : pureT T c7 [] = some (.bool true) := by
  apply pure_enter (by simp [c7])
  simp [c7, callRelations6, setRun]
  have h1 := a8_c1
  have h2 := a8_app1
  have h3 := a8_app2
  have h4 := a8_c2
  have h5 := a8_c3
  obtain ⟨σ, h6⟩ := a8_c4
  simp only [a8H, a8H1, a8O, a8O6, a8O7, a8O8, a8O9, a8Oa, a8Ob, a8O8f, a8Oaf, a8Oi, List.cons_append, List.nil_append] at h1 h2 h3 h4 h5 h6
  simp [h1, h2, h3, h4, h5, h6, setRun, a8_rules]
end Go.Proofs.Ytpgakkhfjjhpdaa
end
section
set_option maxRecDepth 100000
namespace Go.Proofs.Ytpgakkhfjjhpdaa
open Go.Mach
theorem callAwake8 (bs : Nat) (σ : Heap) : callT T 7 [] bs σ = some (.bool true, σ) := call_clean rfl rfl rfl rfl awake8_ok
theorem raw_prog0 (rules : List (List GRaw)) (hr : RawsOk rules) : ∃ rs : List GR, rs.length ≤ 6 ∧ (∀ bs σ, callT T 8 [.isl (encRR rules) false, .isl [] true] bs σ = some (.agg [.isl (relsD.map GD.enc) false, .isl [] false, .isl (rs.map GR.enc) false], σ)) ∧
    ∀ rs' : List GR, (∀ r ∈ rs', r ∈ rs) → rs'.length ≤ 64 → checkP ⟨relsD, [], rs'⟩ = firstP ⟨relsD, [], []⟩ rs' 0 ∧ (GP.mk relsD [] rs').size ≤ 1000000000 := by
  have hf : FactsOk [] := ⟨(fun _ h => by cases h), (by simp)⟩
  refine ⟨rulesR rules, (rulesR_B rules).2, fun bs σ => ?_, fun rs' h1 h2 => ?_⟩
  · have := call_pure (T := T) (f := 8) (bs := bs) (σ := σ) (σ' := σ) (args := [.isl (encRR rules) false, .isl [] true]) (args' := [.isl (encRR rules) false, .isl (([] : List GRaw).map GRaw.enc) false]) rfl rfl rfl (by simp [closeT]) (by simp) (prog6_ok rules [] hr.1 hr.2 hf.1 hf.2)
    rw [this]
    split <;> rfl
  · obtain ⟨fs, rs, _, _, hrs, hfs, _, hC⟩ := raw_prog rules [] hr hf
    have : fs = [] := by rw [hfs]; rfl
    subst this
    exact hC rs' (fun r h => by rw [hrs]; exact h1 r h) h2
theorem chk_ix {p : GP} (hpd : p.decls = relsD) (hc : ChkOk p) : ∀ r ∈ p.rules, atP relsD r.head < 6 ∧ ∀ l ∈ r.body, l.kind = 1 ∨ l.kind = 2 → atP relsD l.name < 6 := by
  intro r hr
  have h1 := hc.head r hr
  have h2 := hc.on r hr
  rw [hpd] at h1 h2
  exact ⟨h1, h2⟩
theorem chk_edges {p : GP} (hpd : p.decls = relsD) (hc : ChkOk p) : ∀ e ∈ edgesP p, e.head < 6 ∧ e.on < 6 ∧ e.up ≤ 1 := by
  intro e he
  have := edge_lt hc he
  rw [hpd] at this
  exact this
theorem run36 (A : Mx) (l : List AV) (h : l.length = 36) : setRun l 0 (encM A) = encM A := by
  rw [setRun_take _ _ _ (by rw [encM_len]; omega), List.take_zero, List.nil_append, List.drop_of_length_le (by rw [encM_len]; omega), List.append_nil]
theorem encN8_at {l : List Nat} {i : Nat} (h : i < l.length) : (encN8 l)[i]? = some (.int .i64 (gN l i : Int)) := by simp [encN8, gN, h]
def rndM (M : MM) (n : Nat) : Bool := (List.range n).any fun x => M.str x x
theorem rndM_succ (M : MM) (n : Nat) : rndM M (n + 1) = (rndM M n || M.str n n) := by unfold rndM; rw [List.range_succ, List.any_append]; simp
theorem rndM_iff (M : MM) : rndM M 6 = true ↔ ∃ x, x < 6 ∧ M.str x x = true := by unfold rndM; simp
set_option maxHeartbeats 2000000 in
theorem strataCycles_ok (rules : List (List GRaw)) (hr : RawsOk rules) : pureT T c3 [.isl (encRR rules) false] = some (.bool true) := by
  obtain ⟨rs, h6, hP, hC⟩ := raw_prog0 rules hr
  obtain ⟨_, hs1⟩ := hC rs (fun _ h => h) (by omega)
  have hck := callCheck _ hs1
  have hst := callStrata _ hs1
  have hix := fun hc => callHangs (GP.mk relsD [] rs) rfl hs1 (chk_ix rfl hc)
  generalize hp : GP.mk relsD [] rs = p at *
  have hpd : p.decls = relsD := by rw [← hp]
  have hpe : p.enc = .agg [.isl (relsD.map GD.enc) false, .isl [] false, .isl (rs.map GR.enc) false] := by rw [← hp]; rfl
  rw [hpe] at hck hst
  obtain ⟨⟨c, m⟩, hen⟩ : ∃ x, checkP p = x := ⟨_, rfl⟩
  rw [hen] at hck
  apply pure_enter (by simp [c3])
  by_cases h0 : c = 0
  · subst h0
    have hc : ChkOk p := chk_ok (by rw [hen])
    have hE := chk_edges hpd hc
    have hH := hangE_ok hE
    have hcall := hix hc
    rw [hpe] at hcall
    have hA : Ans (edgesP p) 6 (ansE (edgesP p) 6) := ansE_ans fun e he => ⟨(hE e he).1, (hE e he).2.1⟩
    have hres : resS p = resO (ansE (edgesP p) 6) := by
      unfold resS
      rw [hen, if_neg (by simp), hpd]; rfl
    rw [hres] at hst
    generalize ansE (edgesP p) 6 = o at *
    generalize hangE (edgesP p) = M at *
    have hrd := ans_round hH hE hA
    rw [← rndM_iff] at hrd
    cases o with
    | none =>
      have hround := hrd.1 rfl
      simp [-getElem?_pos, List.getElem?_cons_zero, List.getElem?_cons_succ, list_set_at, c3, callAwake8, hP, hck, hst, hcall, setRun, resO, encM_len, run36]
      refine W_for T 0 124 6 (fun i f σ => f 3 = .bool true ∧ f 9 = .ptr 1 0 ∧ f 10 = .ptr 2 0 ∧ f 11 = .isl [] false ∧ f 12 = .int .i64 80 ∧ f 13 = .bool (rndM M i) ∧ f 14 = .int .i64 (i : Int) ∧ ∃ o, σ = [o, .cells (encM M.any) 0 false, .cells (encM M.str) 0 false]) ?_ _ _ ?_
      · rintro i f σ hi ⟨g3, g9, g10, g11, g12, g13, g14, o, rfl⟩
        by_cases hi6 : i < 6
        · have hiI : (i : Int) < 6 := by omega
          have hw : IntKind.i64.wrap ((i : Int) + 1) = (i : Int) + 1 := wr64 (by omega) (by omega)
          have hwin := encM_win M.str hi6 hi6
          rw [rndM_succ]
          cases hq : rndM M i with
          | true =>
            rw [hq] at g13
            simp [-getElem?_pos, List.getElem?_cons_zero, List.getElem?_cons_succ, g3, g9, g10, g11, g12, g13, g14, hiI, hi6, hw]
          | false =>
            rw [hq] at g13
            simp [-getElem?_pos, List.getElem?_cons_zero, List.getElem?_cons_succ, g3, g9, g10, g11, g12, g13, g14, hiI, hi6, hw, hwin]
        · have he : i = 6 := by omega
          subst he
          rw [hround] at g13
          simp [g3, g9, g10, g11, g12, g13, g14]
      · simp [rndM]
    | some l =>
      have hround : rndM M 6 = false := by
        cases h : rndM M 6 with
        | false => rfl
        | true => have := hrd.2 h; cases this
      simp [-getElem?_pos, List.getElem?_cons_zero, List.getElem?_cons_succ, list_set_at, c3, callAwake8, hP, hck, hst, hcall, setRun, resO, encM_len, run36]
      refine W_for T 0 124 6 (fun i f σ => f 3 = .bool true ∧ f 9 = .ptr 1 0 ∧ f 10 = .ptr 2 0 ∧ f 11 = .isl (encN8 l) false ∧ f 12 = .int .i64 0 ∧ f 13 = .bool (rndM M i) ∧ f 14 = .int .i64 (i : Int) ∧ ∃ o, σ = [o, .cells (encM M.any) 0 false, .cells (encM M.str) 0 false]) ?_ _ _ ?_
      · rintro i f σ hi ⟨g3, g9, g10, g11, g12, g13, g14, o, rfl⟩
        by_cases hi6 : i < 6
        · have hiI : (i : Int) < 6 := by omega
          have hw : IntKind.i64.wrap ((i : Int) + 1) = (i : Int) + 1 := wr64 (by omega) (by omega)
          have hwin := encM_win M.str hi6 hi6
          rw [rndM_succ]
          cases hq : rndM M i with
          | true =>
            rw [hq] at g13
            simp [-getElem?_pos, List.getElem?_cons_zero, List.getElem?_cons_succ, g3, g9, g10, g11, g12, g13, g14, hiI, hi6, hw]
          | false =>
            rw [hq] at g13
            simp [-getElem?_pos, List.getElem?_cons_zero, List.getElem?_cons_succ, g3, g9, g10, g11, g12, g13, g14, hiI, hi6, hw, hwin]
        · have he : i = 6 := by omega
          subst he
          rw [hround] at g13
          have hlen : l.length = 6 := hA.1
          have hlow := hH.low (gN l) hA.2.1
          simp [g3, g9, g10, g11, g12, g13, g14, encN8_len, hlen]
          refine W_for T 0 124 6 (fun i f σ => f 3 = .bool true ∧ f 9 = .ptr 1 0 ∧ f 10 = .ptr 2 0 ∧ f 11 = .isl (encN8 l) false ∧ f 15 = .int .i64 (i : Int) ∧ σ = [o, .cells (encM M.any) 0 false, .cells (encM M.str) 0 false]) ?_ _ _ ?_
          · rintro i f σ hi ⟨k3, k9, k10, k11, k15, rfl⟩
            by_cases hi6 : i < 6
            · have hiI : (i : Int) < 6 := by omega
              have hw : IntKind.i64.wrap ((i : Int) + 1) = (i : Int) + 1 := wr64 (by omega) (by omega)
              have ei := encN8_at (l := l) (i := i) (by omega)
              simp [k3, k9, k10, k11, k15, hiI]
              refine W_for T 0 124 6 (fun j f σ => f 3 = .bool true ∧ f 9 = .ptr 1 0 ∧ f 10 = .ptr 2 0 ∧ f 11 = .isl (encN8 l) false ∧ f 15 = .int .i64 (i : Int) ∧ f 16 = .int .i64 (j : Int) ∧ σ = [o, .cells (encM M.any) 0 false, .cells (encM M.str) 0 false]) ?_ _ _ ?_
              · rintro j f σ hj ⟨k3, k9, k10, k11, k15, k16, rfl⟩
                by_cases hj6 : j < 6
                · have hjI : (j : Int) < 6 := by omega
                  have hwj : IntKind.i64.wrap ((j : Int) + 1) = (j : Int) + 1 := wr64 (by omega) (by omega)
                  have ej := encN8_at (l := l) (i := j) (by omega)
                  have wA := encM_win M.any hi6 hj6
                  have wS := encM_win M.str hi6 hj6
                  have hij := hlow i j
                  cases hA1 : M.any i j with
                  | true =>
                    have h1 : ¬ (gN l i : Int) < (gN l j : Int) := by have := hij.1 hA1; omega
                    rw [hA1] at wA
                    cases hS1 : M.str i j with
                    | true =>
                      have h2 : ¬ (gN l i : Int) ≤ (gN l j : Int) := by have := hij.2 hS1; omega
                      rw [hS1] at wS
                      simp [-getElem?_pos, List.getElem?_cons_zero, List.getElem?_cons_succ, k3, k9, k10, k11, k15, k16, hiI, hi6, hjI, hj6, hwj, wA, wS, ei, ej, h1, h2]
                    | false =>
                      rw [hS1] at wS
                      simp [-getElem?_pos, List.getElem?_cons_zero, List.getElem?_cons_succ, k3, k9, k10, k11, k15, k16, hiI, hi6, hjI, hj6, hwj, wA, wS, ei, ej, h1]
                  | false =>
                    rw [hA1] at wA
                    cases hS1 : M.str i j with
                    | true =>
                      have h2 : ¬ (gN l i : Int) ≤ (gN l j : Int) := by have := hij.2 hS1; omega
                      rw [hS1] at wS
                      simp [-getElem?_pos, List.getElem?_cons_zero, List.getElem?_cons_succ, k3, k9, k10, k11, k15, k16, hiI, hi6, hjI, hj6, hwj, wA, wS, ei, ej, h2]
                    | false =>
                      rw [hS1] at wS
                      simp [-getElem?_pos, List.getElem?_cons_zero, List.getElem?_cons_succ, k3, k9, k10, k11, k15, k16, hiI, hi6, hjI, hj6, hwj, wA, wS, ei, ej]
                · have he : j = 6 := by omega
                  subst he
                  simp [k3, k9, k10, k11, k15, k16, hi6, hw]
              · simp [k3, k9, k10, k11, k15]
            · have he : i = 6 := by omega
              subst he
              simp [k3, k9, k10, k11, k15]
          · simp [g3, g9, g10, g11]
      · simp [rndM]
  · have hres : resS p = .tup [.isl [] false, .int .i64 c] := by unfold resS; rw [hen, if_pos h0]
    rw [hres] at hst
    simp [c3, callAwake8, hP, hck, hst, h0, setRun]
    done
end Go.Proofs.Ytpgakkhfjjhpdaa
end
section
set_option maxRecDepth 100000
namespace Go.Proofs.Ytpgakkhfjjhpdaa
open Go.Mach
set_option maxHeartbeats 2000000 in
theorem strataLeast_ok (rules : List (List GRaw)) (hr : RawsOk rules) : pureT T c4 [.isl (encRR rules) false] = some (.bool true) := by
  obtain ⟨rs, h6, hP, hC⟩ := raw_prog0 rules hr
  obtain ⟨_, hs1⟩ := hC rs (fun _ h => h) (by omega)
  have hst := callStrata _ hs1
  have hix := fun hc => callHangs (GP.mk relsD [] rs) rfl hs1 (chk_ix rfl hc)
  generalize hp : GP.mk relsD [] rs = p at *
  have hpd : p.decls = relsD := by rw [← hp]
  have hpe : p.enc = .agg [.isl (relsD.map GD.enc) false, .isl [] false, .isl (rs.map GR.enc) false] := by rw [← hp]; rfl
  rw [hpe] at hst
  obtain ⟨⟨c, m⟩, hen⟩ : ∃ x, checkP p = x := ⟨_, rfl⟩
  apply pure_enter (by simp [c4])
  by_cases h0 : c = 0
  · subst h0
    have hc : ChkOk p := chk_ok (by rw [hen])
    have hE := chk_edges hpd hc
    have hH := hangE_ok hE
    have hcall := hix hc
    rw [hpe] at hcall
    have hA : Ans (edgesP p) 6 (ansE (edgesP p) 6) := ansE_ans fun e he => ⟨(hE e he).1, (hE e he).2.1⟩
    have hres : resS p = resO (ansE (edgesP p) 6) := by
      unfold resS
      rw [hen, if_neg (by simp), hpd]; rfl
    rw [hres] at hst
    generalize ansE (edgesP p) 6 = o at *
    generalize hangE (edgesP p) = M at *
    cases o with
    | none =>
      simp [-getElem?_pos, List.getElem?_cons_zero, List.getElem?_cons_succ, list_set_at, c4, callAwake8, hP, hst, hcall, setRun, resO, encM_len, run36]
    | some l =>
      have hbest := fun i hi => ans_best hH hE hA i hi
      have hlen : l.length = 6 := hA.1
      have hle := hA.2.2.1
      simp [-getElem?_pos, List.getElem?_cons_zero, List.getElem?_cons_succ, list_set_at, c4, callAwake8, hP, hst, hcall, setRun, resO, encM_len, run36, encN8_len, hlen]
      refine W_for T 0 63 6 (fun i f σ => f 3 = .bool true ∧ f 5 = .isl (encN8 l) false ∧ f 7 = .ptr 1 0 ∧ f 8 = .ptr 2 0 ∧ f 9 = .int .i64 (i : Int) ∧ ∃ o, σ = [o, .cells (encM M.any) 0 false, .cells (encM M.str) 0 false]) ?_ _ _ ?_
      · rintro i f σ hi ⟨g3, g5, g7, g8, g9, o, rfl⟩
        by_cases hi6 : i < 6
        · have hiI : (i : Int) < 6 := by omega
          have hw : IntKind.i64.wrap ((i : Int) + 1) = (i : Int) + 1 := wr64 (by omega) (by omega)
          have ei := encN8_at (l := l) (i := i) (by omega)
          have hb := hbest i hi6
          simp [g3, g5, g7, g8, g9, hiI]
          refine W_for T 0 63 6 (fun j f σ => f 3 = .bool true ∧ f 5 = .isl (encN8 l) false ∧ f 7 = .ptr 1 0 ∧ f 8 = .ptr 2 0 ∧ f 9 = .int .i64 (i : Int) ∧ f 10 = .int .i64 (bestM M l i j : Int) ∧ f 11 = .int .i64 (j : Int) ∧ σ = [o, .cells (encM M.any) 0 false, .cells (encM M.str) 0 false]) ?_ _ _ ?_
          · clear g3 g5 g7 g8 g9
            rintro j f σ hj ⟨g3, g5, g7, g8, g9, g10, g11, rfl⟩
            by_cases hj6 : j < 6
            · have hjI : (j : Int) < 6 := by omega
              have hwj : IntKind.i64.wrap ((j : Int) + 1) = (j : Int) + 1 := wr64 (by omega) (by omega)
              have ej := encN8_at (l := l) (i := j) (by omega)
              have wS := encM_win M.str hi6 hj6
              have hgj := hle j
              have hwg : IntKind.i64.wrap ((gN l j : Int) + 1) = (gN l j : Int) + 1 := wr64 (by omega) (by omega)
              have hbs : bestM M l i (j + 1) = if M.str i j = true then max (bestM M l i j) (gN l j + 1) else bestM M l i j := rfl
              cases hS : M.str i j with
              | true =>
                rw [hS] at wS hbs
                rw [if_pos rfl] at hbs
                rw [hbs]
                simp [-getElem?_pos, List.getElem?_cons_zero, List.getElem?_cons_succ, g3, g5, g7, g8, g9, g10, g11, hiI, hi6, hjI, hj6, hwj, wS, ej, hwg]
                split <;> omega
              | false =>
                rw [hS] at wS hbs
                rw [if_neg (by simp)] at hbs
                rw [hbs]
                simp [-getElem?_pos, List.getElem?_cons_zero, List.getElem?_cons_succ, g3, g5, g7, g8, g9, g10, g11, hiI, hi6, hjI, hj6, hwj, wS]
            · have he : j = 6 := by omega
              subst he
              rw [← hb] at g10
              simp [-getElem?_pos, g3, g5, g7, g8, g9, g10, g11, hi6, hw, ei]
          · simp [g3, g5, g7, g8, g9, bestM]
        · have he : i = 6 := by omega
          subst he
          simp [g3, g5, g7, g8, g9]
      · simp
  · have hres : resS p = .tup [.isl [] false, .int .i64 c] := by unfold resS; rw [hen, if_pos h0]
    rw [hres] at hst
    simp [c4, callAwake8, hP, hst, h0, setRun]
end Go.Proofs.Ytpgakkhfjjhpdaa
end
section
set_option maxRecDepth 100000
namespace Go.Proofs.Ytpgakkhfjjhpdaa
open Go.Mach
theorem callStrataI (p : GP) (hp : p.size ≤ 1000000000) {σ : Heap} {d f r : AV} (hd : closeA σ (.agg [d, f, r]) = some (p.enc, σ)) (bs : Nat) : callT T 10 [.agg [d, f, r]] bs σ = some (resS p, σ) := by
  rw [call_pure (T := T) (f := 10) (bs := bs) (args' := [p.enc]) rfl rfl rfl (show closeT σ [.agg [d, f, r]] = some ([p.enc], σ) by unfold closeT; rw [hd]; rfl) (by simp) (strata_ok p hp), ite_self]
theorem first_all {p : GP} : ∀ (rs : List GR) (i : Nat), (∀ r ∈ rs, ruleP p r = 0) → (firstP p rs i).1 = 0
  | [], _, _ => rfl
  | r :: rs, i, h => by
    simp only [firstP]
    rw [if_neg (by simp [h r (by simp)])]
    exact first_all rs (i + 1) fun x hx => h x (by simp [hx])
theorem first_iff {p : GP} (rs : List GR) : (firstP p rs 0).1 = 0 ↔ ∀ r ∈ rs, ruleP p r = 0 := ⟨first_zero rs 0, first_all rs 0⟩
theorem ans_same {p q : GP} (hd : p.decls = q.decls) (hr : ∀ r, r ∈ p.rules ↔ r ∈ q.rules) (hE : ∀ e ∈ edgesP p, e.head < p.decls.length ∧ e.on < p.decls.length) : ansE (edgesP q) q.decls.length = ansE (edgesP p) p.decls.length := by
  have h := ansE_ans hE
  refine ansE_eq ?_
  rw [← hd]
  refine h.congr fun e => ?_
  rw [mem_edges, mem_edges, hd]
  exact ⟨fun ⟨r, h1, h2⟩ => ⟨r, (hr r).1 h1, h2⟩, fun ⟨r, h1, h2⟩ => ⟨r, (hr r).2 h1, h2⟩⟩
set_option maxHeartbeats 2000000 in
theorem strataOrder_ok (rules : List (List GRaw)) (turn : Int) (hr : RawsOk rules) (hw : GV.i64ok turn) : pureT T c5 [.isl (encRR rules) false, .int .i64 turn] = some (.bool true) := by
  obtain ⟨rs, h6, hP, hC⟩ := raw_prog0 rules hr
  obtain ⟨hc1, hs1⟩ := hC rs (fun _ h => h) (by omega)
  have hst := callStrata _ hs1
  simp only [GP.enc_eq, List.map_nil] at hst
  apply pure_enter (by simp [c5])
  by_cases h0 : rs.length = 0
  · have : rs = [] := List.length_eq_zero_iff.1 h0
    subst this
    simp only [List.map_nil] at hP
    simp [c5, callAwake8, hP, setRun]
  · have h0' : ¬ (rs.length : Int) = 0 := by omega
    have hpk := pick8 turn rs.length (by omega) hw
    have hkl := pickN_lt (c := turn) (n := rs.length) (by omega)
    generalize pickN turn rs.length = k at *
    have hmem : ∀ r, r ∈ rs ↔ r ∈ rs.drop k ++ rs.take k := fun r => by
      rw [List.mem_append, or_comm, ← List.mem_append, List.take_append_drop]
    obtain ⟨hc2, hs2⟩ := hC (rs.drop k ++ rs.take k) (fun r h => (hmem r).2 h) (by simp; omega)
    have hsl1 : ∀ c, slSlV 6 none (some (.int .i64 (k : Int))) (.isl (rs.map GR.enc) c) = some (.isl ((rs.map GR.enc).take k) false) := fun c => slI_take (by simp; omega)
    have hsl2 : ∀ c, slSlV 6 (some (.int .i64 (k : Int))) none (.isl (rs.map GR.enc) c) = some (.isl ((rs.map GR.enc).drop k) false) := fun c => slI_drop (n := k) (by simp; omega) (lenIs_map GR.enc 6 (fun _ => rfl) rs)
    obtain ⟨x1, σ1, a1, L1, l1, k1⟩ := (LO.nil 2 6 true [AObj.cells [.isl (relsD.map GD.enc) false, .isl [] false, .isl (rs.map GR.enc) false] 0 false, AObj.cells [.isl (relsD.map GD.enc) false, .isl [] false, .isl (rs.map GR.enc) false] 0 false]).isl (bytes := 104) (b := false) ((rs.map GR.enc).drop k) (by rw [← List.map_drop]; exact GR.encs_okEl _) (by simp; omega) (by omega) (by omega) (by simp)
    obtain ⟨x2, σ2, a2, L2, l2, k2⟩ := L1.isl (bytes := 104) (b := false) ((rs.map GR.enc).take k) (by rw [← List.map_take]; exact GR.encs_okEl _) (by simp; omega) (by omega) (by omega) (by simp at l1; omega)
    have g0 : σ1[0]? = some (.cells [.isl (relsD.map GD.enc) false, .isl [] false, .isl (rs.map GR.enc) false] 0 false) := by rw [k1 0 (by omega)]; rfl
    have g1 : σ1[1]? = some (.cells [.isl (relsD.map GD.enc) false, .isl [] false, .isl (rs.map GR.enc) false] 0 false) := by rw [k1 1 (by omega)]; rfl
    have g2 : σ2[1]? = some (.cells [.isl (relsD.map GD.enc) false, .isl [] false, .isl (rs.map GR.enc) false] 0 false) := by rw [k2 1 (by omega)]; exact g1
    have g3 : σ2[0]? = some (.cells [.isl (relsD.map GD.enc) false, .isl [] false, .isl (rs.map GR.enc) false] 0 false) := by rw [k2 0 (by omega)]; exact g0
    have hl2 : 2 ≤ σ2.length := by simp at l1; omega
    have hcl := fun τ => L2.close1 τ
    rw [List.nil_append, ← List.map_take, ← List.map_drop, ← List.map_append] at hcl
    have hst2 : ∀ bs τ, callT T 10 [.agg [.isl (relsD.map GD.enc) false, .isl [] false, x2]] bs τ = some (resS ⟨relsD, [], rs.drop k ++ rs.take k⟩, τ) := fun bs τ => callStrataI _ hs2 (by simp [closeA, closeL, hcl, GP.enc_eq]) bs
    have gs : ∀ o, (σ2.set 1 o)[1]? = some o := fun o => list_set_at (by omega)
    have gs0 : ∀ o, (σ2.set 1 o)[0]? = some (.cells [.isl (relsD.map GD.enc) false, .isl [] false, .isl (rs.map GR.enc) false] 0 false) := fun o => by rw [List.getElem?_set_ne (by omega)]; exact g3
    have hi0 : ∀ bs σ, callT T 13 [.isl [] false, .isl [] false] bs σ = some (.bool true, σ) := fun bs σ => callInts [] [] (by simp) (by simp) bs σ
    by_cases hz : (firstP ⟨relsD, [], []⟩ rs 0).1 = 0
    · have hz2 : (firstP ⟨relsD, [], []⟩ (rs.drop k ++ rs.take k) 0).1 = 0 := (first_iff _).2 fun r h => (first_iff _).1 hz r ((hmem r).2 h)
      rw [← hc1] at hz
      rw [← hc2] at hz2
      have hck := chk_ok hz
      have hE : ∀ e ∈ edgesP ⟨relsD, [], rs⟩, e.head < (GP.mk relsD [] rs).decls.length ∧ e.on < (GP.mk relsD [] rs).decls.length := fun e he => ⟨(edge_lt hck he).1, (edge_lt hck he).2.1⟩
      have hsame := ans_same (p := ⟨relsD, [], rs⟩) (q := ⟨relsD, [], rs.drop k ++ rs.take k⟩) rfl (fun r => hmem r) hE
      have hA := ansE_ans hE
      have r1 : resS ⟨relsD, [], rs⟩ = resO (ansE (edgesP ⟨relsD, [], rs⟩) (GP.mk relsD [] rs).decls.length) := by unfold resS; rw [if_neg (by rw [hz]; simp)]
      have r2 : resS ⟨relsD, [], rs.drop k ++ rs.take k⟩ = resO (ansE (edgesP ⟨relsD, [], rs⟩) (GP.mk relsD [] rs).decls.length) := by unfold resS; rw [if_neg (by rw [hz2]; simp), hsame]
      rw [r1] at hst
      simp only [r2] at hst2
      generalize ansE (edgesP ⟨relsD, [], rs⟩) (GP.mk relsD [] rs).decls.length = o at *
      cases o with
      | none =>
        simp [-getElem?_pos, List.getElem?_cons_zero, List.getElem?_cons_succ, c5, callAwake8, hP, setRun, hst, h0', h0, hpk, hsl1, hsl2, a1, L1.closeS, a2, g1, g2, L2.solid, L2.cells, gs, gs0, hst2, chkO_l, objOf, k1, resO, hi0]
        done
      | some l =>
        have hl6 : l.length = 6 := hA.1
        have hil := callInts l l (by omega) (by omega)
        simp [-getElem?_pos, List.getElem?_cons_zero, List.getElem?_cons_succ, c5, callAwake8, hP, setRun, hst, h0', h0, hpk, hsl1, hsl2, a1, L1.closeS, a2, g1, g2, L2.solid, L2.cells, gs, gs0, hst2, chkO_l, objOf, k1, resO, hil]
        done
    · have hz2 : ¬ (firstP ⟨relsD, [], []⟩ (rs.drop k ++ rs.take k) 0).1 = 0 := fun h => hz ((first_iff _).2 fun r hr => (first_iff _).1 h r ((hmem r).1 hr))
      rw [← hc1] at hz
      rw [← hc2] at hz2
      have r1 : resS ⟨relsD, [], rs⟩ = .tup [.isl [] false, .int .i64 (checkP ⟨relsD, [], rs⟩).1] := by unfold resS; rw [if_pos hz]
      have r2 : resS ⟨relsD, [], rs.drop k ++ rs.take k⟩ = .tup [.isl [] false, .int .i64 (checkP ⟨relsD, [], rs.drop k ++ rs.take k⟩).1] := by unfold resS; rw [if_pos hz2]
      rw [r1] at hst
      simp only [r2] at hst2
      simp [-getElem?_pos, List.getElem?_cons_zero, List.getElem?_cons_succ, c5, callAwake8, hP, setRun, hst, h0', h0, hpk, hsl1, hsl2, a1, L1.closeS, a2, g1, g2, L2.solid, L2.cells, gs, gs0, hst2, chkO_l, objOf, k1, hi0, hz, hz2]
      done
end Go.Proofs.Ytpgakkhfjjhpdaa
end
section
set_option maxRecDepth 100000
namespace Go.Proofs.Ytpgakkhfjjhpdaa
open Go.Mach
def plL (l : GL) : Bool := decide (l.kind ≠ 2)
def plR (r : GR) : Bool := decide (r.agg = ⟨#[]⟩) && r.body.all plL
theorem plain_up {p : GP} (h : p.rules.all plR = true) : ∀ e ∈ edgesP p, e.up = 0 := by
  intro e he
  obtain ⟨r, hr, l, hl, h1⟩ := mem_edges.1 he
  have h2 := List.all_eq_true.1 h r hr
  simp only [plR, Bool.and_eq_true, decide_eq_true_eq, List.all_eq_true, plL] at h2
  have h3 := h2.2 l hl
  unfold edgeL upL at h1
  rw [if_neg (by rintro (h | ⟨_, h⟩); exact h3 h; exact h h2.1)] at h1
  split at h1
  · simp at h1; rw [← h1]
  · simp at h1
set_option maxHeartbeats 4000000 in
theorem strataLess_ok (rules : List (List GRaw)) (which : Int) (hr : RawsOk rules) (hw : GV.i64ok which) : pureT T c6 [.isl (encRR rules) false, .int .i64 which] = some (.bool true) := by
  obtain ⟨rs, h6, hP, hC⟩ := raw_prog0 rules hr
  obtain ⟨hc1, hs1⟩ := hC rs (fun _ h => h) (by omega)
  have hst := callStrata _ hs1
  simp only [GP.enc_eq, List.map_nil] at hst
  apply pure_enter (by simp [c6])
  by_cases hz : (firstP ⟨relsD, [], []⟩ rs 0).1 = 0
  · have hz' := hz
    rw [← hc1] at hz
    have hck := chk_ok hz
    have hE : ∀ e ∈ edgesP ⟨relsD, [], rs⟩, e.head < 6 ∧ e.on < 6 := fun e he => ⟨(edge_lt hck he).1, (edge_lt hck he).2.1⟩
    have hA : Ans (edgesP ⟨relsD, [], rs⟩) 6 (ansE (edgesP ⟨relsD, [], rs⟩) 6) := ansE_ans hE
    have r1 : resS ⟨relsD, [], rs⟩ = resO (ansE (edgesP ⟨relsD, [], rs⟩) 6) := by unfold resS; rw [if_neg (by rw [hz]; simp)]; rfl
    rw [r1] at hst
    generalize ho : ansE (edgesP ⟨relsD, [], rs⟩) 6 = o at *
    cases o with
    | none => simp [c6, callAwake8, hP, setRun, hst, resO]
    | some s =>
      have hs6 : s.length = 6 := hA.1
      by_cases h0 : rs.length = 0
      · have : rs = [] := List.length_eq_zero_iff.1 h0
        subst this
        simp only [List.map_nil] at hP hst
        simp [c6, callAwake8, hP, setRun, hst, resO]
      · have h0' : ¬ (rs.length : Int) = 0 := by omega
        have hpk := pick8 which rs.length (by omega) hw
        have hkl := pickN_lt (c := which) (n := rs.length) (by omega)
        generalize pickN which rs.length = k at *
        have hsub : ∀ r, r ∈ rs.take k ++ rs.drop (k + 1) → r ∈ rs := fun r h => by
          rcases List.mem_append.1 h with h | h
          · exact List.mem_of_mem_take h
          · exact List.mem_of_mem_drop h
        obtain ⟨hc2, hs2⟩ := hC (rs.take k ++ rs.drop (k + 1)) hsub (by simp; omega)
        have hz2 : (firstP ⟨relsD, [], []⟩ (rs.take k ++ rs.drop (k + 1)) 0).1 = 0 := (first_iff _).2 fun r h => (first_iff _).1 hz' r (hsub r h)
        rw [← hc2] at hz2
        have hE2 : ∀ e ∈ edgesP ⟨relsD, [], rs.take k ++ rs.drop (k + 1)⟩, e ∈ edgesP ⟨relsD, [], rs⟩ := fun e he => by
          rw [mem_edges] at he ⊢
          obtain ⟨r, h1, h2⟩ := he
          exact ⟨r, hsub r h1, h2⟩
        have hA2 : Ans (edgesP ⟨relsD, [], rs.take k ++ rs.drop (k + 1)⟩) 6 (ansE (edgesP ⟨relsD, [], rs.take k ++ rs.drop (k + 1)⟩) 6) := ansE_ans fun e he => hE e (hE2 e he)
        obtain ⟨t, ht, hle⟩ := Ans.less hE2 hA hA2
        have r2 : resS ⟨relsD, [], rs.take k ++ rs.drop (k + 1)⟩ = resO (some t) := by unfold resS; rw [if_neg (by rw [hz2]; simp), ← ht]; rfl
        rw [ht] at hA2
        have ht6 : t.length = 6 := hA2.1
        have hzero : (rs.all plR) = true → ∀ i, gN s i = 0 := fun h i => hA.zero (plain_up (p := ⟨relsD, [], rs⟩) h) i
        have hsl1 : ∀ c, slSlV 6 none (some (.int .i64 (k : Int))) (.isl (rs.map GR.enc) c) = some (.isl ((rs.map GR.enc).take k) false) := fun c => slI_take (by simp; omega)
        have hsl2 : ∀ c, slSlV 6 (some (.int .i64 ((k : Int) + 1))) none (.isl (rs.map GR.enc) c) = some (.isl ((rs.map GR.enc).drop (k + 1)) false) := fun c => slI_drop (n := k + 1) (by simp; omega) (lenIs_map GR.enc 6 (fun _ => rfl) rs)
        have hwk : IntKind.i64.wrap ((k : Int) + 1) = (k : Int) + 1 := wr64 (by omega) (by omega)
        obtain ⟨x1, σ1, a1, L1, l1, k1⟩ := (LO.nil 2 6 true [AObj.cells [.isl (relsD.map GD.enc) false, .isl [] false, .isl (rs.map GR.enc) false] 0 false, AObj.cells [.isl (relsD.map GD.enc) false, .isl [] false, .isl (rs.map GR.enc) false] 0 false]).isl (bytes := 104) (b := false) ((rs.map GR.enc).take k) (by rw [← List.map_take]; exact GR.encs_okEl _) (by simp; omega) (by omega) (by omega) (by simp)
        obtain ⟨x2, σ2, a2, L2, l2, k2⟩ := L1.isl (bytes := 104) (b := false) ((rs.map GR.enc).drop (k + 1)) (by rw [← List.map_drop]; exact GR.encs_okEl _) (by simp; omega) (by omega) (by omega) (by simp at l1; omega)
        have g0 : σ1[0]? = some (.cells [.isl (relsD.map GD.enc) false, .isl [] false, .isl (rs.map GR.enc) false] 0 false) := by rw [k1 0 (by omega)]; rfl
        have g1 : σ1[1]? = some (.cells [.isl (relsD.map GD.enc) false, .isl [] false, .isl (rs.map GR.enc) false] 0 false) := by rw [k1 1 (by omega)]; rfl
        have g2 : σ2[1]? = some (.cells [.isl (relsD.map GD.enc) false, .isl [] false, .isl (rs.map GR.enc) false] 0 false) := by rw [k2 1 (by omega)]; exact g1
        have g3 : σ2[0]? = some (.cells [.isl (relsD.map GD.enc) false, .isl [] false, .isl (rs.map GR.enc) false] 0 false) := by rw [k2 0 (by omega)]; exact g0
        have hl2 : 2 ≤ σ2.length := by simp at l1; omega
        have hcl := fun τ => L2.close1 τ
        rw [List.nil_append, ← List.map_take, ← List.map_drop, ← List.map_append] at hcl
        have hst2 : ∀ bs τ, callT T 10 [.agg [.isl (relsD.map GD.enc) false, .isl [] false, x2]] bs τ = some (resO (some t), τ) := fun bs τ => by
          rw [← r2]
          exact callStrataI _ hs2 (by simp [closeA, closeL, hcl, GP.enc_eq]) bs
        have gs : ∀ o, (σ2.set 1 o)[1]? = some o := fun o => list_set_at (by omega)
        have gs0 : ∀ o, (σ2.set 1 o)[0]? = some (.cells [.isl (relsD.map GD.enc) false, .isl [] false, .isl (rs.map GR.enc) false] 0 false) := fun o => by rw [List.getElem?_set_ne (by omega)]; exact g3
        simp [-getElem?_pos, List.getElem?_cons_zero, List.getElem?_cons_succ, c6, callAwake8, hP, setRun, hst, h0', h0, hpk, hsl1, hsl2, hwk, a1, L1.closeS, a2, g1, g2, L2.solid, L2.cells, gs, gs0, hst2, chkO_l, objOf, k1, resO, encN8_len, hs6, ht6]
        refine W_for T 0 134 rs.length (fun i f σ => f 5 = .bool true ∧ f 6 = .ptr 0 0 ∧ f 7 = .isl (encN8 s) false ∧ f 11 = .isl (encN8 t) false ∧ f 13 = .bool ((rs.take i).all plR) ∧ f 14 = .int .i64 (i : Int) ∧ σ[0]? = some (.cells [.isl (relsD.map GD.enc) false, .isl [] false, .isl (rs.map GR.enc) false] 0 false)) ?_ _ _ ?_
        · rintro i f σ hi ⟨h5, h6', h7, h11, h13, h14, z0⟩
          by_cases hlt : i < rs.length
          · have hwi : IntKind.i64.wrap ((i : Int) + 1) = (i : Int) + 1 := wr64 (by omega) (by omega)
            have e0 : rs[i]? = some rs[i] := List.getElem?_eq_getElem hlt
            have hstep : (rs.take (i + 1)).all plR = ((rs.take i).all plR && plR rs[i]) := by rw [List.take_succ_eq_append_getElem hlt, List.all_append]; simp
            have hrs : rs[i].size ≤ 1000000000 := by
              have h1 := GP.rules_mem ⟨relsD, [], rs⟩ (List.getElem_mem hlt)
              have : (GP.mk relsD [] rs).size ≤ 1000000000 := hs1
              omega
            have hbl := GR.body_len rs[i]
            rw [hstep]
            generalize rs[i] = r at *
            generalize (rs.take i).all plR = P at *
            cases hP2 : P with
            | false =>
              rw [hP2] at h13
              simp [-getElem?_pos, List.getElem?_cons_zero, List.getElem?_cons_succ, h5, h6', h7, h11, h13, h14, z0, hlt, e0, GR.enc_eq]
              refine W_for T 0 134 r.body.length (fun j f σ => f 5 = .bool true ∧ f 6 = .ptr 0 0 ∧ f 7 = .isl (encN8 s) false ∧ f 11 = .isl (encN8 t) false ∧ f 13 = .bool (false && (r.body.take j).all plL) ∧ f 14 = .int .i64 (i : Int) ∧ f 15 = .int .i64 (j : Int) ∧ σ[0]? = some (.cells [.isl (relsD.map GD.enc) false, .isl [] false, .isl (rs.map GR.enc) false] 0 false)) ?_ _ _ ?_
              · clear h5 h6' h7 h11 h13 h14 z0
                rintro j f σ hj ⟨h5, h6', h7, h11, h13, h14, h15, z0⟩
                by_cases hjl : j < r.body.length
                · have hwj : IntKind.i64.wrap ((j : Int) + 1) = (j : Int) + 1 := wr64 (by omega) (by omega)
                  have e1 : r.body[j]? = some r.body[j] := List.getElem?_eq_getElem hjl
                  have hst2 : (r.body.take (j + 1)).all plL = ((r.body.take j).all plL && plL r.body[j]) := by rw [List.take_succ_eq_append_getElem hjl, List.all_append]; simp
                  rw [hst2]
                  generalize r.body[j] = l at *
                  cases hB : (false && (r.body.take j).all plL) with
                  | false =>
                    rw [hB] at h13
                    rw [← Bool.and_assoc, hB]
                    simp [-getElem?_pos, List.getElem?_cons_zero, List.getElem?_cons_succ, h5, h6', h7, h11, h13, h14, h15, z0, hlt, e0, e1, GR.enc_eq, GL.enc_eq, hjl, hwj]
                  | true =>
                    rw [hB] at h13
                    rw [← Bool.and_assoc, hB]
                    by_cases hk : l.kind = 2
                    · have hpl : plL l = false := by simp [plL, hk]
                      simp [-getElem?_pos, List.getElem?_cons_zero, List.getElem?_cons_succ, h5, h6', h7, h11, h13, h14, h15, z0, hlt, e0, e1, GR.enc_eq, GL.enc_eq, hjl, hwj, hk, hpl]
                    · have hpl : plL l = true := by simp [plL, hk]
                      simp [-getElem?_pos, List.getElem?_cons_zero, List.getElem?_cons_succ, h5, h6', h7, h11, h13, h14, h15, z0, hlt, e0, e1, GR.enc_eq, GL.enc_eq, hjl, hwj, hk, hpl]
                · have he : j = r.body.length := by omega
                  subst he
                  rw [List.take_length] at h13
                  have hq : (false && r.body.all plL) = (false && plR r) := by simp
                  rw [hq] at h13
                  simp [-getElem?_pos, List.getElem?_cons_zero, List.getElem?_cons_succ, h5, h6', h7, h11, h13, h14, h15, z0, hlt, e0, GR.enc_eq, hwi]
              · simp [h5, h6', h7, h11, h14, z0, List.take_zero]
            | true =>
              rw [hP2] at h13
              by_cases ha : r.agg = ⟨#[]⟩
              · have ha' := eq_true ha
                simp [-getElem?_pos, List.getElem?_cons_zero, List.getElem?_cons_succ, h5, h6', h7, h11, h13, h14, z0, hlt, e0, GR.enc_eq, ha']
                refine W_for T 0 134 r.body.length (fun j f σ => f 5 = .bool true ∧ f 6 = .ptr 0 0 ∧ f 7 = .isl (encN8 s) false ∧ f 11 = .isl (encN8 t) false ∧ f 13 = .bool (true && (r.body.take j).all plL) ∧ f 14 = .int .i64 (i : Int) ∧ f 15 = .int .i64 (j : Int) ∧ σ[0]? = some (.cells [.isl (relsD.map GD.enc) false, .isl [] false, .isl (rs.map GR.enc) false] 0 false)) ?_ _ _ ?_
                · clear h5 h6' h7 h11 h13 h14 z0
                  rintro j f σ hj ⟨h5, h6', h7, h11, h13, h14, h15, z0⟩
                  by_cases hjl : j < r.body.length
                  · have hwj : IntKind.i64.wrap ((j : Int) + 1) = (j : Int) + 1 := wr64 (by omega) (by omega)
                    have e1 : r.body[j]? = some r.body[j] := List.getElem?_eq_getElem hjl
                    have hst2 : (r.body.take (j + 1)).all plL = ((r.body.take j).all plL && plL r.body[j]) := by rw [List.take_succ_eq_append_getElem hjl, List.all_append]; simp
                    rw [hst2]
                    generalize r.body[j] = l at *
                    cases hB : (true && (r.body.take j).all plL) with
                    | false =>
                      rw [hB] at h13
                      rw [← Bool.and_assoc, hB]
                      simp [-getElem?_pos, List.getElem?_cons_zero, List.getElem?_cons_succ, h5, h6', h7, h11, h13, h14, h15, z0, hlt, e0, e1, GR.enc_eq, GL.enc_eq, hjl, hwj]
                    | true =>
                      rw [hB] at h13
                      rw [← Bool.and_assoc, hB]
                      by_cases hk : l.kind = 2
                      · have hpl : plL l = false := by simp [plL, hk]
                        simp [-getElem?_pos, List.getElem?_cons_zero, List.getElem?_cons_succ, h5, h6', h7, h11, h13, h14, h15, z0, hlt, e0, e1, GR.enc_eq, GL.enc_eq, hjl, hwj, hk, hpl]
                      · have hpl : plL l = true := by simp [plL, hk]
                        simp [-getElem?_pos, List.getElem?_cons_zero, List.getElem?_cons_succ, h5, h6', h7, h11, h13, h14, h15, z0, hlt, e0, e1, GR.enc_eq, GL.enc_eq, hjl, hwj, hk, hpl]
                  · have he : j = r.body.length := by omega
                    subst he
                    rw [List.take_length] at h13
                    have hq : (true && r.body.all plL) = (true && plR r) := by unfold plR; simp [ha]
                    rw [hq] at h13
                    simp [-getElem?_pos, List.getElem?_cons_zero, List.getElem?_cons_succ, h5, h6', h7, h11, h13, h14, h15, z0, hlt, e0, GR.enc_eq, hwi]
                · simp [h5, h6', h7, h11, h14, z0, List.take_zero]
              · have ha' := eq_false ha
                simp [-getElem?_pos, List.getElem?_cons_zero, List.getElem?_cons_succ, h5, h6', h7, h11, h13, h14, z0, hlt, e0, GR.enc_eq, ha']
                refine W_for T 0 134 r.body.length (fun j f σ => f 5 = .bool true ∧ f 6 = .ptr 0 0 ∧ f 7 = .isl (encN8 s) false ∧ f 11 = .isl (encN8 t) false ∧ f 13 = .bool (false && (r.body.take j).all plL) ∧ f 14 = .int .i64 (i : Int) ∧ f 15 = .int .i64 (j : Int) ∧ σ[0]? = some (.cells [.isl (relsD.map GD.enc) false, .isl [] false, .isl (rs.map GR.enc) false] 0 false)) ?_ _ _ ?_
                · clear h5 h6' h7 h11 h13 h14 z0
                  rintro j f σ hj ⟨h5, h6', h7, h11, h13, h14, h15, z0⟩
                  by_cases hjl : j < r.body.length
                  · have hwj : IntKind.i64.wrap ((j : Int) + 1) = (j : Int) + 1 := wr64 (by omega) (by omega)
                    have e1 : r.body[j]? = some r.body[j] := List.getElem?_eq_getElem hjl
                    have hst2 : (r.body.take (j + 1)).all plL = ((r.body.take j).all plL && plL r.body[j]) := by rw [List.take_succ_eq_append_getElem hjl, List.all_append]; simp
                    rw [hst2]
                    generalize r.body[j] = l at *
                    cases hB : (false && (r.body.take j).all plL) with
                    | false =>
                      rw [hB] at h13
                      rw [← Bool.and_assoc, hB]
                      simp [-getElem?_pos, List.getElem?_cons_zero, List.getElem?_cons_succ, h5, h6', h7, h11, h13, h14, h15, z0, hlt, e0, e1, GR.enc_eq, GL.enc_eq, hjl, hwj]
                    | true =>
                      rw [hB] at h13
                      rw [← Bool.and_assoc, hB]
                      by_cases hk : l.kind = 2
                      · have hpl : plL l = false := by simp [plL, hk]
                        simp [-getElem?_pos, List.getElem?_cons_zero, List.getElem?_cons_succ, h5, h6', h7, h11, h13, h14, h15, z0, hlt, e0, e1, GR.enc_eq, GL.enc_eq, hjl, hwj, hk, hpl]
                      · have hpl : plL l = true := by simp [plL, hk]
                        simp [-getElem?_pos, List.getElem?_cons_zero, List.getElem?_cons_succ, h5, h6', h7, h11, h13, h14, h15, z0, hlt, e0, e1, GR.enc_eq, GL.enc_eq, hjl, hwj, hk, hpl]
                  · have he : j = r.body.length := by omega
                    subst he
                    rw [List.take_length] at h13
                    have hq : (false && r.body.all plL) = (true && plR r) := by unfold plR; simp [ha]
                    rw [hq] at h13
                    simp [-getElem?_pos, List.getElem?_cons_zero, List.getElem?_cons_succ, h5, h6', h7, h11, h13, h14, h15, z0, hlt, e0, GR.enc_eq, hwi]
                · simp [h5, h6', h7, h11, h14, z0, List.take_zero]
          · have he : i = rs.length := by omega
            subst he
            rw [List.take_length] at h13
            simp [-getElem?_pos, List.getElem?_cons_zero, List.getElem?_cons_succ, h5, h6', h7, h11, h13, h14, z0]
            refine W_for T 0 134 6 (fun i f σ => f 5 = .bool true ∧ f 7 = .isl (encN8 s) false ∧ f 11 = .isl (encN8 t) false ∧ f 13 = .bool (rs.all plR) ∧ f 16 = .int .i64 (i : Int)) ?_ _ _ ?_
            · clear h5 h7 h11 h13 h14 h6' z0
              rintro i f σ hi ⟨h5, h7, h11, h13, h16⟩
              by_cases hi6 : i < 6
              · have hiI : (i : Int) < 6 := by omega
                have hwi : IntKind.i64.wrap ((i : Int) + 1) = (i : Int) + 1 := wr64 (by omega) (by omega)
                have es := encN8_at (l := s) (i := i) (by omega)
                have et := encN8_at (l := t) (i := i) (by omega)
                have hts : ¬ (gN s i : Int) < (gN t i : Int) := by have := hle i; omega
                cases hpl : rs.all plR with
                | true =>
                  have hz0 : (gN s i : Int) = 0 := by have := hzero hpl i; omega
                  have ht0 : (gN t i : Int) = 0 := by have := hle i; omega
                  rw [hpl] at h13
                  rw [hz0] at es
                  rw [ht0] at et
                  simp [-getElem?_pos, List.getElem?_cons_zero, List.getElem?_cons_succ, h5, h7, h11, h13, h16, encN8_len, hs6, hiI, hi6, es, et, hwi]
                | false =>
                  rw [hpl] at h13
                  simp [-getElem?_pos, List.getElem?_cons_zero, List.getElem?_cons_succ, h5, h7, h11, h13, h16, encN8_len, hs6, hiI, hi6, es, et, hts, hwi]
              · have he : i = 6 := by omega
                subst he
                simp [h5, h7, h11, h13, h16, encN8_len, hs6]
            · simp [h5, h7, h11, h13]
        · simp [gs0]
  · rw [← hc1] at hz
    have r1 : resS ⟨relsD, [], rs⟩ = .tup [.isl [] false, .int .i64 (checkP ⟨relsD, [], rs⟩).1] := by unfold resS; rw [if_pos hz]
    rw [r1] at hst
    simp [c6, callAwake8, hP, setRun, hst, hz]
end Go.Proofs.Ytpgakkhfjjhpdaa
end
