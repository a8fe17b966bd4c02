import Derived.Test.YtpkfkipbemdhmaaGreatDoorC7
section
set_option linter.unusedVariables false
set_option linter.unusedSimpArgs false
set_option linter.unnecessarySimpa false
namespace Go.Mach
def ACode.fst : ACode → ACode | .seq a _ => a | c => c
def ACode.snd : ACode → ACode | .seq _ b => b | c => c
def ACode.inn : ACode → ACode | .block _ c => c | .loop c => c | c => c
end Go.Mach
namespace Go.Proofs.YtpkfkipbemdhmaaGreatDoor
open Go.Mach
def LstA (R : Heap) (off : Nat) (es : List AV) (sz : Nat) (x : AV) : Prop := (es = [] ∧ x = .isl [] true) ∨ ∃ k, x = .own (k + off) es ∧ R[k]? = some (.tok es.length sz)
def LstB (es : List AV) (x : AV) : Prop := (es = [] ∧ x = .isl [] true) ∨ ∃ k, x = .own k es
theorem LstA.b {R : Heap} {off sz : Nat} {es : List AV} {x : AV} (h : LstA R off es sz x) : LstB es x := by
  rcases h with h | ⟨k, h, _⟩
  · exact .inl h
  · exact .inr ⟨_, h⟩
theorem LstB.close {σ : Heap} {es : List AV} {x : AV} (h : LstB es x) : close1 σ x = some (.isl es false, σ) := by
  rcases h with ⟨rfl, rfl⟩ | ⟨k, rfl⟩
  · rfl
  · rfl
theorem LstA.more {R : Heap} {off sz : Nat} {es : List AV} {x : AV} (h : LstA R off es sz x) (S : Heap) : LstA (R ++ S) off es sz x := by
  rcases h with h | ⟨k, h1, h2⟩
  · exact .inl h
  · exact .inr ⟨k, h1, by rw [List.getElem?_append_left (List.getElem?_eq_some_iff.1 h2).1]; exact h2⟩
theorem LstA.snoc {R T : Heap} {k off sz : Nat} {es : List AV} {v : AV} (hk : k < R.length) : LstA (R.set k (.tok (es.length + 1) sz) ++ T) off (es ++ [v]) sz (.own (k + off) (es ++ [v])) :=
  .inr ⟨k, rfl, by rw [List.getElem?_append_left (by simpa using hk)]; simp [hk]⟩
theorem allEl_map {α : Type} (enc : α → AV) (sz : Nat) (h : ∀ x, okEl sz true (enc x) = true) (l : List α) : (l.map enc).all (okEl sz true) = true := by
  rw [List.all_eq_true]; intro y hy
  obtain ⟨x, _, rfl⟩ := List.mem_map.1 hy; exact h x
theorem take_map {α β : Type} (f : α → β) (l : List α) (i : Nat) (h : i < l.length) : (l.take (i + 1)).map f = (l.take i).map f ++ [f l[i]] := by
  rw [List.take_add_one, List.getElem?_eq_getElem h, List.map_append]; rfl
theorem grow {pre R : Heap} {m sz bytes fz : Nat} {ext : Bool} {es : List AV} {x : AV} {cs : List AV} (hx : LstA R pre.length es sz x) (hm : R[m]? = some (.cells cs fz ext)) (hl : cs.length = sz) (hc : cs.all AV.clo1 = true) (h0 : 0 < sz) (hb : bytes ≤ 1000) (hes : es.all (okEl sz true) = true) (hn : es.length ≤ 10000000000) :
    ∃ x' R2, appendC (pre ++ R) sz true bytes false x (.sl (m + pre.length) 0 1 sz true) = some (x', pre ++ R2) ∧ LstA R2 pre.length (es ++ [.agg (cs.map AV.nrm)]) sz x' ∧ ∀ (j : Nat) cs' f e, R[j]? = some (AObj.cells cs' f e) → R2[j]? = some (AObj.cells cs' f e) := by
  have hmσ : (pre ++ R)[m + pre.length]? = some (.cells cs fz ext) := by rw [List.getElem?_append_right (by omega), Nat.add_sub_cancel]; exact hm
  rcases hx with ⟨rfl, rfl⟩ | ⟨k, rfl, hk⟩
  · refine ⟨.own (R.length + pre.length) [.agg (cs.map AV.nrm)], R ++ [.tok 1 sz], ?_, .inr ⟨R.length, rfl, by simp⟩, fun j cs' f e hj => by rw [List.getElem?_append_left (List.getElem?_eq_some_iff.1 hj).1]; exact hj⟩
    rw [appendC_clo hmσ hc, closeS_isl]
    refine app_ag hmσ hl hc h0 hb ?_
    simp [Nat.add_comm]
  · have hkl : k < R.length := (List.getElem?_eq_some_iff.1 hk).1
    refine ⟨.own (k + pre.length) (es ++ [.agg (cs.map AV.nrm)]), R.set k (.tok (es.length + 1) sz), ?_, .inr ⟨k, rfl, by simp [hkl]⟩, fun j cs' f e hj => ?_⟩
    · rw [appendC_clo hmσ hc, closeS_own]
      refine app_ag hmσ hl hc h0 hb ?_
      rw [app1_own hes hn (by rw [List.getElem?_append_right (by omega), Nat.add_sub_cancel]; exact hk)]
      rw [List.set_append_right _ _ (by omega), Nat.add_sub_cancel]
    · have : k ≠ j := fun e => by subst e; rw [hk] at hj; cases hj
      rw [List.getElem?_set, if_neg this]; exact hj
theorem growC {pre R R1 : Heap} {m sz bytes fz fz1 : Nat} {ext ext1 : Bool} {es : List AV} {x : AV} {cs ys : List AV} (hx : LstA R pre.length es sz x) (hm : R[m]? = some (.cells cs fz ext)) (hl : ys.length = sz) (hcn : cs.all AV.clo1 = false) (hcl : closeL (pre ++ R) cs = some (ys, pre ++ R1)) (hm1 : R1[m]? = some (.cells cs fz1 ext1))
    (hlc : cs.length = ys.length) (hc : ys.all AV.clo1 = true) (htok : ∀ (k n s : Nat), R[k]? = some (AObj.tok n s) → R1[k]? = some (AObj.tok n s)) (hRl : R1.length = R.length) (h0 : 0 < sz) (hb : bytes ≤ 1000) (hes : es.all (okEl sz true) = true) (hn : es.length ≤ 10000000000) :
    ∃ x' R2, appendC (pre ++ R) sz true bytes false x (.sl (m + pre.length) 0 1 sz true) = some (x', pre ++ R2) ∧ LstA R2 pre.length (es ++ [.agg (ys.map AV.nrm)]) sz x' := by
  have hmσ : (pre ++ R)[m + pre.length]? = some (.cells cs fz ext) := by rw [List.getElem?_append_right (by omega), Nat.add_sub_cancel]; exact hm
  have hm1σ : (pre ++ R1)[m + pre.length]? = some (.cells cs fz1 ext1) := by rw [List.getElem?_append_right (by omega), Nat.add_sub_cancel]; exact hm1
  have hset : (pre ++ R1).set (m + pre.length) (.cells ys fz1 ext1) = pre ++ R1.set m (.cells ys fz1 ext1) := by rw [List.set_append_right _ _ (by omega), Nat.add_sub_cancel]
  have hml : m < R1.length := (List.getElem?_eq_some_iff.1 hm1).1
  rcases hx with ⟨rfl, rfl⟩ | ⟨k, rfl, hk⟩
  · refine ⟨.own (R.length + pre.length) [.agg (ys.map AV.nrm)], R1.set m (.cells ys fz1 ext1) ++ [.tok 1 sz], ?_, .inr ⟨R.length, rfl, by rw [← hRl]; simp⟩⟩
    refine appendC_close hmσ hcn hcl hm1σ hlc hc hl h0 hb ?_
    rw [hset]
    simp [Nat.add_comm, hRl]
  · have hk1 := htok _ _ _ hk
    have hkl : k < R1.length := (List.getElem?_eq_some_iff.1 hk1).1
    have hkm : m ≠ k := fun e => by subst e; rw [hk] at hm; cases hm
    refine ⟨.own (k + pre.length) (es ++ [.agg (ys.map AV.nrm)]), (R1.set m (.cells ys fz1 ext1)).set k (.tok (es.length + 1) sz), ?_, .inr ⟨k, rfl, by simp [hkl]⟩⟩
    refine appendC_close hmσ hcn hcl hm1σ hlc hc hl h0 hb ?_
    rw [hset, app1_own hes hn (by rw [List.getElem?_append_right (by omega), Nat.add_sub_cancel, List.getElem?_set, if_neg hkm]; exact hk1)]
    rw [List.set_append_right _ _ (by omega), Nat.add_sub_cancel]
theorem frz_app {pre R : Heap} {k n : Nat} : frz (pre ++ R) (k + pre.length) n = pre ++ frz R k n := by
  have e : (pre ++ R)[k + pre.length]? = R[k]? := by rw [List.getElem?_append_right (by omega), Nat.add_sub_cancel]
  unfold frz
  rw [e]
  split
  · rw [List.set_append_right _ _ (by omega), Nat.add_sub_cancel]
  · rfl
theorem frz_tok {R : Heap} {j m : Nat} {k n s : Nat} (h : R[k]? = some (.tok n s)) : (frz R j m)[k]? = some (.tok n s) := by
  unfold frz
  split
  · rename_i hj
    have : j ≠ k := fun e => by subst e; rw [h] at hj; cases hj
    rw [List.getElem?_set, if_neg this]; exact h
  · exact h
theorem frz_len {R : Heap} {j m : Nat} : (frz R j m).length = R.length := by unfold frz; split <;> simp
theorem LstA.cell {R : Heap} {off sz : Nat} {es : List AV} {x : AV} (h : LstA R off es sz x) : x.solid = true ∧ x.cells = [x] := by
  rcases h with ⟨_, rfl⟩ | ⟨k, rfl, _⟩ <;> exact ⟨rfl, rfl⟩
def fitP (p : GP) (xd xu xr : AV) (R : Heap) : Heap := .cells [.isl (p.decls.map GD.enc) false, .isl (p.facts.map GU.enc) false, .isl (p.rules.map GR.enc) false] 0 false :: .cells [.isl [] true, .isl [] true, .isl [] true] 0 false :: .cells [xd, xu, xr] 0 false :: R
theorem fit1 (p : GP) (hp : p.ok) (hs : p.size ≤ 1048576) (K : List Fr) (Q : AExit → FR → Heap → Prop) (f : FR) (σ : Heap) (h1 : f 1 = .ptr 0 0) (h2 : f 2 = .ptr 1 0) (h3 : f 3 = .ptr 2 0) (hσ : σ = fitP p (.isl [] true) (.isl [] true) (.isl [] true) [])
    (hk : ∀ f σ, f 1 = .ptr 0 0 → f 2 = .ptr 1 0 → f 3 = .ptr 2 0 → (∃ xd R, σ = fitP p xd (.isl [] true) (.isl [] true) R ∧ LstB (((p.decls.take 64).map declOf).map GD.enc) xd) → wpK T 0 202 K f σ Q) :
    wpK T 0 202 (.code c10.body.snd.snd.fst :: K) f σ Q := by
  subst hσ
  have hl := p.decls_len
  have hm := fun y hy => p.decls_mem (y := y) hy
  have hok : ∀ d ∈ p.decls, GV.i64ok d.arity := fun d hd => (hp.1 d hd)
  simp [c10, ACode.fst, ACode.snd, fitP]
  refine W_for T 0 202 (min p.decls.length 64) (fun i f σ => f 1 = .ptr 0 0 ∧ f 2 = .ptr 1 0 ∧ f 3 = .ptr 2 0 ∧ f 4 = .int .i64 (i : Int) ∧ ∃ xd R, σ = fitP p xd (.isl [] true) (.isl [] true) R ∧ LstA R 3 (((p.decls.take i).map declOf).map GD.enc) 2 xd) ?_ _ _ ?_
  rotate_left 1
  · exact ⟨by simp [h1], by simp [h2], by simp [h3], by simp, _, _, rfl, .inl ⟨by simp, rfl⟩⟩
  clear h1 h2 h3
  rintro i f σ hi ⟨h1, h2, h3, h4, xd, R, rfl, hx⟩
  by_cases hlt : i < min p.decls.length 64
  · have c1 : i < p.decls.length := by omega
    have c2 : (i : Int) < 64 := by omega
    have hmem := List.getElem_mem c1
    have hsz := hm _ hmem
    have hn := GD.name_le p.decls[i]
    have hlw : IntKind.i64.wrap ((i : Int) + 1) = (i : Int) + 1 := wr64 (by omega) (by omega)
    have hr := lawRel p.decls[i].name (by omega)
    have hq := pickQ p.decls[i].arity 8 (by omega) (hok _ hmem)
    have hql := pickN_lt (c := p.decls[i].arity) (n := 8) (by omega)
    have hw2 : IntKind.i64.wrap (1 + (pickN p.decls[i].arity 8 : Int)) = 1 + (pickN p.decls[i].arity 8 : Int) := wr64 (by omega) (by omega)
    have he : declOf p.decls[i] = ⟨relOf p.decls[i].name, 1 + (pickN p.decls[i].arity 8 : Int)⟩ := rfl
    rw [take_map declOf _ _ c1, List.map_append]
    have hall := allEl_map GD.enc 2 (fun x => rfl) ((p.decls.take i).map declOf)
    have hlen : (((p.decls.take i).map declOf).map GD.enc).length = i := by simp; omega
    have hnil : i = 0 → ((p.decls.take i).map declOf).map GD.enc = [] := fun h => by subst h; rfl
    generalize hES : ((p.decls.take i).map declOf).map GD.enc = es at *
    have hq : ∀ bs σ, callT T 20 [.int .i64 p.decls[i].arity, .int .i64 8] bs σ = some (.int .i64 (pickN p.decls[i].arity 8 : Int), σ) := hq
    rcases hx with ⟨h0, rfl⟩ | ⟨k, rfl, hk2⟩
    · subst h0
      simp [fitP, h1, h2, h3, h4, c1, c2, hr, hq, hw2, hlw, setRun]
      exact ⟨hlt, _, _, ⟨rfl, rfl⟩, .inr ⟨R.length + 1, rfl, by simp⟩⟩
    · have hkl : k < R.length := (List.getElem?_eq_some_iff.1 hk2).1
      have hne : i ≤ 10000000000 := by omega
      simp [fitP, h1, h2, h3, h4, c1, c2, hr, hq, hw2, hlw, setRun, hk2, hall, hlen, hne, List.getElem?_append_left hkl, List.set_append_left _ _ hkl]
      have := LstA.snoc (T := [AObj.cells [AV.str (relOf p.decls[i].name), AV.int IntKind.i64 (1 + (pickN p.decls[i].arity 8 : Int))] 0 false]) (off := 3) (sz := 2) (es := es) (v := (declOf p.decls[i]).enc) hkl
      rw [hlen] at this
      exact ⟨hlt, _, _, ⟨rfl, rfl⟩, this⟩
  · have c1 : ¬ (i < p.decls.length ∧ (i : Int) < 64) := by omega
    have hfin : (p.decls.take i) = p.decls.take 64 := by
      have : i = min p.decls.length 64 := by omega
      rw [this]; simp [List.take_eq_take_iff, Nat.min_comm]
    rw [hfin] at hx
    by_cases d1 : i < p.decls.length
    · have d2 : ¬ ((i : Int) < 64) := fun h => c1 ⟨d1, h⟩
      simp [fitP, h1, h4, d1, d2]
      exact hk _ _ (by simp [h1]) (by simp [h2]) (by simp [h3]) ⟨_, _, rfl, hx.b⟩
    · simp [fitP, h1, h4, d1]
      exact hk _ _ (by simp [h1]) (by simp [h2]) (by simp [h3]) ⟨_, _, rfl, hx.b⟩
def arr0 (b : Bool) (fz : Nat) : AObj := .cells [.int .i64 3, .int .i64 0, .str ⟨#[97]⟩, .isl [] b] fz false
def TupY (A : AObj) (R2 : Heap) (off : Nat) (l : List GV) (y : AV) : Prop :=
  (l = [] ∧ y = .sl off 0 1 4 true ∧ A = arr0 true 0) ∨ ((l ≠ [] ∧ A = arr0 false 0) ∧ ∃ k, y = .own (k + (off + 2)) (GV.encs (.mk 3 0 ⟨#[97]⟩ [] :: l)) ∧ R2[k]? = some (.tok (l.length + 1) 4))
theorem TupY.close {pre R2 : Heap} {A T : AObj} {off : Nat} {l : List GV} {y : AV} (h : TupY A R2 off l y) (ho : pre.length = off) (R' : Heap) : ∃ A1, close1 (pre ++ (A :: T :: R')) y = some (.isl (GV.encs (.mk 3 0 ⟨#[97]⟩ [] :: l)) false, pre ++ (A1 :: T :: R')) ∧ ∃ cs f e, A1 = .cells cs f e ∨ A1 = A := by
  subst ho
  rcases h with ⟨rfl, rfl, rfl⟩ | ⟨hl, k, rfl, hk⟩
  · refine ⟨arr0 true 4, close1_of0 ?_, _, _, _, .inl rfl⟩
    have e : (pre ++ (arr0 true 0 :: T :: R'))[pre.length]? = some (arr0 true 0) := by simp
    have e2 : frz (pre ++ (arr0 true 0 :: T :: R')) pre.length 4 = pre ++ (arr0 true 4 :: T :: R') := by
      unfold frz; rw [e]; simp [arr0]
    simp [close0, e, arr0, window, chunk, mk, AV.clo1, GV.encs, GV.enc, AV.nrm]
    exact e2
  · exact ⟨A, rfl, [], 0, false, .inr rfl⟩
theorem gvs_len (l : List GV) : (GV.encs l).length = l.length := GV.encs_length l
theorem TupY.cell {A : AObj} {R2 : Heap} {off : Nat} {l : List GV} {y : AV} (h : TupY A R2 off l y) : y.solid = true ∧ y.cells = [y] := by
  rcases h with ⟨_, rfl, _⟩ | ⟨_, k, rfl, _⟩ <;> exact ⟨rfl, rfl⟩
theorem TupY.notok {A : AObj} {R2 : Heap} {off : Nat} {l : List GV} {y : AV} (h : TupY A R2 off l y) (n s : Nat) : ¬ A = .tok n s := by
  rcases h with ⟨_, _, rfl⟩ | ⟨⟨_, rfl⟩, _⟩ <;> (intro e; cases e)
theorem TupY.clo1f {A : AObj} {R2 : Heap} {off : Nat} {l : List GV} {y : AV} (h : TupY A R2 off l y) : y.clo1 = false := by
  rcases h with ⟨_, rfl, _⟩ | ⟨_, k, rfl, _⟩ <;> rfl
theorem TupY.grow {a b c T : AObj} {R R2 : Heap} {A : AObj} {l : List GV} {y : AV} {v : GV} (h : TupY A R2 (R.length + 3) l y) (hl : l.length ≤ 100) :
    ∃ y' R3, appendC (a :: b :: c :: (R ++ (A :: T :: (R2 ++ [.cells v.enc.cells 0 false])))) 4 true 56 false y (.sl (R.length + (R2.length + 1 + 1) + 1 + 1 + 1) 0 1 4 true) = some (y', a :: b :: c :: (R ++ (arr0 false 0 :: T :: R3))) ∧ TupY (arr0 false 0) R3 (R.length + 3) (l ++ [v]) y' := by
  have hvn : v.enc.cells.map AV.nrm = v.enc.cells := by simp [AV.nrm]
  have hvc : v.enc.cells.all AV.clo1 = true := by simp [AV.clo1]
  rcases h with ⟨rfl, rfl, rfl⟩ | ⟨hne, k, rfl, hk⟩
  · have hid : (a :: b :: c :: (R ++ (arr0 true 0 :: T :: (R2 ++ [AObj.cells v.enc.cells 0 false]))))[R.length + 3]? = some (.cells [.int .i64 3, .int .i64 0, .str ⟨#[97]⟩, .isl [] true] 0 false) := by simp [arr0]
    have hj : (a :: b :: c :: (R ++ (arr0 true 0 :: T :: (R2 ++ [AObj.cells v.enc.cells 0 false]))))[R.length + (R2.length + 1 + 1) + 1 + 1 + 1]? = some (.cells v.enc.cells 0 false) := by simp
    have := app_slC (sz := 4) (bytes := 56) hid hj (show R.length + 3 ≠ R.length + (R2.length + 1 + 1) + 1 + 1 + 1 by omega) rfl (by simp) rfl hvc (by omega) (by omega)
    rw [this, hvn]
    have hcs : closeS (a :: b :: c :: (R ++ (arr0 true 0 :: T :: (R2 ++ [AObj.cells v.enc.cells 0 false])))) (.sl (R.length + 3) 0 1 4 true) = a :: b :: c :: (R ++ (arr0 false 0 :: T :: (R2 ++ [AObj.cells v.enc.cells 0 false]))) := by
      unfold closeS
      simp only [hid]
      simp [AV.tidy, AV.clo1, arr0, AV.nrm]
    rw [hcs]
    refine ⟨_, R2 ++ [.cells v.enc.cells 0 false, .tok 2 4], by simp; rfl, .inr ⟨⟨by simp, rfl⟩, R2.length + 1, ?_, by simp⟩⟩
    simp [GV.encs, GV.enc, AV.nrm]
    omega
  · obtain ⟨hne, rfl⟩ := hne
    have hx : LstA (R2 ++ [AObj.cells v.enc.cells 0 false]) (a :: b :: c :: (R ++ [arr0 false 0, T])).length (GV.encs (.mk 3 0 ⟨#[97]⟩ [] :: l)) 4 (.own (k + (R.length + 3 + 2)) (GV.encs (.mk 3 0 ⟨#[97]⟩ [] :: l))) := by
      refine .inr ⟨k, by simp, ?_⟩
      rw [List.getElem?_append_left (List.getElem?_eq_some_iff.1 hk).1, hk, gvs_len]; rfl
    obtain ⟨x', R3, h1, h2, _⟩ := Go.Proofs.YtpkfkipbemdhmaaGreatDoor.grow (bytes := 56) (m := R2.length) (cs := v.enc.cells) (fz := 0) (ext := false) hx (by simp) (by simp) hvc (by omega) (by omega) (encs_okEl _) (by rw [gvs_len]; simp; omega)
    rw [hvn] at h2
    refine ⟨x', R3, ?_, ?_⟩
    · have e0 : ∀ S : Heap, (a :: b :: c :: (R ++ [arr0 false 0, T])) ++ S = a :: b :: c :: (R ++ (arr0 false 0 :: T :: S)) := fun S => by simp
      have e : R2.length + (a :: b :: c :: (R ++ [arr0 false 0, T])).length = R.length + (R2.length + 1 + 1) + 1 + 1 + 1 := by simp; omega
      rw [e0, e0, e] at h1
      exact h1
    · rcases h2 with ⟨h2, _⟩ | ⟨k', h2, h3⟩
      · cases (List.append_eq_nil_iff.1 h2).2
      · refine .inr ⟨⟨by simp, rfl⟩, k', ?_, ?_⟩
        · rw [h2]
          have e2 : AV.agg v.enc.cells = v.enc := by rw [GV.enc_cells]; exact (GV.enc_eq v).symm
          have e3 : GV.encs (.mk 3 0 ⟨#[97]⟩ [] :: l) ++ [AV.agg v.enc.cells] = GV.encs (.mk 3 0 ⟨#[97]⟩ [] :: (l ++ [v])) := by
            rw [e2]; simp only [GV.encs_map, List.map_append, List.map_cons, List.map_nil, List.cons_append]
          rw [e3]; simp
        · rw [h3]; simp [gvs_len]
end Go.Proofs.YtpkfkipbemdhmaaGreatDoor
end
section
set_option linter.unusedVariables false
set_option linter.unusedSimpArgs false
set_option linter.unnecessarySimpa false
namespace Go.Proofs.YtpkfkipbemdhmaaGreatDoor
open Go.Mach
theorem take_min {α : Type} (l : List α) (i n : Nat) (h : i = min l.length n) : l.take i = l.take n := by
  rw [h]; simp [List.take_eq_take_iff, Nat.min_comm]
theorem fit2in (p : GP) (hs : p.size ≤ 1048576) (i : Nat) (hi : i < p.facts.length) (ho : (p.facts[i]).ok) (nm : ByteArray) (xd xu : AV) (R : Heap) (K : List Fr) (Q : AExit → FR → Heap → Prop) (f : FR) (σ : Heap)
    (h1 : f 1 = .ptr 0 0) (h2 : f 2 = .ptr 1 0) (h3 : f 3 = .ptr 2 0) (h5 : f 5 = .int .i64 (i : Int)) (h6 : f 6 = .ptr (R.length + 4) 0) (hσ : σ = fitP p xd xu (.isl [] true) (R ++ [arr0 true 0, .cells [.str nm, .sl (R.length + 3) 0 1 4 true] 0 false]))
    (hk : ∀ f σ, f 1 = .ptr 0 0 → f 2 = .ptr 1 0 → f 3 = .ptr 2 0 → f 5 = .int .i64 (i : Int) → f 6 = .ptr (R.length + 4) 0 →
      (∃ y A R2, σ = fitP p xd xu (.isl [] true) (R ++ (A :: .cells [.str nm, y] 0 false :: R2)) ∧ TupY A R2 (R.length + 3) (((p.facts[i]).args.take 7).map fit) y) → wpK T 0 202 K f σ Q) :
    wpK T 0 202 (.code c10.body.snd.snd.snd.fst.snd.inn.inn.snd.fst.inn.snd.fst :: K) f σ Q := by
  subst hσ
  have hl := p.facts_len
  have hm := p.facts_mem (List.getElem_mem hi)
  have hal := GU.args_le p.facts[i]
  have e1 : p.facts[i]? = some p.facts[i] := List.getElem?_eq_getElem hi
  generalize hu : p.facts[i] = u at *
  have hlen := len_sizes u.args
  simp [c10, ACode.fst, ACode.snd, ACode.inn, fitP]
  refine W_for T 0 202 (min u.args.length 7) (fun j f σ => f 1 = .ptr 0 0 ∧ f 2 = .ptr 1 0 ∧ f 3 = .ptr 2 0 ∧ f 5 = .int .i64 (i : Int) ∧ f 6 = .ptr (R.length + 4) 0 ∧ f 7 = .int .i64 (j : Int) ∧
    ∃ y A R2, σ = fitP p xd xu (.isl [] true) (R ++ (A :: .cells [.str nm, y] 0 false :: R2)) ∧ TupY A R2 (R.length + 3) ((u.args.take j).map fit) y) ?_ _ _ ?_
  rotate_left 1
  · exact ⟨by simp [h1], by simp [h2], by simp [h3], by simp [h5], by simp [h6], by simp, _, _, [], rfl, .inl ⟨by simp, rfl, rfl⟩⟩
  clear h1 h2 h3 h5 h6
  rintro j f σ hj ⟨h1, h2, h3, h5, h6, h7, y, A, R2, rfl, hy⟩
  by_cases hlt : j < min u.args.length 7
  · have c1 : j < u.args.length := by omega
    have c2 : (j : Int) < 7 := by omega
    have hvo : GV.ok u.args[j] := (GV.oks_iff _).1 ho _ (List.getElem_mem c1)
    have hvs := (sizes_mem (List.getElem_mem c1)).1
    have hf := callFit u.args[j] hvo (by omega)
    have hlw : IntKind.i64.wrap ((j : Int) + 1) = (j : Int) + 1 := wr64 (by omega) (by omega)
    rw [take_map fit _ _ c1]
    obtain ⟨y', R3, ha, hy'⟩ := hy.grow (v := fit u.args[j]) (T := .cells [.str nm, y] 0 false) (a := .cells [.isl (p.decls.map GD.enc) false, .isl (p.facts.map GU.enc) false, .isl (p.rules.map GR.enc) false] 0 false) (b := .cells [.isl [] true, .isl [] true, .isl [] true] 0 false) (c := .cells [xd, xu, .isl [] true] 0 false) (by simp; omega)
    generalize (u.args.take j).map fit = done at *
    obtain ⟨s1, s2⟩ := hy'.cell
    simp [← GV.enc_eq] at ha
    simp [fitP, h1, h2, h3, h5, h6, h7, hi, e1, hu, c1, c2, hf, hlw, setRun, ← GV.enc_eq, ha, s1, s2]
    exact ⟨hlt, y', _, R3, ⟨rfl, rfl, rfl⟩, hy'⟩
  · have c1 : ¬ (j < u.args.length ∧ (j : Int) < 7) := by omega
    rw [take_min u.args j 7 (by omega)] at hy
    by_cases d1 : j < u.args.length
    · have d2 : ¬ ((j : Int) < 7) := fun h => c1 ⟨d1, h⟩
      simp [fitP, h1, h2, h3, h5, h6, h7, hi, e1, hu, d1, d2]
      exact hk _ _ (by simp [h1]) (by simp [h2]) (by simp [h3]) (by simp [h5]) (by simp [h6]) ⟨_, _, _, rfl, hy⟩
    · simp [fitP, h1, h2, h3, h5, h6, h7, hi, e1, hu, d1]
      exact hk _ _ (by simp [h1]) (by simp [h2]) (by simp [h3]) (by simp [h5]) (by simp [h6]) ⟨_, _, _, rfl, hy⟩
theorem gu_okEl (x : GU) : okEl 2 true x.enc = true := rfl
theorem fit2 (p : GP) (hp : p.ok) (hs : p.size ≤ 1048576) (xd : AV) (R0 : Heap) (K : List Fr) (Q : AExit → FR → Heap → Prop) (f : FR) (σ : Heap) (h1 : f 1 = .ptr 0 0) (h2 : f 2 = .ptr 1 0) (h3 : f 3 = .ptr 2 0) (hσ : σ = fitP p xd (.isl [] true) (.isl [] true) R0)
    (hk : ∀ f σ, f 1 = .ptr 0 0 → f 2 = .ptr 1 0 → f 3 = .ptr 2 0 → (∃ xu R, σ = fitP p xd xu (.isl [] true) R ∧ LstB (((p.facts.take 64).map tupOf).map GU.enc) xu) → wpK T 0 202 K f σ Q) :
    wpK T 0 202 (.code c10.body.snd.snd.snd.fst :: K) f σ Q := by
  subst hσ
  have hl := p.facts_len
  have hin := fit2in p hs
  have hcode : ∃ c, c = c10.body.snd.snd.snd.fst.snd.inn.inn.snd.fst.inn.snd.fst := ⟨_, rfl⟩
  obtain ⟨c, hc⟩ := hcode
  simp only [← hc] at hin
  have hL : c10.body.snd.snd.snd.fst = .seq c10.body.snd.snd.snd.fst.fst (.block 2 (.loop (.seq c10.body.snd.snd.snd.fst.snd.inn.inn.fst (.seq (.block 3 (.seq c10.body.snd.snd.snd.fst.snd.inn.inn.snd.fst.inn.fst (.seq c c10.body.snd.snd.snd.fst.snd.inn.inn.snd.fst.inn.snd.snd))) c10.body.snd.snd.snd.fst.snd.inn.inn.snd.snd)))) := by rw [hc]; rfl
  rw [hL]
  clear hL hc
  simp [c10, ACode.fst, ACode.snd, ACode.inn, fitP]
  refine W_for T 0 202 (min p.facts.length 64) (fun i f σ => f 1 = .ptr 0 0 ∧ f 2 = .ptr 1 0 ∧ f 3 = .ptr 2 0 ∧ f 5 = .int .i64 (i : Int) ∧ ∃ xu R, σ = fitP p xd xu (.isl [] true) R ∧ LstA R 3 (((p.facts.take i).map tupOf).map GU.enc) 2 xu) ?_ _ _ ?_
  rotate_left 1
  · exact ⟨by simp [h1], by simp [h2], by simp [h3], by simp, _, _, rfl, .inl ⟨by simp, rfl⟩⟩
  clear h1 h2 h3
  rintro i f σ hi ⟨h1, h2, h3, h5, xu, R, rfl, hx⟩
  by_cases hlt : i < min p.facts.length 64
  · have c1 : i < p.facts.length := by omega
    have c2 : (i : Int) < 64 := by omega
    have hmem := List.getElem_mem c1
    have hsz := p.facts_mem hmem
    have hn := GU.name_le p.facts[i]
    have hlw : IntKind.i64.wrap ((i : Int) + 1) = (i : Int) + 1 := wr64 (by omega) (by omega)
    have hr := lawRel p.facts[i].name (by omega)
    have e1 : p.facts[i]? = some p.facts[i] := List.getElem?_eq_getElem c1
    have hin := hin i c1 (hp.2.1 _ hmem) (relOf p.facts[i].name) xd xu R
    rw [take_map tupOf _ _ c1, List.map_append]
    have hall := allEl_map GU.enc 2 gu_okEl ((p.facts.take i).map tupOf)
    have hlen : (((p.facts.take i).map tupOf).map GU.enc).length = i := by simp; omega
    generalize hES : ((p.facts.take i).map tupOf).map GU.enc = es at *
    simp [fitP, h1, h2, h3, h5, c1, c2, e1, hr, setRun]
    refine hin _ _ _ _ (by simp [h1]) (by simp [h2]) (by simp [h3]) (by simp [h5]) (by simp) (by simp [fitP, arr0]) ?_
    clear hin h1 h2 h3 h5
    rintro f σ h1 h2 h3 h5 h6 ⟨y, A, R2, rfl, hy⟩
    obtain ⟨a, ha⟩ : ∃ a, a = AObj.cells [.isl (p.decls.map GD.enc) false, .isl (p.facts.map GU.enc) false, .isl (p.rules.map GR.enc) false] 0 false := ⟨_, rfl⟩
    obtain ⟨b, hb⟩ : ∃ b, b = AObj.cells [.isl [] true, .isl [] true, .isl [] true] 0 false := ⟨_, rfl⟩
    obtain ⟨c, hc⟩ : ∃ c, c = AObj.cells [xd, xu, .isl [] true] 0 false := ⟨_, rfl⟩
    obtain ⟨y1, y2⟩ := hy.cell
    have hyk := hy.clo1f
    obtain ⟨A1, hcl, hA1⟩ := hy.close (pre := a :: b :: c :: R) (T := .cells [.str (relOf p.facts[i].name), y] 0 false) (by simp) (R2 ++ [.cells [.str (relOf p.facts[i].name), y] 0 false])
    obtain ⟨x', R3, hg, hx'⟩ := growC (pre := [a, b, c]) (R := R ++ (A :: .cells [.str (relOf p.facts[i].name), y] 0 false :: (R2 ++ [.cells [.str (relOf p.facts[i].name), y] 0 false])))
      (R1 := R ++ (A1 :: .cells [.str (relOf p.facts[i].name), y] 0 false :: (R2 ++ [.cells [.str (relOf p.facts[i].name), y] 0 false]))) (m := R.length + (R2.length + 2)) (sz := 2) (bytes := 40) (fz := 0) (fz1 := 0) (ext := false) (ext1 := false)
      (x := xu) (es := es) (cs := [.str (relOf p.facts[i].name), y]) (ys := [.str (relOf p.facts[i].name), .isl (GV.encs (.mk 3 0 ⟨#[97]⟩ [] :: (p.facts[i].args.take 7).map fit)) false])
      (hx.more _) (by simp) rfl (by simp [hyk]) (by
        simp only [List.cons_append, List.nil_append] at hcl ⊢
        simp [closeL, hcl]) (by simp) rfl (by simp) (by
        intro k n s hk
        rcases Nat.lt_or_ge k R.length with hk2 | hk2
        · rw [List.getElem?_append_left hk2] at hk ⊢; exact hk
        · rw [List.getElem?_append_right hk2] at hk ⊢
          generalize k - R.length = m at *
          match m with
          | 0 =>
            simp at hk ⊢
            rcases hA1 with ⟨cs, f, e, h | h⟩
            · exact absurd hk (hy.notok _ _)
            · rw [h]; exact hk
          | m + 1 => simpa using hk) (by simp) (by omega) (by omega) hall (by rw [hlen]; omega)
    obtain ⟨s1, s2⟩ := hx'.cell
    have hfin : es ++ [AV.agg ([AV.str (relOf p.facts[i].name), .isl (GV.encs (.mk 3 0 ⟨#[97]⟩ [] :: (p.facts[i].args.take 7).map fit)) false].map AV.nrm)] = es ++ [(tupOf p.facts[i]).enc] := rfl
    rw [hfin] at hx'
    subst ha hb hc
    simp [hyk] at hg
    simp [fitP, h1, h2, h3, h5, h6, hlw, setRun, y1, y2, s1, s2, hyk, hg]
    exact ⟨hlt, _, _, ⟨rfl, rfl⟩, hx'⟩
  · have c1 : ¬ (i < p.facts.length ∧ (i : Int) < 64) := by omega
    rw [take_min p.facts i 64 (by omega)] at hx
    by_cases d1 : i < p.facts.length
    · have d2 : ¬ ((i : Int) < 64) := fun h => c1 ⟨d1, h⟩
      simp [fitP, h1, h5, d1, d2]
      exact hk _ _ (by simp [h1]) (by simp [h2]) (by simp [h3]) ⟨_, _, rfl, hx.b⟩
    · simp [fitP, h1, h5, d1]
      exact hk _ _ (by simp [h1]) (by simp [h2]) (by simp [h3]) ⟨_, _, rfl, hx.b⟩
end Go.Proofs.YtpkfkipbemdhmaaGreatDoor
end
section
set_option linter.unusedVariables false
set_option linter.unusedSimpArgs false
set_option linter.unnecessarySimpa false
namespace Go.Proofs.YtpkfkipbemdhmaaGreatDoor
open Go.Mach
theorem chkO_f1 (ρ : Regs) (σ σ' : Heap) (x : AX) : (chkO ρ σ σ' [x] = some ()) = (objOf σ (ev ρ x) = objOf σ' (ev ρ x)) := by
  have := sameO_iff (objOf σ (ev ρ x)) (objOf σ' (ev ρ x))
  unfold chkO
  simp only [List.all_cons, List.all_nil, Bool.and_true]
  rw [← this]
  split <;> simp_all
theorem grow5 {a b c d e : AObj} {R R2 : Heap} {es cs : List AV} {x : AV} {sz bytes : Nat} (hx : LstA R2 (R.length + 5) es sz x) (hl : cs.length = sz) (hc : cs.all AV.clo1 = true) (h0 : 0 < sz) (hb : bytes ≤ 1000) (hes : es.all (okEl sz true) = true) (hn : es.length ≤ 10000000000) :
    ∃ x' R3, appendC (a :: b :: c :: (R ++ (d :: e :: (R2 ++ [.cells cs 0 false])))) sz true bytes false x (.sl (R.length + (R2.length + 1 + 1) + 1 + 1 + 1) 0 1 sz true) = some (x', a :: b :: c :: (R ++ (d :: e :: R3))) ∧ LstA R3 (R.length + 5) (es ++ [.agg (cs.map AV.nrm)]) sz x' ∧
      ∀ (j : Nat) cs' f e, R2[j]? = some (AObj.cells cs' f e) → R3[j]? = some (AObj.cells cs' f e) := by
  have hlen : (a :: b :: c :: (R ++ [d, e])).length = R.length + 5 := by simp
  have hx2 := hx.more [AObj.cells cs 0 false]
  rw [← hlen] at hx2
  obtain ⟨x', R3, h1, h2, h3⟩ := grow (bytes := bytes) (m := R2.length) (cs := cs) (fz := 0) (ext := false) hx2 (by simp) hl hc h0 hb hes hn
  have e0 : ∀ S : Heap, (a :: b :: c :: (R ++ [d, e])) ++ S = a :: b :: c :: (R ++ (d :: e :: S)) := fun S => by simp
  have e1 : R2.length + (a :: b :: c :: (R ++ [d, e])).length = R.length + (R2.length + 1 + 1) + 1 + 1 + 1 := by simp; omega
  rw [e0, e0, e1] at h1
  rw [hlen] at h2
  exact ⟨x', R3, h1, h2, fun j cs' f e hj => h3 j cs' f e (by rw [List.getElem?_append_left (List.getElem?_eq_some_iff.1 hj).1]; exact hj)⟩
def RuSt (p : GP) (xd xu xr : AV) (R : Heap) (r : GR) (L : List GT) (agg : ByteArray) (pos : Int) (es : List AV) (σ : Heap) : Prop :=
  ∃ k cs ext y R2, σ = fitP p xd xu xr (R ++ (.cells r.enc.cells 0 false :: .cells [.str (relOf r.label), .str (relOf r.head), .sl (k + (R.length + 5)) 0 L.length 7 true, .str agg, .int .i64 pos, y] 0 false :: R2)) ∧
    R2[k]? = some (.cells cs 0 ext) ∧ cs.map AV.nrm = flat (GT.encs L) ∧ cs.all AV.clo1 = true ∧ LstA R2 (R.length + 5) es 3 y
def Fr3 (R : Heap) (i : Nat) (f : FR) : Prop := f 1 = .ptr 0 0 ∧ f 2 = .ptr 1 0 ∧ f 3 = .ptr 2 0 ∧ f 8 = .int .i64 (i : Int) ∧ f 9 = .ptr (R.length + 3) 0 ∧ f 10 = .ptr (R.length + 4) 0
abbrev body3 : ACode := c10.body.snd.snd.snd.snd.fst.snd.inn.inn.snd.fst.inn
theorem fit3a (p : GP) (hs : p.size ≤ 1048576) (i : Nat) (hi : i < p.rules.length) (ho : (p.rules[i]).ok) (xd xu xr : AV) (R : Heap) (C : ACode) (K : List Fr) (Q : AExit → FR → Heap → Prop) (f : FR) (σ : Heap)
    (h1 : f 1 = .ptr 0 0) (h2 : f 2 = .ptr 1 0) (h3 : f 3 = .ptr 2 0) (h8 : f 8 = .int .i64 (i : Int)) (hσ : σ = fitP p xd xu xr R)
    (hk : ∀ f σ, Fr3 R i f → RuSt p xd xu xr R p.rules[i] (argsOf (p.rules[i]).args) ⟨#[]⟩ 0 [] σ → wpK T 0 202 (.code C :: K) f σ Q) :
    wpK T 0 202 (.code body3.fst :: .code (.seq body3.snd.fst C) :: K) f σ Q := by
  subst hσ
  have hm := p.rules_mem (List.getElem_mem hi)
  have hal := GR.args_le p.rules[i]
  have hl1 := GR.label_le p.rules[i]
  have hl2 := GR.head_le p.rules[i]
  have e1 : p.rules[i]? = some p.rules[i] := List.getElem?_eq_getElem hi
  generalize hu : p.rules[i] = r at *
  have hr1 := lawRel r.label (by omega)
  have hr2 := lawRel r.head (by omega)
  obtain ⟨hA, hcall⟩ := argsX_at r.args ho.1 (by omega) 0 (fitP p xd xu xr (R ++ [.cells r.enc.cells 0 false, .cells [.str ⟨#[]⟩, .str ⟨#[]⟩, .isl [] true, .str ⟨#[]⟩, .int .i64 0, .isl [] true] 0 false]))
  obtain ⟨k, cs, rest, ext, hr, hkk, hn, hc⟩ := hA
  rw [hr] at hcall
  simp [fitP] at hcall
  simp [body3, c10, ACode.fst, ACode.snd, ACode.inn, fitP, h1, h2, h3, h8, hi, e1, hu, setRun, hr1, hr2, hcall, chkO_f1, objOf]
  refine hk _ _ ⟨by simp [h1], by simp [h2], by simp [h3], by simp [h8], by simp, by simp⟩ ⟨k, cs, ext, _, rest, ?_, hkk, hn, hc, .inl ⟨rfl, rfl⟩⟩
  simp [fitP]
  omega
theorem gl_okEl (x : GL) : okEl 3 true x.enc = true := rfl
theorem fit3b (p : GP) (hs : p.size ≤ 1048576) (i : Nat) (hi : i < p.rules.length) (ho : (p.rules[i]).ok) (xd xu xr : AV) (R : Heap) (L : List GT) (K : List Fr) (Q : AExit → FR → Heap → Prop) (f : FR) (σ : Heap)
    (hf : Fr3 R i f) (hσ : RuSt p xd xu xr R p.rules[i] L ⟨#[]⟩ 0 [] σ)
    (hk : ∀ f σ, Fr3 R i f → RuSt p xd xu xr R p.rules[i] L ⟨#[]⟩ 0 ((((p.rules[i]).body.take 8).map litOf).map GL.enc) σ → wpK T 0 202 K f σ Q) :
    wpK T 0 202 (.code body3.snd.snd.fst :: K) f σ Q := by
  have hm := p.rules_mem (List.getElem_mem hi)
  have hbl := GR.body_len p.rules[i]
  have hbm := fun y (hy : y ∈ (p.rules[i]).body) => (p.rules[i]).body_mem hy
  have e1 : p.rules[i]? = some p.rules[i] := List.getElem?_eq_getElem hi
  generalize hu : p.rules[i] = r at *
  obtain ⟨k, cs, ext, y, R2, rfl, hk1, hk2, hk3, hy⟩ := hσ
  obtain ⟨h1, h2, h3, h8, h9, h10⟩ := hf
  simp [body3, c10, ACode.fst, ACode.snd, ACode.inn, fitP]
  refine W_for T 0 202 (min r.body.length 8) (fun j f σ => Fr3 R i f ∧ f 11 = .int .i64 (j : Int) ∧ RuSt p xd xu xr R r L ⟨#[]⟩ 0 (((r.body.take j).map litOf).map GL.enc) σ) ?_ _ _ ?_
  rotate_left 1
  · exact ⟨⟨by simp [h1], by simp [h2], by simp [h3], by simp [h8], by simp [h9], by simp [h10]⟩, by simp, k, cs, ext, y, R2, by simp [fitP], hk1, hk2, hk3, hy⟩
  clear h1 h2 h3 h8 h9 h10 hk1 hk2 hk3 hy
  rintro j f σ hj ⟨⟨h1, h2, h3, h8, h9, h10⟩, h11, k, cs, ext, y, R2, rfl, hk1, hk2, hk3, hy⟩
  by_cases hlt : j < min r.body.length 8
  · have c1 : j < r.body.length := by omega
    have c2 : (j : Int) < 8 := by omega
    have hmem := List.getElem_mem c1
    have hlo := ho.2.2 _ hmem
    have hls := hbm _ hmem
    have hlit := callLawLit r.body[j] hlo (by omega)
    have hlw : IntKind.i64.wrap ((j : Int) + 1) = (j : Int) + 1 := wr64 (by omega) (by omega)
    have e2 : r.body[j]? = some r.body[j] := List.getElem?_eq_getElem c1
    rw [take_map litOf _ _ c1, List.map_append]
    have hall := allEl_map GL.enc 3 gl_okEl ((r.body.take j).map litOf)
    have hlen : (((r.body.take j).map litOf).map GL.enc).length = j := by simp; omega
    generalize hES : ((r.body.take j).map litOf).map GL.enc = es at *
    obtain ⟨a, ha⟩ : ∃ a, a = AObj.cells [.isl (p.decls.map GD.enc) false, .isl (p.facts.map GU.enc) false, .isl (p.rules.map GR.enc) false] 0 false := ⟨_, rfl⟩
    obtain ⟨b, hb⟩ : ∃ b, b = AObj.cells [.isl [] true, .isl [] true, .isl [] true] 0 false := ⟨_, rfl⟩
    obtain ⟨c, hc⟩ : ∃ c, c = AObj.cells [xd, xu, xr] 0 false := ⟨_, rfl⟩
    obtain ⟨d, hd⟩ : ∃ d, d = AObj.cells r.enc.cells 0 false := ⟨_, rfl⟩
    obtain ⟨e, he⟩ : ∃ e, e = AObj.cells [.str (relOf r.label), .str (relOf r.head), .sl (k + (R.length + 5)) 0 L.length 7 true, .str ⟨#[]⟩, .int .i64 0, y] 0 false := ⟨_, rfl⟩
    obtain ⟨x', R3, hg, hx', hpres⟩ := grow5 (a := a) (b := b) (c := c) (d := d) (e := e) (R := R) (R2 := R2) (bytes := 48) (cs := (litOf r.body[j]).enc.cells) hy (by simp) (by simp [AV.clo1]) (by omega) (by omega) hall (by rw [hlen]; omega)
    obtain ⟨s1, s2⟩ := hx'.cell
    obtain ⟨s3, s4⟩ := hy.cell
    have hfin : es ++ [AV.agg ((litOf r.body[j]).enc.cells.map AV.nrm)] = es ++ [(litOf r.body[j]).enc] := by simp [AV.nrm, ← GL.enc_eq]
    rw [hfin] at hx'
    subst ha hb hc hd he
    simp [← GL.enc_eq] at hg
    simp [fitP, h1, h2, h3, h8, h9, h10, h11, hi, e1, e2, hu, c1, c2, hlit, hlw, setRun, s1, s2, s3, s4, ← GL.enc_eq, hg]
    exact ⟨hlt, ⟨by simp [h1], by simp [h2], by simp [h3], by simp [h8], by simp [h9], by simp [h10]⟩, k, cs, ext, x', R3, by simp [fitP], hpres _ _ _ _ hk1, hk2, hk3, hx'⟩
  · have c1 : ¬ (j < r.body.length ∧ (j : Int) < 8) := by omega
    rw [take_min r.body j 8 (by omega)] at hy
    by_cases d1 : j < r.body.length
    · have d2 : ¬ ((j : Int) < 8) := fun h => c1 ⟨d1, h⟩
      simp [fitP, h1, h2, h3, h8, h9, h10, h11, hi, e1, hu, d1, d2]
      exact hk _ _ ⟨by simp [h1], by simp [h2], by simp [h3], by simp [h8], by simp [h9], by simp [h10]⟩ ⟨k, cs, ext, y, R2, by simp [fitP], hk1, hk2, hk3, hy⟩
    · simp [fitP, h1, h2, h3, h8, h9, h10, h11, hi, e1, hu, d1]
      exact hk _ _ ⟨by simp [h1], by simp [h2], by simp [h3], by simp [h8], by simp [h9], by simp [h10]⟩ ⟨k, cs, ext, y, R2, by simp [fitP], hk1, hk2, hk3, hy⟩
end Go.Proofs.YtpkfkipbemdhmaaGreatDoor
end
section
set_option linter.unusedVariables false
set_option linter.unusedSimpArgs false
set_option linter.unnecessarySimpa false
namespace Go.Proofs.YtpkfkipbemdhmaaGreatDoor
open Go.Mach
theorem callLit0 (bs : Nat) (σ : Heap) : callT T 15 [.agg [.int .i64 0, .str ⟨#[]⟩, .isl [] true]] bs σ = some ((litOf lit0).enc, σ) :=
  call_data rfl rfl rfl (lawlit_ok lit0 ⟨by unfold GV.i64ok; simp [lit0], by simp [lit0, GT.oks]⟩ (by rw [gl_size]; decide)) rfl rfl rfl
theorem fit3c (p : GP) (i : Nat) (hi : i < p.rules.length) (xd xu xr : AV) (R : Heap) (L : List GT) (K : List Fr) (Q : AExit → FR → Heap → Prop) (f : FR) (σ : Heap)
    (hf : Fr3 R i f) (hσ : RuSt p xd xu xr R p.rules[i] L ⟨#[]⟩ 0 ((((p.rules[i]).body.take 8).map litOf).map GL.enc) σ)
    (hk : ∀ f σ, Fr3 R i f → RuSt p xd xu xr R p.rules[i] L ⟨#[]⟩ 0 ((bodyOf (p.rules[i]).body).map GL.enc) σ → wpK T 0 202 K f σ Q) :
    wpK T 0 202 (.code body3.snd.snd.snd.fst :: K) f σ Q := by
  generalize hu : p.rules[i] = r at *
  obtain ⟨k, cs, ext, y, R2, rfl, hk1, hk2, hk3, hy⟩ := hσ
  obtain ⟨h1, h2, h3, h8, h9, h10⟩ := hf
  by_cases hb : r.body = []
  · have hes : (((r.body.take 8).map litOf).map GL.enc) = [] := by rw [hb]; rfl
    have hbo : (bodyOf r.body).map GL.enc = [(litOf lit0).enc] := by simp [bodyOf, hb]
    rw [hes] at hy
    rw [hbo] at hk
    rcases hy with ⟨_, rfl⟩ | ⟨k', rfl, hk'⟩
    · obtain ⟨a, ha⟩ : ∃ a, a = AObj.cells [.isl (p.decls.map GD.enc) false, .isl (p.facts.map GU.enc) false, .isl (p.rules.map GR.enc) false] 0 false := ⟨_, rfl⟩
      simp [body3, c10, ACode.fst, ACode.snd, ACode.inn, fitP, h1, h2, h3, h8, h9, h10, setRun, callLit0]
      refine hk _ _ ⟨by simp [h1], by simp [h2], by simp [h3], by simp [h8], by simp [h9], by simp [h10]⟩ ⟨k, cs, ext, _, R2 ++ [.cells (litOf lit0).enc.cells 0 false, .tok 1 3], ?_, ?_, hk2, hk3, .inr ⟨R2.length + 1, rfl, by simp⟩⟩
      · simp [fitP, ← GL.enc_eq]
        omega
      · rw [List.getElem?_append_left (List.getElem?_eq_some_iff.1 hk1).1]; exact hk1
    · have hy0 : LstA R2 (R.length + 5) [] 3 (.own (k' + (R.length + 5)) []) := .inr ⟨k', rfl, hk'⟩
      obtain ⟨x', R3, hg, hx', hpres⟩ := grow5 (a := .cells [.isl (p.decls.map GD.enc) false, .isl (p.facts.map GU.enc) false, .isl (p.rules.map GR.enc) false] 0 false) (b := .cells [.isl [] true, .isl [] true, .isl [] true] 0 false) (c := .cells [xd, xu, xr] 0 false) (d := .cells r.enc.cells 0 false)
        (e := .cells [.str (relOf r.label), .str (relOf r.head), .sl (k + (R.length + 5)) 0 L.length 7 true, .str ⟨#[]⟩, .int .i64 0, .own (k' + (R.length + 5)) []] 0 false) (R := R) (R2 := R2) (bytes := 48) (cs := (litOf lit0).enc.cells) hy0 (by simp) (by simp [AV.clo1]) (by omega) (by omega) rfl (by simp)
      obtain ⟨s1, s2⟩ := hx'.cell
      have hfin : ([] : List AV) ++ [AV.agg ((litOf lit0).enc.cells.map AV.nrm)] = [(litOf lit0).enc] := by simp [AV.nrm, ← GL.enc_eq]
      rw [hfin] at hx'
      simp [← GL.enc_eq] at hg
      simp [body3, c10, ACode.fst, ACode.snd, ACode.inn, fitP, h1, h2, h3, h8, h9, h10, setRun, callLit0, ← GL.enc_eq, hg, s1, s2]
      exact hk _ _ ⟨by simp [h1], by simp [h2], by simp [h3], by simp [h8], by simp [h9], by simp [h10]⟩ ⟨k, cs, ext, x', R3, by simp [fitP], hpres _ _ _ _ hk1, hk2, hk3, hx'⟩
  · have hbo : bodyOf r.body = (r.body.take 8).map litOf := by simp [bodyOf, hb]
    rw [hbo] at hk
    have hne : (((r.body.take 8).map litOf).map GL.enc) ≠ [] := by simp [hb]
    rcases hy with ⟨h0, _⟩ | ⟨k', rfl, hk'⟩
    · exact absurd h0 hne
    · have hlen : ¬ ((((r.body.take 8).map litOf).map GL.enc).length = 0) := fun h => hne (List.length_eq_zero_iff.1 h)
      generalize ((r.body.take 8).map litOf).map GL.enc = es at *
      simp [body3, c10, ACode.fst, ACode.snd, ACode.inn, fitP, h1, h2, h3, h8, h9, h10, hlen, hne]
      exact hk _ _ ⟨by simp [h1], by simp [h2], by simp [h3], by simp [h8], by simp [h9], by simp [h10]⟩ ⟨k, cs, ext, _, R2, by simp [fitP], hk1, hk2, hk3, .inr ⟨k', rfl, hk'⟩⟩
end Go.Proofs.YtpkfkipbemdhmaaGreatDoor
end
section
set_option linter.unusedVariables false
set_option linter.unusedSimpArgs false
set_option linter.unnecessarySimpa false
namespace Go.Proofs.YtpkfkipbemdhmaaGreatDoor
open Go.Mach
theorem LstA.setc {R : Heap} {off sz k fz : Nat} {ext : Bool} {es cs : List AV} {x : AV} (h : LstA R off es sz x) (hk : R[k]? = some (.cells cs fz ext)) {v : AObj} : LstA (R.set k v) off es sz x := by
  rcases h with h | ⟨j, h1, h2⟩
  · exact .inl h
  · have : k ≠ j := fun e => by subst e; rw [hk] at h2; cases h2
    exact .inr ⟨j, h1, by rw [List.getElem?_set, if_neg this]; exact h2⟩
theorem aggOf_at {q : Nat} (h : q < 3) : window [AV.str ⟨#[109, 105, 110]⟩, .str ⟨#[109, 97, 120]⟩, .str ⟨#[99, 111, 117, 110, 116]⟩] q 1 = some [.str (aggOf q)] := by
  have : q = 0 ∨ q = 1 ∨ q = 2 := by omega
  rcases this with rfl | rfl | rfl <;> rfl
theorem setRun_nrm (cs vs : List AV) (o : Nat) (h : o + vs.length ≤ cs.length) : (setRun cs o vs).map AV.nrm = setRun (cs.map AV.nrm) o (vs.map AV.nrm) := by
  rw [setRun_take _ _ _ h, setRun_take _ _ _ (by simpa using h)]
  simp
theorem setRun_clo (cs vs : List AV) (o : Nat) (h : o + vs.length ≤ cs.length) (hc : cs.all AV.clo1 = true) (hv : vs.all AV.clo1 = true) : (setRun cs o vs).all AV.clo1 = true := by
  rw [setRun_take _ _ _ h, List.all_append, List.all_append, hv]
  rw [List.all_eq_true] at hc
  have h1 : (cs.take o).all AV.clo1 = true := List.all_eq_true.2 fun x hx => hc x (List.mem_of_mem_take hx)
  have h2 : (cs.drop (o + vs.length)).all AV.clo1 = true := List.all_eq_true.2 fun x hx => hc x (List.mem_of_mem_drop hx)
  rw [h1, h2]; rfl
theorem args_setRun {cs : List AV} {L : List GT} {n : Nat} (hn : n < L.length) (hcs : cs.map AV.nrm = flat (GT.encs L)) (v : ByteArray) :
    (setRun cs (n * 7) [.int .i64 1, .str v, .int .i64 0, .int .i64 0, .str ⟨#[]⟩, .isl [] true, .isl [] true]).map AV.nrm = flat (GT.encs (L.set n (.mk 1 v nilV []))) ∧ n * 7 + 7 ≤ cs.length := by
  have hlen : cs.length = L.length * 7 := by
    have := congrArg List.length hcs
    rw [List.length_map, Go.Mach.flat_len (encsT_len L), GT.encs_length] at this; exact this
  have hle : n * 7 + 7 ≤ cs.length := by omega
  refine ⟨?_, hle⟩
  rw [setRun_nrm _ _ _ hle, hcs]
  have h1 := flat_set (s := 7) (v := (GT.mk 1 v nilV []).enc) (by simp) (es := GT.encs L) (i := n) (by rw [GT.encs_length]; exact hn) (encsT_len L)
  have h2 : (GT.mk 1 v nilV []).enc.cells = [AV.int .i64 1, .str v, .int .i64 0, .int .i64 0, .str ⟨#[]⟩, .isl [] true, .isl [] true].map AV.nrm := by
    simp [AV.nrm, GT.enc_cells, GT.kind, GT.name, GT.value, GT.args, nilV, GV.kind, GV.num, GV.text, GV.items]
  rw [h2] at h1
  rw [h1, GT.encs_map, GT.encs_map, List.map_set]
theorem fit3d (p : GP) (hs : p.size ≤ 1048576) (i : Nat) (hi : i < p.rules.length) (ho : (p.rules[i]).ok) (xd xu xr : AV) (R : Heap) (es : List AV) (K : List Fr) (Q : AExit → FR → Heap → Prop) (f : FR) (σ : Heap)
    (hf : Fr3 R i f) (hσ : RuSt p xd xu xr R p.rules[i] (argsOf (p.rules[i]).args) ⟨#[]⟩ 0 es σ)
    (hk : ∀ f σ, Fr3 R i f → RuSt p xd xu xr R p.rules[i] (ruleOf p.rules[i]).args (ruleOf p.rules[i]).agg (ruleOf p.rules[i]).pos es σ → wpK T 0 202 K f σ Q) :
    wpK T 0 202 (.code body3.snd.snd.snd.snd.fst :: K) f σ Q := by
  have hm := p.rules_mem (List.getElem_mem hi)
  have hgl := GR.agg_le p.rules[i]
  generalize hu : p.rules[i] = r at *
  obtain ⟨k, cs, ext, y, R2, rfl, hk1, hk2, hk3, hy⟩ := hσ
  obtain ⟨h1, h2, h3, h8, h9, h10⟩ := hf
  have hq2 : ∀ bs σ, callT T 20 [.int .i64 r.pos, .int .i64 2] bs σ = some (.int .i64 (pickN r.pos 2 : Int), σ) := pickQ r.pos 2 (by omega) ho.2.1
  have hL := argsOf_len r.args
  obtain ⟨y1, y2⟩ := hy.cell
  by_cases d1 : 1 < (argsOf r.args).length
  · have d1' : (1 : Int) < ((argsOf r.args).length : Int) := by omega
    by_cases d2 : pickN r.pos 2 = 1
    · have hag : hasAgg r := ⟨d1, d2⟩
      have hq3 : ∀ bs σ, callT T 20 [.int .i64 r.pos, .int .i64 3] bs σ = some (.int .i64 (pickN r.pos 3 : Int), σ) := pickQ r.pos 3 (by omega) ho.2.1
      have hl3 := pickN_lt (c := r.pos) (n := 3) (by omega)
      have hql := pickQ r.pos ((argsOf r.args).length - 1) (by omega) ho.2.1
      have hll := pickN_lt (c := r.pos) (n := (argsOf r.args).length - 1) (by omega)
      have hsub : ((argsOf r.args).length : Int) - 1 = (((argsOf r.args).length - 1 : Nat) : Int) := by omega
      have hvar := lawVar r.agg (by omega)
      have hwin := aggOf_at hl3
      have hru : (ruleOf r).args = (argsOf r.args).set (posOf r) (.mk 1 (varOf r.agg) nilV []) ∧ (ruleOf r).agg = aggOf (pickN r.pos 3) ∧ (ruleOf r).pos = (posOf r : Int) := by simp [ruleOf, hag]
      rw [hru.1, hru.2.1, hru.2.2] at hk
      have hpo : posOf r = 1 + pickN r.pos ((argsOf r.args).length - 1) := rfl
      have hpl := posOf_lt hag
      obtain ⟨g1, g2⟩ := args_setRun hpl.2 hk2 (varOf r.agg)
      have g3 := setRun_clo cs [.int .i64 1, .str (varOf r.agg), .int .i64 0, .int .i64 0, .str ⟨#[]⟩, .isl [] true, .isl [] true] (posOf r * 7) (by simpa using g2) hk3 rfl
      have hw1 : IntKind.i64.wrap (((argsOf r.args).length : Int) - 1) = (((argsOf r.args).length - 1 : Nat) : Int) := by rw [hsub]; exact wr64 (by omega) (by omega)
      have hw2 : IntKind.i64.wrap (1 + (pickN r.pos ((argsOf r.args).length - 1) : Int)) = (posOf r : Int) := by rw [hpo]; rw [wr64 (by omega) (by omega)]; omega
      have hkl : k < R2.length := (List.getElem?_eq_some_iff.1 hk1).1
      have hpl1 : (posOf r : Int) < ((argsOf r.args).length : Int) := by omega
      have hpl2 : ((pickN r.pos 3 : Nat) : Int) < 3 := by omega
      generalize posOf r = n at *
      generalize pickN r.pos ((argsOf r.args).length - 1) = m at *
      generalize pickN r.pos 3 = q at *
      have hset : (argsOf r.args).length = ((argsOf r.args).set n (.mk 1 (varOf r.agg) nilV [])).length := by simp
      have hget : ∀ (a b c d e : AObj) (X : Heap), (a :: b :: c :: (R ++ d :: e :: (R2 ++ X)))[k + (R.length + 5)]? = some (.cells cs 0 ext) := fun a b c d e X => by
        rw [show k + (R.length + 5) = (R.length + (k + 2)) + 3 by omega]
        simp [List.getElem?_append_left hkl, hk1]
      have hsetA : ∀ (a b c d e v : AObj) (X : Heap), (a :: b :: c :: (R ++ d :: e :: (R2 ++ X))).set (k + (R.length + 5)) v = a :: b :: c :: (R ++ d :: e :: (R2.set k v ++ X)) := fun a b c d e v X => by
        rw [show k + (R.length + 5) = (R.length + (k + 2)) + 3 by omega]
        simp [List.set_append_left _ _ hkl]
      simp only [setRun] at g1 g3
      simp only [body3, c10, ACode.fst, ACode.snd, ACode.inn]
      simp [hget, hsetA, fitP, h1, h2, h3, h8, h9, h10, d1, d1', d2, hq2, hq3, hql, hw1, hw2, hl3, hpl2, hpl.2, hpl1, hwin, hvar, g2, setRun, y1, y2]
      refine hk _ _ ⟨by simp [h1], by simp [h2], by simp [h3], by simp [h8], by simp [h9], by simp [h10]⟩ ⟨k, _, ext, y, _, by simp [fitP]; rfl, ?_, g1, g3, ?_⟩
      · rw [List.getElem?_append_left (by simpa using hkl)]; simp [hkl]
      · exact (hy.setc hk1).more _
    · have hag : ¬ hasAgg r := fun h => d2 h.2
      have hru : (ruleOf r).args = argsOf r.args ∧ (ruleOf r).agg = ⟨#[]⟩ ∧ (ruleOf r).pos = 0 := by simp [ruleOf, hag]
      rw [hru.1, hru.2.1, hru.2.2] at hk
      have d3 : ¬ ((pickN r.pos 2 : Nat) : Int) = 1 := by omega
      simp [body3, c10, ACode.fst, ACode.snd, ACode.inn, fitP, h1, h2, h3, h8, h9, h10, d1, d1', d2, d3, hq2]
      exact hk _ _ ⟨by simp [h1], by simp [h2], by simp [h3], by simp [h8], by simp [h9], by simp [h10]⟩ ⟨k, cs, ext, y, R2, by simp [fitP], hk1, hk2, hk3, hy⟩
  · have hag : ¬ hasAgg r := fun h => d1 h.1
    have hru : (ruleOf r).args = argsOf r.args ∧ (ruleOf r).agg = ⟨#[]⟩ ∧ (ruleOf r).pos = 0 := by simp [ruleOf, hag]
    rw [hru.1, hru.2.1, hru.2.2] at hk
    have d1' : ¬ (1 : Int) < ((argsOf r.args).length : Int) := by omega
    simp [body3, c10, ACode.fst, ACode.snd, ACode.inn, fitP, h1, h2, h3, h8, h9, h10, d1, d1']
    exact hk _ _ ⟨by simp [h1], by simp [h2], by simp [h3], by simp [h8], by simp [h9], by simp [h10]⟩ ⟨k, cs, ext, y, R2, by simp [fitP], hk1, hk2, hk3, hy⟩
theorem fit3e (p : GP) (i : Nat) (hi : i < p.rules.length) (xd xu xr : AV) (R : Heap) (esr : List AV) (hesr : esr.all (okEl 6 true) = true) (hln : esr.length ≤ 1000) (hxr : LstA R 3 esr 6 xr) (K : List Fr) (Q : AExit → FR → Heap → Prop) (f : FR) (σ : Heap)
    (hf : Fr3 R i f) (hσ : RuSt p xd xu xr R p.rules[i] (ruleOf p.rules[i]).args (ruleOf p.rules[i]).agg (ruleOf p.rules[i]).pos ((ruleOf p.rules[i]).body.map GL.enc) σ)
    (hlab : (ruleOf p.rules[i]).label = relOf (p.rules[i]).label ∧ (ruleOf p.rules[i]).head = relOf (p.rules[i]).head ∧ (ruleOf p.rules[i]).args ≠ [])
    (hk : ∀ f σ, f 1 = .ptr 0 0 → f 2 = .ptr 1 0 → f 3 = .ptr 2 0 → f 8 = .int .i64 (i : Int) → (∃ xr' R', σ = fitP p xd xu xr' R' ∧ LstA R' 3 (esr ++ [(ruleOf p.rules[i]).enc]) 6 xr') → wpK T 0 202 K f σ Q) :
    wpK T 0 202 (.code body3.snd.snd.snd.snd.snd :: K) f σ Q := by
  generalize hu : p.rules[i] = r at *
  generalize hw : ruleOf r = w at *
  obtain ⟨l1, l2, l3⟩ := hlab
  obtain ⟨k, cs, ext, y, R2, rfl, hk1, hk2, hk3, hy⟩ := hσ
  obtain ⟨h1, h2, h3, h8, h9, h10⟩ := hf
  rw [← l1, ← l2]
  obtain ⟨a, ha⟩ : ∃ a, a = AObj.cells [.isl (p.decls.map GD.enc) false, .isl (p.facts.map GU.enc) false, .isl (p.rules.map GR.enc) false] 0 false := ⟨_, rfl⟩
  obtain ⟨b, hb⟩ : ∃ b, b = AObj.cells [.isl [] true, .isl [] true, .isl [] true] 0 false := ⟨_, rfl⟩
  obtain ⟨c, hc⟩ : ∃ c, c = AObj.cells [xd, xu, xr] 0 false := ⟨_, rfl⟩
  obtain ⟨d, hd⟩ : ∃ d, d = AObj.cells r.enc.cells 0 false := ⟨_, rfl⟩
  obtain ⟨e, he⟩ : ∃ e, e = AObj.cells [.str w.label, .str w.head, .sl (k + (R.length + 5)) 0 w.args.length 7 true, .str w.agg, .int .i64 w.pos, y] 0 false := ⟨_, rfl⟩
  obtain ⟨y1, y2⟩ := hy.cell
  have hkl : k < R2.length := (List.getElem?_eq_some_iff.1 hk1).1
  have e0 : ∀ S : Heap, (a :: b :: c :: (R ++ [d, e])) ++ S = [a, b, c] ++ (R ++ (d :: e :: S)) := fun S => by simp
  have hl5 : (a :: b :: c :: (R ++ [d, e])).length = R.length + 5 := by simp
  have hcl1 := close_terms (σ := [a, b, c] ++ (R ++ (d :: e :: (R2 ++ [AObj.cells [.str w.label, .str w.head, .sl (k + (R.length + 5)) 0 w.args.length 7 true, .str w.agg, .int .i64 w.pos, y] 0 false])))) (k := k + (R.length + 5)) (L := w.args) (cs := cs) (fz := 0) (ext := ext)
    (by rw [← e0, ← hl5, List.getElem?_append_right (by omega), Nat.add_sub_cancel, List.getElem?_append_left hkl]; exact hk1) hk2 hk3 l3
  have hfz : frz ([a, b, c] ++ (R ++ (d :: e :: (R2 ++ [AObj.cells [.str w.label, .str w.head, .sl (k + (R.length + 5)) 0 w.args.length 7 true, .str w.agg, .int .i64 w.pos, y] 0 false])))) (k + (R.length + 5)) (0 + w.args.length * 7) =
      [a, b, c] ++ (R ++ (d :: e :: (frz R2 k (0 + w.args.length * 7) ++ [AObj.cells [.str w.label, .str w.head, .sl (k + (R.length + 5)) 0 w.args.length 7 true, .str w.agg, .int .i64 w.pos, y] 0 false]))) := by
    rw [← e0, ← e0]
    rw [← hl5]
    rw [frz_app]
    congr 1
    unfold frz
    rw [List.getElem?_append_left hkl, hk1]
    simp only
    rw [List.set_append_left _ _ hkl]
  rw [hfz] at hcl1
  have hcly := fun σ => hy.b.close (σ := σ)
  obtain ⟨x', R3, hg, hx'⟩ := growC (pre := [a, b, c]) (R := R ++ (d :: e :: (R2 ++ [AObj.cells [.str w.label, .str w.head, .sl (k + (R.length + 5)) 0 w.args.length 7 true, .str w.agg, .int .i64 w.pos, y] 0 false])))
    (R1 := R ++ (d :: e :: (frz R2 k (0 + w.args.length * 7) ++ [AObj.cells [.str w.label, .str w.head, .sl (k + (R.length + 5)) 0 w.args.length 7 true, .str w.agg, .int .i64 w.pos, y] 0 false])))
    (m := R.length + (R2.length + 2)) (sz := 6) (bytes := 104) (fz := 0) (fz1 := 0) (ext := false) (ext1 := false) (x := xr) (es := esr)
    (cs := [.str w.label, .str w.head, .sl (k + (R.length + 5)) 0 w.args.length 7 true, .str w.agg, .int .i64 w.pos, y]) (ys := [.str w.label, .str w.head, .isl (GT.encs w.args) false, .str w.agg, .int .i64 w.pos, .isl (w.body.map GL.enc) false])
    (hxr.more _) (by simp) rfl (by simp) (by
      simp [closeL]
      simp at hcl1
      simp [hcl1, hcly]) (by
      rw [List.getElem?_append_right (by omega)]
      have : R.length + (R2.length + 2) - R.length = (frz R2 k (0 + w.args.length * 7)).length + 2 := by rw [frz_len]; omega
      rw [this]; simp) rfl (by simp) (by
      intro k' n s hk'
      rcases Nat.lt_or_ge k' R.length with h | h
      · rw [List.getElem?_append_left h] at hk' ⊢; exact hk'
      · rw [List.getElem?_append_right h] at hk' ⊢
        generalize k' - R.length = m at *
        match m with
        | 0 => simpa using hk'
        | 1 => simpa using hk'
        | m + 2 =>
          simp only [List.getElem?_cons_succ] at hk' ⊢
          rcases Nat.lt_or_ge m R2.length with h | h
          · rw [List.getElem?_append_left h] at hk'
            rw [List.getElem?_append_left (by rw [frz_len]; exact h)]; exact frz_tok hk'
          · rw [List.getElem?_append_right h] at hk'
            rw [List.getElem?_append_right (by rw [frz_len]; exact h), frz_len]; exact hk') (by simp [frz_len]) (by omega) (by omega) hesr (by omega)
  obtain ⟨s1, s2⟩ := hx'.cell
  have hfin : esr ++ [AV.agg ([AV.str w.label, .str w.head, .isl (GT.encs w.args) false, .str w.agg, .int .i64 w.pos, .isl (w.body.map GL.enc) false].map AV.nrm)] = esr ++ [w.enc] := rfl
  rw [hfin] at hx'
  subst ha hb hc hd he
  simp at hg
  simp [body3, c10, ACode.fst, ACode.snd, ACode.inn, fitP, h1, h2, h3, h8, h9, h10, setRun, y1, y2, s1, s2, hg]
  exact hk _ _ (by simp [h1]) (by simp [h2]) (by simp [h3]) (by simp [h8]) ⟨x', R3, by simp [fitP], hx'⟩
end Go.Proofs.YtpkfkipbemdhmaaGreatDoor
end
section
set_option linter.unusedVariables false
set_option linter.unusedSimpArgs false
set_option linter.unnecessarySimpa false
namespace Go.Proofs.YtpkfkipbemdhmaaGreatDoor
open Go.Mach
theorem gr_okEl (x : GR) : okEl 6 true x.enc = true := rfl
theorem ruleOf_parts (r : GR) : (ruleOf r).label = relOf r.label ∧ (ruleOf r).head = relOf r.head ∧ (ruleOf r).args ≠ [] ∧ (ruleOf r).body = bodyOf r.body := by
  have h := argsOf_len r.args
  unfold ruleOf
  split
  · exact ⟨rfl, rfl, fun e => by have := congrArg List.length e; simp at this; rw [this] at h; simp at h, rfl⟩
  · exact ⟨rfl, rfl, fun e => by simp only at e; rw [e] at h; simp at h, rfl⟩
theorem fit3 (p : GP) (hp : p.ok) (hs : p.size ≤ 1048576) (xd xu : AV) (R0 : Heap) (K : List Fr) (Q : AExit → FR → Heap → Prop) (f : FR) (σ : Heap) (h1 : f 1 = .ptr 0 0) (h2 : f 2 = .ptr 1 0) (h3 : f 3 = .ptr 2 0) (hσ : σ = fitP p xd xu (.isl [] true) R0)
    (hk : ∀ f σ, f 1 = .ptr 0 0 → f 2 = .ptr 1 0 → f 3 = .ptr 2 0 → (∃ xr R, σ = fitP p xd xu xr R ∧ LstB (((p.rules.take 64).map ruleOf).map GR.enc) xr) → wpK T 0 202 K f σ Q) :
    wpK T 0 202 (.code c10.body.snd.snd.snd.snd.fst :: K) f σ Q := by
  subst hσ
  have hl := p.rules_len
  have ha := fit3a p hs
  have hb := fit3b p hs
  have hc := fit3c p
  have hd := fit3d p hs
  have he := fit3e p
  obtain ⟨B, hB⟩ : ∃ B, B = body3 := ⟨_, rfl⟩
  have hBs : B = .seq B.fst (.seq B.snd.fst (.seq B.snd.snd.fst (.seq B.snd.snd.snd.fst (.seq B.snd.snd.snd.snd.fst B.snd.snd.snd.snd.snd)))) := by rw [hB]; rfl
  simp only [← hB] at ha hb hc hd he
  have hL : c10.body.snd.snd.snd.snd.fst = .seq c10.body.snd.snd.snd.snd.fst.fst (.block 6 (.loop (.seq c10.body.snd.snd.snd.snd.fst.snd.inn.inn.fst (.seq (.block 7 B) c10.body.snd.snd.snd.snd.fst.snd.inn.inn.snd.snd)))) := by rw [hB]; rfl
  rw [hL]
  clear hL hB
  simp [c10, ACode.fst, ACode.snd, ACode.inn, fitP]
  refine W_for T 0 202 (min p.rules.length 64) (fun i f σ => f 1 = .ptr 0 0 ∧ f 2 = .ptr 1 0 ∧ f 3 = .ptr 2 0 ∧ f 8 = .int .i64 (i : Int) ∧ ∃ xr R, σ = fitP p xd xu xr R ∧ LstA R 3 (((p.rules.take i).map ruleOf).map GR.enc) 6 xr) ?_ _ _ ?_
  rotate_left 1
  · exact ⟨by simp [h1], by simp [h2], by simp [h3], by simp, _, _, rfl, .inl ⟨by simp, rfl⟩⟩
  clear h1 h2 h3
  rintro i f σ hi ⟨h1, h2, h3, h8, xr, R, rfl, hx⟩
  by_cases hlt : i < min p.rules.length 64
  · have c1 : i < p.rules.length := by omega
    have c2 : (i : Int) < 64 := by omega
    have hmem := List.getElem_mem c1
    have hlw : IntKind.i64.wrap ((i : Int) + 1) = (i : Int) + 1 := wr64 (by omega) (by omega)
    have e1 : p.rules[i]? = some p.rules[i] := List.getElem?_eq_getElem c1
    obtain ⟨q1, q2, q3, q4⟩ := ruleOf_parts p.rules[i]
    rw [take_map ruleOf _ _ c1, List.map_append]
    have hall := allEl_map GR.enc 6 gr_okEl ((p.rules.take i).map ruleOf)
    have hlen : (((p.rules.take i).map ruleOf).map GR.enc).length = i := by simp; omega
    generalize hES : ((p.rules.take i).map ruleOf).map GR.enc = es at *
    simp [fitP, h1, h2, h3, h8, c1, c2, e1]
    rw [hBs]
    simp only [wpK_seq]
    refine ha i c1 (hp.2.2 _ hmem) xd xu xr R _ _ _ _ _ (by simp [h1]) (by simp [h2]) (by simp [h3]) (by simp [h8]) rfl ?_
    clear h1 h2 h3 h8
    intro f σ hf hσ
    simp only [wpK_seq]
    refine hb i c1 (hp.2.2 _ hmem) xd xu xr R _ _ _ f σ hf hσ ?_
    clear hf hσ f σ
    intro f σ hf hσ
    simp only [wpK_seq]
    refine hc i c1 xd xu xr R _ _ _ f σ hf hσ ?_
    clear hf hσ f σ
    intro f σ hf hσ
    simp only [wpK_seq]
    refine hd i c1 (hp.2.2 _ hmem) xd xu xr R _ _ _ f σ hf hσ ?_
    clear hf hσ f σ
    intro f σ hf hσ
    rw [← q4] at hσ
    refine he i c1 xd xu xr R es hall (by rw [hlen]; omega) hx _ _ f σ hf hσ ⟨q1, q2, q3⟩ ?_
    clear hf hσ f σ
    intro f σ h1 h2 h3 h8 ⟨xr', R', hσ, hx'⟩
    subst hσ
    simp [h1, h2, h3, h8, hlw]
    exact ⟨hlt, xr', R', rfl, hx'⟩
  · have c1 : ¬ (i < p.rules.length ∧ (i : Int) < 64) := by omega
    rw [take_min p.rules i 64 (by omega)] at hx
    by_cases d1 : i < p.rules.length
    · have d2 : ¬ ((i : Int) < 64) := fun h => c1 ⟨d1, h⟩
      simp [fitP, h1, h8, d1, d2]
      exact hk _ _ (by simp [h1]) (by simp [h2]) (by simp [h3]) ⟨_, _, rfl, hx.b⟩
    · simp [fitP, h1, h8, d1]
      exact hk _ _ (by simp [h1]) (by simp [h2]) (by simp [h3]) ⟨_, _, rfl, hx.b⟩
theorem fit4_ok (p : GP) (hp : p.ok) (hs : p.size ≤ 1048576) : pureT T c10 [p.enc] = some (progOf p).enc := by
  apply pure_enter (by simp [c10])
  have h1 := fit1 p hp hs
  have h2 := fit2 p hp hs
  have h3 := fit3 p hp hs
  obtain ⟨A, hA⟩ : ∃ A, A = c10.body.snd.snd.fst := ⟨_, rfl⟩
  obtain ⟨B, hB⟩ : ∃ B, B = c10.body.snd.snd.snd.fst := ⟨_, rfl⟩
  obtain ⟨C, hC⟩ : ∃ C, C = c10.body.snd.snd.snd.snd.fst := ⟨_, rfl⟩
  simp only [← hA, ← hB, ← hC] at h1 h2 h3
  have hL : c10.body = .seq c10.body.fst (.seq c10.body.snd.fst (.seq A (.seq B (.seq C c10.body.snd.snd.snd.snd.snd)))) := by rw [hA, hB, hC]; rfl
  rw [hL]
  clear hL hA hB hC
  simp [c10, ACode.fst, ACode.snd, GP.enc_eq]
  refine h1 _ _ _ _ (by simp) (by simp) (by simp) rfl ?_
  intro f σ g1 g2 g3 ⟨xd, R, hσ, hxd⟩
  simp only [wpK_seq]
  refine h2 xd R _ _ f σ g1 g2 g3 hσ ?_
  clear g1 g2 g3 hσ f σ
  intro f σ g1 g2 g3 ⟨xu, R, hσ, hxu⟩
  simp only [wpK_seq]
  refine h3 xd xu R _ _ f σ g1 g2 g3 hσ ?_
  clear g1 g2 g3 hσ f σ
  intro f σ g1 g2 g3 ⟨xr, R, hσ, hxr⟩
  subst hσ
  have a1 : xd.cells = [xd] ∧ xu.cells = [xu] ∧ xr.cells = [xr] := by
    refine ⟨?_, ?_, ?_⟩
    · rcases hxd with ⟨_, rfl⟩ | ⟨k, rfl⟩ <;> rfl
    · rcases hxu with ⟨_, rfl⟩ | ⟨k, rfl⟩ <;> rfl
    · rcases hxr with ⟨_, rfl⟩ | ⟨k, rfl⟩ <;> rfl
  have b1 := fun σ => hxd.close (σ := σ)
  have b2 := fun σ => hxu.close (σ := σ)
  have b3 := fun σ => hxr.close (σ := σ)
  simp [fitP, g1, g2, g3, setRun, a1, b1, b2, b3, closeL]
  refine ⟨?_, ?_, ?_⟩ <;> simp [progOf]
theorem callFit4 (p : GP) (hp : p.ok) (hs : p.size ≤ 1048576) (bs : Nat) (σ : Heap) : callT T 10 [p.enc] bs σ = some ((progOf p).enc, σ) := call_clean rfl rfl rfl (by simp) (fit4_ok p hp hs)
end Go.Proofs.YtpkfkipbemdhmaaGreatDoor
end
section
set_option linter.unusedVariables false
set_option linter.unusedSimpArgs false
set_option linter.unnecessarySimpa false
namespace Go.Proofs.YtpkfkipbemdhmaaGreatDoor
open Go.Mach
def hi (l : List UInt8) : Prop := ∀ c ∈ l, 32 ≤ c.toNat
def nlc (l : List UInt8) : Nat := l.countP (fun c => c.toNat == 10)
end Go.Proofs.YtpkfkipbemdhmaaGreatDoor
end
section
set_option linter.unusedVariables false
set_option linter.unusedSimpArgs false
set_option linter.unnecessarySimpa false
namespace Go.Proofs.YtpkfkipbemdhmaaGreatDoor
open Go.Mach
theorem printerJoins_ok (p : GP) (hp : p.ok) (hs : p.size ≤ 1048576) : pureT T c6 [p.enc] = some (.bool true) := by
  have hr := prog_right p
  have hsz := progOf_le p
  have hfit := callFit4 p hp hs
  generalize progOf p = q at *
  have hpr := sayProgram q (by omega)
  have hln := prog_len hr
  have hprog : textProgram q = S (shProg q) := by simp only [textProgram]; rw [if_pos hr]
  rw [hprog] at hpr
  have m2 := fun y hy => q.facts_mem (y := y) hy
  have m3 := fun y hy => q.rules_mem (y := y) hy
  have l2 := q.facts_len
  have l3 := q.rules_len
  have gs := gp_size q
  obtain ⟨ds, us, rs⟩ := q
  simp only at l2 l3 m2 m3 gs
  have hr0 : progB ⟨ds, [], []⟩ = true := by
    simp only [progB, Bool.and_eq_true, decide_eq_true_eq] at hr ⊢
    exact ⟨⟨⟨⟨hr.1.1.1.1, by simp, by simp⟩, rfl⟩, rfl⟩, hr.2⟩
  have hd0 := textProgram_ok
  have hdecl : ∀ bs σ, callT T 12 [.agg [.isl (ds.map GD.enc) false, .isl [] true, .isl [] true]] bs σ = some (.str (S (ds.flatMap shDecl)), σ) := fun bs σ => by
    have h0 : textProgram ⟨ds, [], []⟩ = S (ds.flatMap shDecl) := by
      simp only [textProgram]; rw [if_pos hr0]; simp [shProg]
    have := pProgram_ok ⟨ds, [], []⟩ (by rw [gp_size]; simp only [List.map_nil, bulkAs]; omega)
    rw [h0] at this
    exact call_scal rfl rfl rfl this rfl (by simp) rfl
  simp only [progB, Bool.and_eq_true, decide_eq_true_eq, List.all_eq_true] at hr
  obtain ⟨⟨⟨b1, b2⟩, b3⟩, b4⟩ := hr
  have hu : ∀ y ∈ us, ∀ bs σ, callT T 22 [y.enc] bs σ = some (.str (S (shTup y)), σ) := fun y hy bs σ => by
    rw [sayTuple y (by have := m2 y hy; omega) bs σ]; unfold textTuple; rw [if_pos (b2 y hy)]
  have hrl : ∀ y ∈ rs, ∀ bs σ, callT T 21 [y.enc] bs σ = some (.str (S (shRule y)), σ) := fun y hy bs σ => by
    rw [sayRule y (by have := m3 y hy; omega) bs σ]; unfold textRule; rw [if_pos (b3 y hy)]
  rw [GP.enc_eq] at hfit hpr
  simp only [shProg] at hfit hpr hln
  simp only [List.length_append] at hln
  generalize ds.flatMap shDecl = D at *
  apply pure_enter (by simp [c6])
  simp [c6, callAwake4, hfit, hdecl, setRun]
  refine W_for T 0 54 us.length (fun i f σ => f 3 = .bool true ∧ f 4 = .ptr 1 0 ∧ f 5 = .str (S (D ++ (us.take i).flatMap fun t => shTup t ++ [10])) ∧ f 6 = .int .i64 (i : Int) ∧ ∃ o, σ = [o, .cells [.isl (ds.map GD.enc) false, .isl (us.map GU.enc) false, .isl (rs.map GR.enc) false] 0 false]) ?_ _ _ ?_
  rotate_left 1
  · simp
  rintro i f σ hi ⟨g3, g1, g4, g5, o, rfl⟩
  by_cases hlt : i < us.length
  · have e1 : us[i]? = some us[i] := List.getElem?_eq_getElem hlt
    have hm := List.getElem_mem hlt
    have hw : IntKind.i64.wrap ((i : Int) + 1) = (i : Int) + 1 := wr64 (by omega) (by omega)
    have hle := flat_le (fun t => shTup t ++ [10]) us (i + 1)
    rw [flat_take (fun t => shTup t ++ [10]) us i hlt] at hle ⊢
    generalize (us.take i).flatMap (fun t => shTup t ++ [10]) = cur at *
    simp only [List.length_append, List.length_cons, List.length_nil] at hle
    have hc := hu us[i] hm
    have e : S (D ++ cur) ++ S (shTup us[i]) ++ ⟨#[10]⟩ = S (D ++ (cur ++ (shTup us[i] ++ [10]))) := bytes_ext (by simp [S])
    have q0 : (D.length : Int) + (cur.length : Int) + ((shTup us[i]).length : Int) ≤ 9223372036854775807 := by omega
    have q1 : (D.length : Int) + (cur.length : Int) + ((shTup us[i]).length : Int) + 1 ≤ 9223372036854775807 := by omega
    simp only [← e]
    simp [g1, g3, g4, g5, hlt, e1, hw, ← GU.enc_eq, hc, S_sz, sz_mk, q0, q1]
  · have he : i = us.length := by omega
    subst he
    rw [List.take_length] at g4
    simp [g1, g4, g5]
    refine W_for T 0 54 rs.length (fun i f σ => f 3 = .bool true ∧ f 4 = .ptr 1 0 ∧ f 5 = .str (S (D ++ (us.flatMap (fun t => shTup t ++ [10]) ++ (rs.take i).flatMap fun t => shRule t ++ [10]))) ∧ f 7 = .int .i64 (i : Int) ∧ ∃ o, σ = [o, .cells [.isl (ds.map GD.enc) false, .isl (us.map GU.enc) false, .isl (rs.map GR.enc) false] 0 false]) ?_ _ _ ?_
    rotate_left 1
    · simp [g1, g3, g4]
    clear g1 g3 g4 g5
    rintro i f σ hi ⟨g3, g1, g4, g5, o, rfl⟩
    by_cases hlt : i < rs.length
    · have e1 : rs[i]? = some rs[i] := List.getElem?_eq_getElem hlt
      have hm := List.getElem_mem hlt
      have hw : IntKind.i64.wrap ((i : Int) + 1) = (i : Int) + 1 := wr64 (by omega) (by omega)
      have hle := flat_le (fun t => shRule t ++ [10]) rs (i + 1)
      rw [flat_take (fun t => shRule t ++ [10]) rs i hlt] at hle ⊢
      generalize (rs.take i).flatMap (fun t => shRule t ++ [10]) = cur at *
      simp only [List.length_append, List.length_cons, List.length_nil] at hle
      have hc := hrl rs[i] hm
      generalize us.flatMap (fun t => shTup t ++ [10]) = E at *
      have e : S (D ++ (E ++ cur)) ++ S (shRule rs[i]) ++ ⟨#[10]⟩ = S (D ++ (E ++ (cur ++ (shRule rs[i] ++ [10])))) := bytes_ext (by simp [S])
      have q0 : (D.length : Int) + ((E.length : Int) + (cur.length : Int)) + ((shRule rs[i]).length : Int) ≤ 9223372036854775807 := by omega
      have q1 : (D.length : Int) + ((E.length : Int) + (cur.length : Int)) + ((shRule rs[i]).length : Int) + 1 ≤ 9223372036854775807 := by omega
      simp only [← e]
      simp [g1, g3, g4, g5, hlt, e1, hw, ← GR.enc_eq, hc, S_sz, sz_mk, q0, q1]
    · have he : i = rs.length := by omega
      subst he
      rw [List.take_length] at g4
      simp [g1, g3, g4, g5, hpr]
end Go.Proofs.YtpkfkipbemdhmaaGreatDoor
end
section
set_option linter.unusedVariables false
set_option linter.unusedSimpArgs false
set_option linter.unnecessarySimpa false
namespace Go.Proofs.YtpkfkipbemdhmaaGreatDoor
open Go.Mach
def wrongOf (m : Nat) (r : GR) : GR :=
  if m = 0 then { r with agg := ⟨#[115, 117, 109]⟩ } else if m = 1 then { r with agg := sMin, pos := (r.args.length : Int) } else if m = 2 then { r with agg := sMin, pos := 0 } else if m = 3 then { r with body := [] } else if m = 4 then { r with head := sCons } else { r with args := [] }
theorem wrong_rule (m : Nat) (r : GR) : ruleB (wrongOf m r) = false := by
  have hs : (⟨#[115, 117, 109]⟩ : ByteArray) ≠ ⟨#[]⟩ ∧ ¬ ((⟨#[115, 117, 109]⟩ : ByteArray) = sMin ∨ (⟨#[115, 117, 109]⟩ : ByteArray) = sMax ∨ (⟨#[115, 117, 109]⟩ : ByteArray) = sCount) := by decide
  have hm : sMin ≠ ⟨#[]⟩ := by decide
  have hc : relOK sCons = false := by decide +kernel
  unfold wrongOf
  repeat' split
  · simp [ruleB, aggB, hs.1, hs.2]
  · simp [ruleB, aggB, hm]
  · simp [ruleB, aggB, hm]
  · simp [ruleB]
  · simp [ruleB, hc]
  · simp [ruleB, argsB]
theorem wrong_prog {q : GP} {r : GR} (hr : ruleB r = false) (hm : r ∈ q.rules) : progB q = false := by
  rw [Bool.eq_false_iff]
  intro h
  simp only [progB, Bool.and_eq_true, List.all_eq_true] at h
  rw [h.1.2 r hm] at hr; cases hr
def RuCells (cs : List AV) (r : GR) : Prop := cs.map AV.nrm = r.enc.cells ∧ cs.all AV.clo1 = true ∧ cs.length = 6
theorem grs_flat (l : List GR) : ∀ e ∈ l.map GR.enc, ∃ cs, e = AV.agg cs ∧ cs.length = 6 := fun e he => by
  obtain ⟨v, _, rfl⟩ := List.mem_map.1 he; exact ⟨_, v.enc_eq, rfl⟩
theorem grs_len (l : List GR) : ∀ e ∈ l.map GR.enc, e.cells.length = 6 := fun e he => by
  obtain ⟨v, _, rfl⟩ := List.mem_map.1 he; rfl
theorem grs_nrm (l : List GR) : (flat (l.map GR.enc)).map AV.nrm = flat (l.map GR.enc) ∧ (flat (l.map GR.enc)).all AV.clo1 = true := by
  induction l with
  | nil => exact ⟨rfl, rfl⟩
  | cons x l ih =>
    have e : flat ((x :: l).map GR.enc) = x.enc.cells ++ flat (l.map GR.enc) := by simp [flat]
    rw [e]
    constructor
    · rw [List.map_append, ih.1]; simp [AV.nrm]
    · rw [List.all_append, ih.2]; simp [AV.clo1]
theorem rules_close {σ : Heap} {id : Nat} {l : List GR} {k : Nat} {cs : List AV} {r : GR} (hk : k < l.length) (hc : RuCells cs r) (h : σ[id]? = some (.cells (setRun (flat (l.map GR.enc)) (k * 6) cs) 0 true)) :
    ∃ σ1, close1 σ (.sl id 0 l.length 6 true) = some (.isl ((l.set k r).map GR.enc) false, σ1) := by
  obtain ⟨c1, c2, c3⟩ := hc
  have hfl : (flat (l.map GR.enc)).length = l.length * 6 := by have := Go.Mach.flat_len (grs_len l); simpa using this
  have hle : k * 6 + cs.length ≤ (flat (l.map GR.enc)).length := by rw [hfl, c3]; omega
  have h1 := setRun_nrm (flat (l.map GR.enc)) cs (k * 6) hle
  rw [(grs_nrm l).1, c1] at h1
  have h2 := flat_set (s := 6) (v := r.enc) rfl (es := l.map GR.enc) (i := k) (by simpa using hk) (grs_len l)
  rw [h2, ← List.map_set] at h1
  have h3 := setRun_clo (flat (l.map GR.enc)) cs (k * 6) hle (grs_nrm l).2 c2
  have hch := flat_chunk (grs_flat (l.set k r))
  rw [List.length_map, List.length_set] at hch
  have hlen : (setRun (flat (l.map GR.enc)) (k * 6) cs).length = l.length * 6 := by rw [setRun_length, hfl]
  have hl0 : l.length ≠ 0 := by omega
  refine ⟨frz σ id (0 + l.length * 6), close1_of0 ?_⟩
  unfold close0
  simp only [if_neg hl0, h, window_full hlen, Option.bind_some, h3, if_true, h1, hch, Option.map_some]
theorem ru_close {σ : Heap} {cs : List AV} {r : GR} (hc : RuCells cs r) : closeT σ [.agg cs] = some ([r.enc], σ) := by
  obtain ⟨c1, c2, c3⟩ := hc
  have key : ∀ l : List AV, l.all AV.clo1 = true → closeL σ l = some (l.map AV.nrm, σ) := fun l hl => by
    induction l with
    | nil => rfl
    | cons x l ih =>
      simp only [List.all_cons, Bool.and_eq_true] at hl
      have h1 : close1 σ x = some (x.nrm, σ) := by
        have := hl.1
        cases x <;> first | rfl | (cases this; done)
      simp [closeL, h1, ih hl.2]
  simp only [closeT, closeA, key cs c2, c1, Option.map_some, Option.bind_some]
  rfl
abbrev wrongC : ACode := c5.body.snd.snd.snd.snd.snd.snd
theorem wrong_tail (q : GP) (hs : q.size ≤ 50000000) (k : Nat) (hk : k < q.rules.length) (r : GR) (hr : ruleB r = false) (hrs : r.size ≤ 50000000) (hsz : (GP.mk q.decls q.facts (q.rules.set k r)).size ≤ 200000000) (cs : List AV) (hc : RuCells cs r) (A : AObj) (f : FR) (σ : Heap)
    (h7 : f 7 = .bool true) (h8 : f 8 = .ptr 1 0) (h9 : f 9 = .int .i64 (k : Int)) (h10 : f 10 = .ptr 2 0) (hσ : ∃ X, σ = A :: .cells [.isl (q.decls.map GD.enc) false, .isl (q.facts.map GU.enc) false, .isl (q.rules.map GR.enc) false] 0 false :: .cells cs 0 false :: X) :
    wpK T 0 77 [.code wrongC.snd] f σ (endP 77 [.tmp 6] (.bool true)) := by
  obtain ⟨X, rfl⟩ := hσ
  obtain ⟨ds, us, rs⟩ := q
  simp only at hk hsz ⊢
  have hll : rs.length ≤ 50000000 := by have := GP.rules_len ⟨ds, us, rs⟩; simp only at this; omega
  have hq : progB ⟨ds, us, rs.set k r⟩ = false := wrong_prog hr (List.mem_set hk _)
  have hcl := hc
  obtain ⟨c1, c2, c3⟩ := hcl
  have hfl : (flat (rs.map GR.enc)).length = rs.length * 6 := by have := Go.Mach.flat_len (grs_len rs); simpa using this
  have happ : appendA (A :: .cells [.isl (ds.map GD.enc) false, .isl (us.map GU.enc) false, .isl (rs.map GR.enc) false] 0 false :: .cells cs 0 false :: X) 6 true 104 true (.isl [] true) (.isl (rs.map GR.enc) false) =
      some (.sl (X.length + 3) 0 rs.length 6 true, A :: .cells [.isl (ds.map GD.enc) false, .isl (us.map GU.enc) false, .isl (rs.map GR.enc) false] 0 false :: .cells cs 0 false :: (X ++ [.cells (flat (rs.map GR.enc)) 0 true])) := by
    have hne : ¬ (rs.map GR.enc = []) := fun e => by have := congrArg List.length e; simp at this; subst this; simp at hk
    have hn2 : ¬ ((6 : Nat) = 0 ∨ (0 + (rs.map GR.enc).length) * 104 > 70368744177664 ∨ 0 + (rs.map GR.enc).length > 70368744177664) := by simp; omega
    have e1 : ∀ σ : Heap, elemsN σ 6 true (.isl (rs.map GR.enc) false) = some (rs.map GR.enc) := fun _ => rfl
    have e2 : ∀ σ : Heap, elemsA σ 6 true (.isl [] true) = some [] := fun _ => rfl
    simp only [appendA, e1, e2, Option.bind_some, isSl, if_neg hne, List.length_nil, if_neg hn2]
    have hf0 : flat ([] : List AV) = [] := rfl
    simp [hfl, hf0]
  have hcells : (AV.agg cs).solid = true ∧ (AV.agg cs).cells = cs := ⟨rfl, rfl⟩
  have hstore : k * 6 + 6 ≤ (flat (rs.map GR.enc)).length := by omega
  obtain ⟨σF, hσF⟩ : ∃ σF, σF = A :: AObj.cells [.isl (ds.map GD.enc) false, .isl (us.map GU.enc) false, .sl (X.length + 3) 0 rs.length 6 true] 0 false :: .cells cs 0 false :: (X ++ [.cells (setRun (flat (rs.map GR.enc)) (k * 6) cs) 0 true]) := ⟨_, rfl⟩
  obtain ⟨σ1, hcl1⟩ := rules_close (σ := σF) (id := X.length + 3) (l := rs) (k := k) (cs := cs) (r := r) hk hc (by rw [hσF]; simp)
  have hT : closeT σF [.agg [.isl (ds.map GD.enc) false, .isl (us.map GU.enc) false, .sl (X.length + 3) 0 rs.length 6 true]] = some ([GP.enc ⟨ds, us, rs.set k r⟩], σ1) := by
    simp [closeT, closeL, hcl1, GP.enc]
  have hright : callT T 11 [.agg [.isl (ds.map GD.enc) false, .isl (us.map GU.enc) false, .sl (X.length + 3) 0 rs.length 6 true]] 0 σF = some (.bool false, σF) := by
    have := pright_ok ⟨ds, us, rs.set k r⟩ (by omega)
    rw [hq] at this
    exact call_scal rfl rfl rfl this rfl (by simp) hT
  have hprint : callT T 12 [.agg [.isl (ds.map GD.enc) false, .isl (us.map GU.enc) false, .sl (X.length + 3) 0 rs.length 6 true]] 0 σF = some (.str ⟨#[]⟩, σF) := by
    have := pProgram_ok ⟨ds, us, rs.set k r⟩ (by omega)
    have e : textProgram ⟨ds, us, rs.set k r⟩ = ⟨#[]⟩ := by simp [textProgram, hq, S]
    rw [e] at this
    exact call_scal rfl rfl rfl this rfl (by simp) hT
  have hrule : ∀ bs σ, callT T 21 [.agg cs] bs σ = some (.str ⟨#[]⟩, σ) := fun bs σ => by
    have := pRule_ok r (by omega)
    have e : textRule r = ⟨#[]⟩ := by simp [textRule, hr, S]
    rw [e] at this
    exact call_scal rfl rfl rfl this rfl (by simp) (ru_close hc)
  rw [hσF] at hright hprint
  have hk2 : (k : Int) < (rs.length : Int) := by omega
  have htk : cs.take 6 = cs := List.take_of_length_le (by omega)
  simp [wrongC, c5, ACode.fst, ACode.snd, h7, h8, h9, h10, happ, hk, hk2, htk, c3, hstore, hright, hprint, hrule]
end Go.Proofs.YtpkfkipbemdhmaaGreatDoor
end
section
set_option linter.unusedVariables false
set_option linter.unusedSimpArgs false
set_option linter.unnecessarySimpa false
namespace Go.Proofs.YtpkfkipbemdhmaaGreatDoor
open Go.Mach
theorem wrong_size (m : Nat) (r : GR) : (wrongOf m r).size ≤ r.size + 10 := by
  have h := gr_size r
  rw [gr_size]
  have h1 : (⟨#[115, 117, 109]⟩ : ByteArray).size = 3 := rfl
  have h2 : sMin.size = 3 := rfl
  have h3 : sCons.size = 6 := rfl
  unfold wrongOf
  (repeat' split) <;> simp only [h1, h2, h3, List.map_nil, bulkAs, GT.sizes] <;> omega
theorem bulk_set (l : List GR) (k : Nat) (r : GR) : bulkAs ((l.set k r).map GR.enc) ≤ bulkAs (l.map GR.enc) + r.size := by
  induction l generalizing k with
  | nil => simp [bulkAs]
  | cons x l ih =>
    cases k with
    | zero => simp only [List.set_cons_zero, List.map_cons, bulkAs, GR.size]; omega
    | succ k => have := ih k; simp only [List.set_cons_succ, List.map_cons, bulkAs] at this ⊢; omega
set_option maxRecDepth 100000 in
theorem printerWrong_ok (p : GP) (which pos : Int) (hp : p.ok) (hs : p.size ≤ 1048576) (hw : GV.i64ok which) (hpos : GV.i64ok pos) : pureT T c5 [p.enc, .int .i64 which, .int .i64 pos] = some (.bool true) := by
  have hsz := progOf_le p
  have hfit := callFit4 p hp hs
  generalize progOf p = q at *
  have m3 := fun y hy => q.rules_mem (y := y) hy
  have l3 := q.rules_len
  have gs := gp_size q
  have tail := wrong_tail q (by omega)
  obtain ⟨ds, us, rs⟩ := q
  try simp only at l3
  try simp only at m3
  try simp only at gs
  try simp only at tail
  rw [GP.enc_eq] at hfit
  try simp only at hfit
  obtain ⟨C, hC⟩ : ∃ C, C = wrongC.snd := ⟨_, rfl⟩
  rw [← hC] at tail
  have hB : c5.body = .seq c5.body.fst (.seq c5.body.snd.fst (.seq c5.body.snd.snd.fst (.seq c5.body.snd.snd.snd.fst
    (.seq c5.body.snd.snd.snd.snd.fst (.seq c5.body.snd.snd.snd.snd.snd.fst (.seq wrongC.fst C)))))) := by rw [hC]; rfl
  apply pure_enter (by simp [c5])
  rw [hB]
  clear hB hC
  by_cases h0 : rs = []
  · subst h0
    simp [c5, ACode.fst, ACode.snd, wrongC, callAwake4, hfit, setRun]
  · have hpos0 : 0 < rs.length := List.length_pos_iff.2 h0
    have hq := pickQ pos rs.length hpos0 hpos
    have hk := pickN_lt (c := pos) (n := rs.length) hpos0
    have hq6 := pickQ6 which hw
    have hm := pickN_lt (c := which) (n := 6) (by omega)
    generalize pickN pos rs.length = k at *
    generalize pickN which 6 = m at *
    have hmem := List.getElem_mem hk
    have hrs := m3 _ hmem
    have e1 : rs[k]? = some rs[k] := List.getElem?_eq_getElem hk
    have tail := tail k hk
    have hb := bulk_set rs k
    obtain ⟨r, hr⟩ : ∃ r, r = rs[k] := ⟨_, rfl⟩
    rw [← hr] at e1 hrs hmem
    have hne : ¬ ((rs.length : Int) = 0) := by omega
    have fin : ∀ (cs : List AV), RuCells cs (wrongOf m r) → ∀ A f σ, f 7 = .bool true → f 8 = .ptr 1 0 → f 9 = .int .i64 (k : Int) → f 10 = .ptr 2 0 → (∃ X, σ = A :: .cells [.isl (ds.map GD.enc) false, .isl (us.map GU.enc) false, .isl (rs.map GR.enc) false] 0 false :: .cells cs 0 false :: X) →
        wpK T 0 77 [.code C] f σ (endP 77 [.tmp 6] (.bool true)) := fun cs hcs A f σ h7 h8 h9 h10 hσ =>
      tail (wrongOf m r) (wrong_rule m r) (by have := wrong_size m r; omega) (by have := wrong_size m r; have := hb (wrongOf m r); rw [gp_size]; simp only; omega) cs hcs A f σ h7 h8 h9 h10 hσ
    clear tail
    have hm6 : m = 0 ∨ m = 1 ∨ m = 2 ∨ m = 3 ∨ m = 4 ∨ m = 5 := by omega
    rcases hm6 with rfl | rfl | rfl | rfl | rfl | rfl
    all_goals
      simp [c5, ACode.fst, ACode.snd, wrongC, callAwake4, hfit, hq, hq6, hk, ← hr, h0, setRun]
    · exact fin [.str r.label, .str r.head, .isl (GT.encs r.args) false, .str ⟨#[115, 117, 109]⟩, .int .i64 r.pos, .isl (r.body.map GL.enc) false] ⟨by simp [wrongOf, AV.nrm], rfl, rfl⟩ _ _ _ (by simp) (by simp) (by simp) (by simp) ⟨[], rfl⟩
    · exact fin [.str r.label, .str r.head, .isl (GT.encs r.args) false, .str sMin, .int .i64 (r.args.length : Int), .isl (r.body.map GL.enc) false] ⟨by simp [wrongOf, AV.nrm], rfl, rfl⟩ _ _ _ (by simp) (by simp) (by simp) (by simp) ⟨[], rfl⟩
    · exact fin [.str r.label, .str r.head, .isl (GT.encs r.args) false, .str sMin, .int .i64 0, .isl (r.body.map GL.enc) false] ⟨by simp [wrongOf, AV.nrm], rfl, rfl⟩ _ _ _ (by simp) (by simp) (by simp) (by simp) ⟨[], rfl⟩
    · exact fin [.str r.label, .str r.head, .isl (GT.encs r.args) false, .str r.agg, .int .i64 r.pos, .isl [] true] ⟨by simp [wrongOf, AV.nrm], rfl, rfl⟩ _ _ _ (by simp) (by simp) (by simp) (by simp) ⟨[], rfl⟩
    · exact fin [.str r.label, .str sCons, .isl (GT.encs r.args) false, .str r.agg, .int .i64 r.pos, .isl (r.body.map GL.enc) false] ⟨by simp [wrongOf, AV.nrm], rfl, rfl⟩ _ _ _ (by simp) (by simp) (by simp) (by simp) ⟨[], rfl⟩
    · exact fin [.str r.label, .str r.head, .isl [] true, .str r.agg, .int .i64 r.pos, .isl (r.body.map GL.enc) false] ⟨by simp [wrongOf, AV.nrm, GT.encs], rfl, rfl⟩ _ _ _ (by simp) (by simp) (by simp) (by simp) ⟨[], rfl⟩
end Go.Proofs.YtpkfkipbemdhmaaGreatDoor
end
section
set_option linter.unusedVariables false
set_option linter.unusedSimpArgs false
set_option linter.unnecessarySimpa false
namespace Go.Proofs.YtpkfkipbemdhmaaGreatDoor
open Go.Mach
theorem callValues (l l2 : List GV) (hs : GV.sizes l ≤ 10000000000) (bs : Nat) (σ : Heap) : callT T 93 [.isl (GV.encs l) false, .isl (GV.encs l2) false] bs σ = some (.bool (sym (decide (l = l2))), σ) :=
  call_clean rfl rfl rfl (by simp) (values_ok l l2 (by have := len_sizes l; omega) fun x hx y hy bs σ => callSame x y (by have := (sizes_mem hx).1; omega) bs σ)
instance : DecidableEq GU := fun a b => decidable_of_iff (a.name = b.name ∧ a.args = b.args) ⟨fun h => gu_ext h.1 h.2, fun h => by rw [h]; simp⟩
instance : DecidableEq GD := fun a b => decidable_of_iff (a.name = b.name ∧ a.arity = b.arity) ⟨fun h => gd_ext h.1 h.2, fun h => by rw [h]; simp⟩
instance : DecidableEq GR := fun a b => decidable_of_iff (a.label = b.label ∧ a.head = b.head ∧ a.args = b.args ∧ a.agg = b.agg ∧ a.pos = b.pos ∧ a.body = b.body) ⟨fun h => gr_ext h.1 h.2.1 h.2.2.1 h.2.2.2.1 h.2.2.2.2.1 h.2.2.2.2.2, fun h => by rw [h]; simp⟩
instance : DecidableEq GP := fun a b => decidable_of_iff (a.decls = b.decls ∧ a.facts = b.facts ∧ a.rules = b.rules) ⟨fun h => gp_ext h.1 h.2.1 h.2.2, fun h => by rw [h]; simp⟩
theorem gu_iff (a b : GU) : a = b ↔ a.name = b.name ∧ a.args = b.args := ⟨fun h => by rw [h]; simp, fun h => gu_ext h.1 h.2⟩
theorem gd_iff (a b : GD) : a = b ↔ a.name = b.name ∧ a.arity = b.arity := ⟨fun h => by rw [h]; simp, fun h => gd_ext h.1 h.2⟩
theorem gr_iff (a b : GR) : a = b ↔ a.label = b.label ∧ a.head = b.head ∧ a.args = b.args ∧ a.agg = b.agg ∧ a.pos = b.pos ∧ a.body = b.body := ⟨fun h => by rw [h]; simp, fun h => gr_ext h.1 h.2.1 h.2.2.1 h.2.2.2.1 h.2.2.2.2.1 h.2.2.2.2.2⟩
theorem gp_iff (a b : GP) : a = b ↔ a.decls = b.decls ∧ a.facts = b.facts ∧ a.rules = b.rules := ⟨fun h => by rw [h]; simp, fun h => gp_ext h.1 h.2.1 h.2.2⟩
theorem sameU_ok (a b : GU) (hs : a.size ≤ 1000000000) : pureT T c47 [a.enc, b.enc] = some (.bool (decide (a = b))) := by
  have h1 := a.args_le
  have hv := callValues a.args b.args (by omega)
  apply pure_enter (by simp [c47])
  simp [c47, GU.enc_eq, hv, gu_iff a b]
  repeat' (first | apply And.intro | intro _)
  all_goals first | (simp_all; done) | grind
theorem callSameU (a b : GU) (hs : a.size ≤ 1000000000) (bs : Nat) (σ : Heap) : callT T 47 [a.enc, b.enc] bs σ = some (.bool (sym (decide (a = b))), σ) := call_clean rfl rfl rfl (by simp) (sameU_ok a b hs)
theorem sameR_ok (a b : GR) (hs : a.size ≤ 1000000000) (hl : a.body.length ≤ 1000000) : pureT T c48 [a.enc, b.enc] = some (.bool (decide (a = b))) := by
  have h1 := a.args_le
  have h2 := fun y hy => a.body_mem (y := y) hy
  have hv := callSameTs a.args b.args (by omega)
  have hw := callSameLs a.body b.body hl fun x hx => by have := h2 x hx; omega
  apply pure_enter (by simp [c48])
  simp [c48, GR.enc_eq, hv, hw, gr_iff a b]
  repeat' (first | apply And.intro | intro _)
  all_goals first | (simp_all; done) | grind
theorem callSameR (a b : GR) (hs : a.size ≤ 1000000000) (hl : a.body.length ≤ 1000000) (bs : Nat) (σ : Heap) : callT T 48 [a.enc, b.enc] bs σ = some (.bool (sym (decide (a = b))), σ) := call_clean rfl rfl rfl (by simp) (sameR_ok a b hs hl)
theorem ext_step {α : Type} {a b : List α} {i : Nat} (h : ∀ j, (h1 : j < a.length) → (h2 : j < b.length) → j < i → a[j] = b[j]) (h1 : i < a.length) (h2 : i < b.length) (e : a[i] = b[i]) : ∀ j, (h1 : j < a.length) → (h2 : j < b.length) → j < i + 1 → a[j] = b[j] := fun j g1 g2 hj => by
  by_cases e2 : j = i
  · subst e2; exact e
  · exact h j g1 g2 (by omega)
theorem ext_no {α : Type} {a b : List α} {i : Nat} (h1 : i < a.length) (h2 : i < b.length) (e : ¬ a[i] = b[i]) : ¬ a = b := fun h => e (by subst h; rfl)
set_option maxRecDepth 100000 in
theorem sameP_ok (a b : GP) (hs : a.size ≤ 1000000000) (hl : ∀ r ∈ a.rules, r.body.length ≤ 1000000) : pureT T c13 [a.enc, b.enc] = some (.bool (decide (a = b))) := by
  have l1 := a.decls_len
  have l2 := a.facts_len
  have l3 := a.rules_len
  have m2 := fun y hy => a.facts_mem (y := y) hy
  have m3 := fun y hy => a.rules_mem (y := y) hy
  have hiff := gp_iff a b
  obtain ⟨ds, us, rs⟩ := a
  obtain ⟨ds2, us2, rs2⟩ := b
  simp only at l1 l2 l3 m2 m3 hl hiff
  apply pure_enter (by simp [c13])
  have hdec : decide ((⟨ds, us, rs⟩ : GP) = ⟨ds2, us2, rs2⟩) = decide (ds = ds2 ∧ us = us2 ∧ rs = rs2) := decide_eq_decide.2 hiff
  rw [hdec]
  by_cases c1 : ds.length = ds2.length
  case neg =>
    have n1 : ¬ (ds = ds2) := fun e => c1 (by rw [e])
    have n2 : ¬ ((ds.length : Int) = (ds2.length : Int)) := by omega
    simp [c13, GP.enc_eq, n1, n2]
  by_cases c2 : us.length = us2.length
  case neg =>
    have n1 : ¬ (us = us2) := fun e => c2 (by rw [e])
    have n2 : ¬ ((us.length : Int) = (us2.length : Int)) := by omega
    simp [c13, GP.enc_eq, c1, n1, n2]
  by_cases c3 : rs.length = rs2.length
  case neg =>
    have n1 : ¬ (rs = rs2) := fun e => c3 (by rw [e])
    have n2 : ¬ ((rs.length : Int) = (rs2.length : Int)) := by omega
    simp [c13, GP.enc_eq, c1, c2, n1, n2]
  simp [c13, GP.enc_eq, c1, c2, c3]
  refine W_for T 0 89 ds2.length (fun i f σ => f 2 = .ptr 0 0 ∧ f 3 = .ptr 1 0 ∧ f 5 = .int .i64 (i : Int) ∧ σ = [.cells [.isl (ds.map GD.enc) false, .isl (us.map GU.enc) false, .isl (rs.map GR.enc) false] 0 false, .cells [.isl (ds2.map GD.enc) false, .isl (us2.map GU.enc) false, .isl (rs2.map GR.enc) false] 0 false] ∧
    ∀ j, (h1 : j < ds.length) → (h2 : j < ds2.length) → j < i → ds[j] = ds2[j]) ?_ _ _ ?_
  rotate_left 1
  · simp
  rintro i f σ hi ⟨g1, g2, g3, rfl, hall⟩
  by_cases hlt : i < ds2.length
  · have hlt0 : i < ds.length := by omega
    have e1 : ds[i]? = some ds[i] := List.getElem?_eq_getElem hlt0
    have e2 : ds2[i]? = some ds2[i] := List.getElem?_eq_getElem hlt
    have hw : IntKind.i64.wrap ((i : Int) + 1) = (i : Int) + 1 := wr64 (by omega) (by omega)
    by_cases he : ds[i] = ds2[i]
    · have hstep := ext_step hall hlt0 hlt he
      obtain ⟨q1, q2⟩ := (gd_iff _ _).1 he
      simp [g1, g2, g3, c1, hlt, hlt0, e1, e2, hw, GD.enc_eq, q1, q2]
      exact fun j _ h2 hj => hstep j (by omega) h2 hj
    · have hn := ext_no hlt0 hlt he
      have hq : (!decide (ds[i].name = ds2[i].name) || !(ds[i].arity == ds2[i].arity)) = true := by
        rw [Bool.eq_iff_iff]
        simp only [Bool.or_eq_true, Bool.not_eq_true', decide_eq_false_iff_not, beq_eq_false_iff_ne, iff_true]
        by_cases h1 : ds[i].name = ds2[i].name
        · exact .inr fun h2 => he ((gd_iff _ _).2 ⟨h1, h2⟩)
        · exact .inl h1
      simp [g1, g2, g3, c1, hlt, hlt0, e1, e2, hw, GD.enc_eq, hn, hq]
  · have he : i = ds2.length := by omega
    subst he
    have hds : ds = ds2 := List.ext_getElem c1 fun j h1 h2 => hall j h1 h2 h2
    simp only [hds, true_and]
    simp [g1, g2, g3]
    refine W_for T 0 89 us2.length (fun i f σ => f 2 = .ptr 0 0 ∧ f 3 = .ptr 1 0 ∧ f 6 = .int .i64 (i : Int) ∧ σ = [.cells [.isl (ds2.map GD.enc) false, .isl (us.map GU.enc) false, .isl (rs.map GR.enc) false] 0 false, .cells [.isl (ds2.map GD.enc) false, .isl (us2.map GU.enc) false, .isl (rs2.map GR.enc) false] 0 false] ∧
      ∀ j, (h1 : j < us.length) → (h2 : j < us2.length) → j < i → us[j] = us2[j]) ?_ _ _ ?_
    rotate_left 1
    · simp [g1, g2]
    clear g1 g2 g3 hall hi hlt
    rintro i f σ hi ⟨g1, g2, g3, rfl, hall⟩
    by_cases hlt : i < us2.length
    · have hlt0 : i < us.length := by omega
      have e1 : us[i]? = some us[i] := List.getElem?_eq_getElem hlt0
      have e2 : us2[i]? = some us2[i] := List.getElem?_eq_getElem hlt
      have hw : IntKind.i64.wrap ((i : Int) + 1) = (i : Int) + 1 := wr64 (by omega) (by omega)
      have hc := callSameU us[i] us2[i] (by have := m2 _ (List.getElem_mem hlt0); omega)
      by_cases he : us[i] = us2[i]
      · have hstep := ext_step hall hlt0 hlt he
        simp only [he, decide_true, sym_true] at hc
        simp [g1, g2, g3, c2, hlt, hlt0, hw, ← GU.enc_eq, hc, he]
        exact fun j _ h2 hj => hstep j (by omega) h2 hj
      · have hn := ext_no hlt0 hlt he
        simp only [he, decide_false, sym_false] at hc
        simp [g1, g2, g3, c2, hlt, hlt0, hw, ← GU.enc_eq, hc, hn]
    · have he : i = us2.length := by omega
      subst he
      have hus : us = us2 := List.ext_getElem c2 fun j h1 h2 => hall j h1 h2 h2
      simp only [hus, true_and]
      simp [g1, g2, g3]
      refine W_for T 0 89 rs2.length (fun i f σ => f 2 = .ptr 0 0 ∧ f 3 = .ptr 1 0 ∧ f 7 = .int .i64 (i : Int) ∧ σ = [.cells [.isl (ds2.map GD.enc) false, .isl (us2.map GU.enc) false, .isl (rs.map GR.enc) false] 0 false, .cells [.isl (ds2.map GD.enc) false, .isl (us2.map GU.enc) false, .isl (rs2.map GR.enc) false] 0 false] ∧
        ∀ j, (h1 : j < rs.length) → (h2 : j < rs2.length) → j < i → rs[j] = rs2[j]) ?_ _ _ ?_
      rotate_left 1
      · simp [g1, g2]
      clear g1 g2 g3 hall hi hlt
      rintro i f σ hi ⟨g1, g2, g3, rfl, hall⟩
      by_cases hlt : i < rs2.length
      · have hlt0 : i < rs.length := by omega
        have e1 : rs[i]? = some rs[i] := List.getElem?_eq_getElem hlt0
        have e2 : rs2[i]? = some rs2[i] := List.getElem?_eq_getElem hlt
        have hw : IntKind.i64.wrap ((i : Int) + 1) = (i : Int) + 1 := wr64 (by omega) (by omega)
        have hm := List.getElem_mem hlt0
        have hc := callSameR rs[i] rs2[i] (by have := m3 _ hm; omega) (hl _ hm)
        by_cases he : rs[i] = rs2[i]
        · have hstep := ext_step hall hlt0 hlt he
          simp only [he, decide_true, sym_true] at hc
          simp [g1, g2, g3, c3, hlt, hlt0, hw, ← GR.enc_eq, hc, he]
          exact fun j _ h2 hj => hstep j (by omega) h2 hj
        · have hn := ext_no hlt0 hlt he
          simp only [he, decide_false, sym_false] at hc
          simp [g1, g2, g3, c3, hlt, hlt0, hw, ← GR.enc_eq, hc, hn]
      · have he : i = rs2.length := by omega
        subst he
        have hrs : rs = rs2 := List.ext_getElem c3 fun j h1 h2 => hall j h1 h2 h2
        simp [g1, g2, g3, hrs]
theorem callSameP (a b : GP) (hs : a.size ≤ 1000000000) (hl : ∀ r ∈ a.rules, r.body.length ≤ 1000000) (bs : Nat) (σ : Heap) : callT T 13 [a.enc, b.enc] bs σ = some (.bool (sym (decide (a = b))), σ) := call_clean rfl rfl rfl (by simp) (sameP_ok a b hs hl)
theorem printerApart_ok (a b : GP) (ha : a.ok) (hb : b.ok) (hsa : a.size ≤ 1048576) (hsb : b.size ≤ 1048576) : pureT T c3 [a.enc, b.enc] = some (.bool true) := by
  have r1 := prog_right a
  have r2 := prog_right b
  have z1 := progOf_le a
  have z2 := progOf_le b
  have f1 := callFit4 a ha hsa
  have f2 := callFit4 b hb hsb
  generalize progOf a = x at *
  generalize progOf b = y at *
  have p1 := sayProgram x (by omega)
  have p2 := sayProgram y (by omega)
  have q1 := callPRight x (by omega)
  have q2 := callPRight y (by omega)
  have e1 : textProgram x = S (shProg x) := by simp only [textProgram]; rw [if_pos r1]
  have e2 : textProgram y = S (shProg y) := by simp only [textProgram]; rw [if_pos r2]
  rw [e1] at p1; rw [e2] at p2; rw [r1] at q1; rw [r2] at q2
  have hS := callSameP x y (by omega) (fun r hr => by
    simp only [progB, Bool.and_eq_true, List.all_eq_true] at r1
    have := r1.1.2 r hr
    simp only [ruleB, Bool.and_eq_true, decide_eq_true_eq] at this
    have := this.1.1.2.2
    omega)
  have inj : (S (shProg x) = S (shProg y)) = (x = y) := propext (S_inj.trans (prog_inj r1 r2))
  apply pure_enter (by simp [c3])
  simp [c3, callAwake4, f1, f2, p1, p2, q1, q2, hS, ← GP.enc_eq, GP.enc_mk, inj, setRun, sym, chkO_f1]
end Go.Proofs.YtpkfkipbemdhmaaGreatDoor
end
