import Derived.Test.YtpgakkhfjjhpdaaC6
import Derived.Test.YtpgakkhfjjhpdaaC4
set_option linter.unusedVariables false
set_option linter.unusedSimpArgs false
set_option linter.unnecessarySimpa false
section
namespace Go.Proofs.Ytpgakkhfjjhpdaa
open Go.Mach
def arityP (p : GP) (n : ByteArray) : Int := match p.decls.find? (fun d => decide (d.name = n)) with
  | some d => d.arity
  | none => 0
theorem idxG_find {α : Type} (q : α → Bool) (l : List α) : (idxG q l < 0 ∧ l.find? q = none) ∨ ∃ i, ∃ h : i < l.length, idxG q l = (i : Int) ∧ l.find? q = some l[i] := by
  unfold idxG
  cases h : l.findIdx? q with
  | none =>
    refine .inl ⟨by simp, ?_⟩
    rw [List.findIdx?_eq_none_iff] at h
    rw [List.find?_eq_none]
    exact fun x hx => by simp [h x hx]
  | some i =>
    obtain ⟨hi, hp, hall⟩ := List.findIdx?_eq_some_iff_getElem.1 h
    refine .inr ⟨i, hi, rfl, ?_⟩
    rw [List.find?_eq_some_iff_append]
    refine ⟨hp, l.take i, l.drop (i + 1), by rw [List.getElem_cons_drop, List.take_append_drop], fun x hx => ?_⟩
    obtain ⟨j, hj, rfl⟩ := List.getElem_of_mem hx
    have := hall j (by simp at hj; omega)
    simpa using this
theorem arity1_call (d : GD) (n : ByteArray) {k : Nat} (bs : Nat) (σ : Heap) (h : σ[k]? = some (.cells [.str n] 0 false)) : callT T 35 [d.enc, .ptr k 0] bs σ = some (.bool (decide (d.name = n)), σ) := by
  have hk : k < σ.length := (List.getElem?_eq_some_iff.1 h).1
  have hk2 : ∀ o, (σ ++ [o])[k]? = some (.cells [.str n] 0 false) := fun o => by rw [List.getElem?_append_left hk]; exact h
  refine heap_enter (af := c35) (args' := [d.enc, .ptr k 0]) (σ1 := σ) rfl rfl (by simp [c35]) (by simp [c35]) rfl ?_
  simp [c35, baseA, hk2, dropA_gc, refLt, res1, refLt2_bool, refLt2_int, take_1]
theorem arity_ok (p : GP) (n : ByteArray) (hl : p.decls.length ≤ 100000000000) : pureT T c19 [p.enc, .str n] = some (.int .i64 (arityP p n)) := by
  have hi := fun σ (h : σ[1]? = some (AObj.cells [.str n] 0 false)) bs => idxDecl (fun d => decide (d.name = n)) p.decls 35 [.ptr 1 0] hl σ (fun x _ bs => arity1_call x n bs σ h) bs
  apply pure_enter (by simp [c19])
  rcases idxG_find (fun d : GD => decide (d.name = n)) p.decls with ⟨h1, h2⟩ | ⟨i, hlt, h1, h2⟩
  · have h3 : arityP p n = 0 := by simp only [arityP, h2]
    simp [c19, hi, h1, h3]
  · have h3 : arityP p n = p.decls[i].arity := by simp only [arityP, h2]
    rw [h1] at hi
    have h4 : ¬ ((i : Int) < 0) := by omega
    simp [c19, hi, h4, h3, hlt]
theorem callArity (p : GP) (n : ByteArray) (hl : p.decls.length ≤ 100000000000) (bs : Nat) (σ : Heap) : callT T 19 [p.enc, .str n] bs σ = some (.int .i64 (arityP p n), σ) := call_clean rfl rfl rfl (by simp) (arity_ok p n hl)
theorem rd44 : rds (rcOf Try.f38) = some r38 := by unfold rds; rw [if_pos rfl]
theorem ps44 : (rcOf Try.f38).params = #[8] := by kernel_rfl
def stepA (b : List ByteArray) (s : Nat) (m : ByteArray) : Nat × Bool := (s + 1, memB m b)
theorem run_all (b : List ByteArray) : ∀ (ns : List ByteArray) (s : Nat), (runS (stepA b) s ns).2 = ns.all (fun m => memB m b)
  | [], s => rfl
  | n :: ns, s => by
    simp only [runS, List.all_cons]
    have e : (stepA b s n).2 = memB n b := rfl
    by_cases h : (stepA b s n).2 = true
    · rw [if_pos h, run_all b ns]; rw [e] at h; simp [h]
    · rw [if_neg h]; rw [e] at h; simp [h]
def JA (σ : Heap) (k : Nat) (b : List ByteArray) (f : FR) (τ : Heap) : Prop :=
  σ.length + 4 ≤ τ.length ∧ τ[σ.length]? = some (.cells [.map k] 0 false) ∧ τ[σ.length + 1]? = some (.cells [.bool false] 0 false) ∧ τ[σ.length + 3]? = some (.lp (rcOf Try.f38) (lst 13 f) .ready none) ∧ ∀ j, j < σ.length → τ[j]? = σ[j]?
def XA (σ : Heap) (f : FR) (τ : Heap) : Prop :=
  σ.length + 4 ≤ τ.length ∧ τ[σ.length + 1]? = some (.cells [.bool false] 0 false) ∧ τ[σ.length + 3]? = some (.lp (rcOf Try.f38) (lst 13 f) .done (some .ret)) ∧ ∀ j, j < σ.length → τ[j]? = σ[j]?
theorem endRd_r {H : Heap} {i : Nat} {rc : RCode} {tm ρ : Regs} {st : LoopState} {pd : Option Go.Code} (h : H[i]? = some (.lp rc tm st pd)) : endRd i (.ret, ρ, H) = some (.bool false, H.set i (.lp rc tm .done (some .ret))) := by simp [endRd, h]
theorem roundA_ok {σ : Heap} {k : Nat} {b : List ByteArray} {f : FR} (hk : σ[k]? = some (mpN b)) (h2 : f 2 = .ptr σ.length 0) (h4 : f 4 = .ptr (σ.length + 1) 0) (τ : Heap) (m : ByteArray) (hJ : JA σ k b f τ) :
    ∃ τ', callT T yno [.yld (σ.length + 3), .str m] σ.length τ = some (.bool (memB m b), τ') ∧ (memB m b = true → JA σ k b f τ') ∧ (memB m b = false → XA σ f τ') ∧ τ.length ≤ τ'.length ∧ ∀ j cs, σ.length + 4 ≤ j → τ[j]? = some (.cells cs 0 false) → τ'[j]? = some (.cells cs 0 false) := by
  obtain ⟨hN, hm, hc, hlp, hall⟩ := hJ
  have hkl : k < σ.length := (List.getElem?_eq_some_iff.1 hk).1
  have n1 : ¬ σ.length + 3 = σ.length := by omega
  have n2 : ¬ σ.length + 3 = k := by omega
  have n3 : ¬ σ.length + 3 = σ.length + 1 := by omega
  have g1 : ∀ o, (τ.set (σ.length + 3) o)[σ.length]? = some (.cells [.map k] 0 false) := fun o => by rw [List.getElem?_set_ne n1]; exact hm
  have g2 : ∀ o, (τ.set (σ.length + 3) o)[k]? = some (mpN b) := fun o => by rw [List.getElem?_set_ne n2, hall k hkl]; exact hk
  have g3 : ∀ o, (τ.set (σ.length + 3) o)[σ.length + 1]? = some (.cells [.bool false] 0 false) := fun o => by rw [List.getElem?_set_ne n3]; exact hc
  cases hin : memB m b
  · refine ⟨_, round_call (f1 := upF f 8 (.str m)) hlp rd44 (Nat.le_refl _) (by rw [ps44]; rfl) (by rw [ps44]; exact put1 8 (.str m) (by decide)) (wpC_sound T σ.length 13 (by
      simp [r38]
      refine ⟨_, by simp [begLp, hlp]; rfl, wpC_sound T σ.length 13 ?_⟩
      simp [h2, h4, g1, g3, mlook_n (g2 _), hin]
      refine endRd_r (rc := rcOf Try.f38) (tm := lst 13 f) (st := .busy) (pd := none) ?_
      rw [List.getElem?_set_ne (by omega)]; exact list_set_at (by omega))), (fun e => by cases e), fun _ => ⟨by simp; omega, ?_, ?_, fun j hj => ?_⟩, by simp, fun j cs hj hcj => ?_⟩
    · rw [List.getElem?_set_ne (by omega)]; exact list_set_at (by simp; omega)
    · exact list_set_at (by simp; omega)
    · rw [List.getElem?_set_ne (by omega), List.getElem?_set_ne (by omega), List.getElem?_set_ne (by omega)]; exact hall j hj
    · rw [List.getElem?_set_ne (by omega), List.getElem?_set_ne (by omega), List.getElem?_set_ne (by omega)]; exact hcj
  · refine ⟨τ, round_call (f1 := upF f 8 (.str m)) hlp rd44 (Nat.le_refl _) (by rw [ps44]; rfl) (by rw [ps44]; exact put1 8 (.str m) (by decide)) (wpC_sound T σ.length 13 ?_), fun _ => ⟨hN, hm, hc, hlp, hall⟩, (fun e => by cases e), Nat.le_refl _, fun _ _ _ h => h⟩
    simp [r38]
    refine ⟨_, by simp [begLp, hlp]; rfl, wpC_sound T σ.length 13 ?_⟩
    simp [h2, h4, g1, g3, mlook_n (g2 _), hin]
    rw [endRd_n (list_set_at (by omega)), List.set_set, set_same hlp]
theorem take_of {σ τ : Heap} (hl : σ.length ≤ τ.length) (h : ∀ j, j < σ.length → τ[j]? = σ[j]?) : τ.take σ.length = σ := by
  apply List.ext_getElem?
  intro j
  rw [List.getElem?_take]
  split
  · rename_i hj; exact h j hj
  · rename_i hj; rw [List.getElem?_eq_none (by omega)]
def allB (b : List ByteArray) (l : List GT) : Bool := (vsL l).all fun m => memB m b
theorem callAllB (b : List ByteArray) (l : List GT) (hl : GT.sizes l ≤ 1000000000) {k : Nat} (bs : Nat) (σ : Heap) (hk : σ[k]? = some (mpN b)) : callT T 38 [.map k, .isl (GT.encs l) false] bs σ = some (.bool (allB b l), σ) := by
  refine heap_enter (af := c38) (args' := [.map k, .isl (GT.encs l) false]) (σ1 := σ) rfl rfl (by simp [c38]) (by simp [c38]) (by simp [closeArgs, c38]) ?_
  have hv := fun bs τ => variables_isl l bs τ
  simp [c38, baseA, hv]
  generalize hf : upF _ _ _ = f
  have h2 : f 2 = .ptr σ.length 0 := by rw [← hf]; simp
  have h4 : f 4 = .ptr (σ.length + 1) 0 := by rw [← hf]; simp
  have h7 : f 7 = .func 69 [.ptr (σ.length + 2) 0] := by rw [← hf]; simp
  have R : Rounds1 (fun _ => JA σ k b f) (fun _ => XA σ f) (stepA b) (fun s => s) 2000000000 σ.length (σ.length + 3) (σ.length + 4) := by
    refine ⟨?_, fun s τ h => h.1, fun s m _ => rfl, fun s τ m h hc hb => ?_⟩
    · rintro s τ o ⟨a1, a2, a3, a4, a5⟩
      refine ⟨by simp; omega, ?_, ?_, ?_, fun j hj => ?_⟩
      · rw [List.getElem?_append_left (by omega)]; exact a2
      · rw [List.getElem?_append_left (by omega)]; exact a3
      · rw [List.getElem?_append_left (by omega)]; exact a4
      · rw [List.getElem?_append_left (by omega)]; exact a5 j hj
    · exact roundA_ok hk h2 h4 τ m h
  have e0 : σ ++ [AObj.cells [AV.map k] 0 false, AObj.cells [AV.bool false] 0 false, AObj.cells [AV.isl (GT.encs l) false] 0 false] ++ [.lp (rcOf Try.f38) (lst 13 f) .ready none] = σ ++ [AObj.cells [AV.map k] 0 false, AObj.cells [AV.bool false] 0 false, AObj.cells [AV.isl (GT.encs l) false] 0 false, .lp (rcOf Try.f38) (lst 13 f) .ready none] := by simp
  have hvs := vsL_len l
  obtain ⟨σ', hc, hH, hX, hlen⟩ := iter_ok (fun _ => JA σ k b f) (fun _ => XA σ f) (stepA b) (fun s => s) 2000000000 R l 0 (il := σ.length + 2) (fz := 0) (ext := false) (σ ++ [AObj.cells [AV.map k] 0 false, AObj.cells [AV.bool false] 0 false, AObj.cells [AV.isl (GT.encs l) false] 0 false] ++ [.lp (rcOf Try.f38) (lst 13 f) .ready none])
    (by omega) (by rw [e0]; exact ⟨by simp, by simp, by simp, by simp, fun j hj => List.getElem?_append_left hj⟩) (by omega) (by simp) (by rw [e0]; simp)
  rw [run_all] at hH hX
  have hlen3 : (σ ++ [AObj.cells [AV.map k] 0 false, AObj.cells [AV.bool false] 0 false, AObj.cells [AV.isl (GT.encs l) false] 0 false]).length = σ.length + 3 := by simp
  by_cases hb : allB b l = true
  · obtain ⟨b1, b2, b3, b4, b5⟩ := hH hb
    refine W_rfn (g := 69) (caps := [.ptr (σ.length + 2) 0]) (by decide) (by simp [h7]) (by rw [hlen3]; exact hc) (e := .normal) (σ2 := σ'.set (σ.length + 3) (.lp (rcOf Try.f38) (lst 13 f) .exhausted none)) (by rw [hlen3]; simp [endLp, b4, pdX]) ?_
    refine wpK_sound T σ.length 13 _ _ _ _ ?_
    have c3 : ∀ o, (σ'.set (σ.length + 3) o)[σ.length + 1]? = some (.cells [.bool false] 0 false) := fun o => by rw [List.getElem?_set_ne (by omega)]; exact b3
    have c4 : ∀ o o', ((σ'.set (σ.length + 3) o).set (σ.length + 1) o').take σ.length = σ := fun o o' => take_of (by simp; omega) fun j hj => by rw [List.getElem?_set_ne (by omega), List.getElem?_set_ne (by omega)]; exact b5 j hj
    have c5 : ∀ o o', ((σ'.set (σ.length + 3) o).set (σ.length + 1) o')[σ.length + 1]? = some o' := fun o o' => list_set_at (by simp; omega)
    simp [h4, c3, c4, c5, hb, dropA_gc, refLt, res1, refLt2_bool]
  · have hb' : allB b l = false := by simpa using hb
    obtain ⟨b1, b3, b4, b5⟩ := hX hb'
    refine W_rfn (g := 69) (caps := [.ptr (σ.length + 2) 0]) (by decide) (by simp [h7]) (by rw [hlen3]; exact hc) (e := .ret) (σ2 := σ'.set (σ.length + 3) (.lp (rcOf Try.f38) (lst 13 f) .exhausted (some .ret))) (by rw [hlen3]; simp [endLp, b4, pdX]) ?_
    refine contQ_ret T σ.length 13 ?_
    have c3 : ∀ o, (σ'.set (σ.length + 3) o)[σ.length + 1]? = some (.cells [.bool false] 0 false) := fun o => by rw [List.getElem?_set_ne (by omega)]; exact b3
    have c4 : ∀ o, (σ'.set (σ.length + 3) o).take σ.length = σ := fun o => take_of (by simp; omega) fun j hj => by rw [List.getElem?_set_ne (by omega)]; exact b5 j hj
    simp [h4, c3, c4, hb', dropA_gc, refLt, res1, refLt2_bool]
def tops (l : List GT) : List ByteArray := (l.filter fun t => decide (t.kind = 1)).map GT.name
def takesB (b : List ByteArray) (x : GL) : List ByteArray := if x.kind = 1 then (tops x.args).foldl addB b else b
def takesP (b : List ByteArray) (x : GL) : Int × List ByteArray :=
  if allB (takesB b x) x.args = false then (61, takesB b x) else if x.kind ≠ 4 then (0, takesB b x) else if memB x.name (takesB b x) = true then (62, takesB b x) else (0, addB (takesB b x) x.name)
theorem take_set {σ τ : Heap} {k : Nat} {o : AObj} (hl : σ.length ≤ τ.length) (hk : k < σ.length) (h : ∀ j, j < σ.length → j ≠ k → τ[j]? = σ[j]?) (hk2 : τ[k]? = some o) : τ.take σ.length = σ.set k o := by
  apply List.ext_getElem?
  intro j
  rw [List.getElem?_take, List.getElem?_set]
  split
  · rename_i hj
    by_cases e : k = j
    · subst e; rw [if_pos rfl]; simp [hk, hk2]
    · rw [if_neg e]; exact h j hj fun e' => e e'.symm
  · rename_i hj
    rw [if_neg (by omega), List.getElem?_eq_none (by omega)]
def fstC : ACode → ACode
  | .seq a _ => a
  | c => c
def sndC : ACode → ACode
  | .seq _ b => b
  | c => c
theorem takes_tail {σ : Heap} {k : Nat} {b1 : List ByteArray} (x : GL) (hl : x.size ≤ 1000000000) (hkl : k < σ.length) (f : FR) (τ : Heap) (h0 : f 0 = .map k) (h3 : f 3 = .ptr σ.length 0) (hN : σ.length + 1 ≤ τ.length)
    (hx : τ[σ.length]? = some (.cells [.int .i64 x.kind, .str x.name, .isl (GT.encs x.args) false] 0 false)) (hk : τ[k]? = some (mpN b1)) (hall : ∀ j, j < σ.length → j ≠ k → τ[j]? = σ[j]?)
    {r : Int × List ByteArray} (hr : r = if allB b1 x.args = false then (61, b1) else if x.kind ≠ 4 then (0, b1) else if memB x.name b1 = true then (62, b1) else (0, addB b1 x.name)) :
    wpK T σ.length 42 [.code (sndC (sndC c37.body))] f τ (endR 42 [.tmp 4] true .gc σ.length (.int .i64 r.1, σ.set k (mpN r.2))) := by
  have hsz : GT.sizes x.args ≤ 1000000000 := by have := GL.args_le x; omega
  have hc := fun bs => callAllB b1 x.args hsz bs τ hk
  have ht := take_set (by omega) hkl hall hk
  simp [c37, sndC, h0, h3, hx, hc]
  by_cases ha : allB b1 x.args = true
  · by_cases h4 : x.kind = 4
    · by_cases hm : memB x.name b1 = true
      · simp [ha] at hr
        simp [h4, hm] at hr
        subst hr
        simp [h0, h3, hx, ha, h4, mlook_n hk, hm, dropA_gc, refLt, res1, refLt2_int, ht]
      · have hm' : memB x.name b1 = false := by simpa using hm
        simp [ha] at hr
        simp [h4, hm'] at hr
        subst hr
        have ht2 : (τ.set k (mpN (addB b1 x.name))).take σ.length = σ.set k (mpN (addB b1 x.name)) := take_set (by simp; omega) hkl (fun j hj hne => by rw [List.getElem?_set_ne (fun e => hne e.symm)]; exact hall j hj hne) (list_set_at (by omega))
        simp [h0, h3, hx, ha, h4, mlook_n hk, mset_n hk, hm', dropA_gc, refLt, res1, refLt2_int, ht2]
    · simp [ha] at hr
      simp [h4] at hr
      subst hr
      simp [h0, h3, hx, ha, h4, dropA_gc, refLt, res1, refLt2_int, ht]
  · have ha' : allB b1 x.args = false := by simpa using ha
    simp [ha'] at hr
    subst hr
    simp [ha', dropA_gc, refLt, res1, refLt2_int, ht]
theorem callTakes (b : List ByteArray) (x : GL) (hl : x.size ≤ 1000000000) {k : Nat} (bs : Nat) (σ : Heap) (hk : σ[k]? = some (mpN b)) : callT T 37 [.map k, x.enc] bs σ = some (.int .i64 (takesP b x).1, σ.set k (mpN (takesP b x).2)) := by
  have hkl : k < σ.length := (List.getElem?_eq_some_iff.1 hk).1
  have hsz : GT.sizes x.args ≤ 1000000000 := by have := GL.args_le x; omega
  have hlen := GT.len_sizes x.args
  have tail := fun b1 => takes_tail (σ := σ) (k := k) (b1 := b1) x hl hkl
  refine heap_enter (af := c37) (args' := [.map k, x.enc]) (σ1 := σ) rfl rfl (by simp [c37]) (by simp [c37]) (by simp [closeArgs, c37]) ?_
  show wpK T σ.length 42 [.code c37.body] _ σ (endR 42 [.tmp 4] true .gc σ.length _)
  have hb : c37.body = .seq (fstC c37.body) (.seq (fstC (sndC c37.body)) (sndC (sndC c37.body))) := rfl
  rw [hb]
  generalize sndC (sndC c37.body) = K at tail
  by_cases h1 : x.kind = 1
  · simp [c37, fstC, sndC, h1]
    refine W_for T σ.length 42 x.args.length (fun i f τ => f 0 = .map k ∧ f 3 = .ptr σ.length 0 ∧ f 11 = .isl (GT.encs x.args) false ∧ f 12 = .int .i64 (x.args.length : Int) ∧ f 13 = .int .i64 (i : Int) ∧ σ.length + 1 ≤ τ.length ∧
      τ[σ.length]? = some (.cells [.int .i64 x.kind, .str x.name, .isl (GT.encs x.args) false] 0 false) ∧ τ[k]? = some (mpN ((tops (x.args.take i)).foldl addB b)) ∧ ∀ j, j < σ.length → j ≠ k → τ[j]? = σ[j]?) ?_ _ _ ?_
    · rintro i f τ hi ⟨h0, h3, h11, h12, h13, hN, hx, hm, hall⟩
      by_cases hlt : i < x.args.length
      · have hw : IntKind.i64.wrap ((i : Int) + 1) = (i : Int) + 1 := wr64 (by omega) (by omega)
        have htk : tops (x.args.take (i + 1)) = tops (x.args.take i) ++ tops [x.args[i]] := by
          unfold tops; rw [List.take_succ_eq_append_getElem hlt, List.filter_append, List.map_append]
        rw [htk, List.foldl_append]
        have hm2 : ∀ o, (τ ++ [o])[k]? = some (mpN ((tops (x.args.take i)).foldl addB b)) := fun o => by rw [List.getElem?_append_left (by omega)]; exact hm
        generalize (tops (x.args.take i)).foldl addB b = b1 at *
        by_cases hk1 : x.args[i].kind = 1
        · simp [h0, h3, h11, h12, h13, hlt, hw, hk1, mset_n (hm2 _)]
          refine ⟨by omega, ?_, ?_, fun j hj hne => ?_⟩
          · rw [List.getElem?_set_ne (by omega), List.getElem?_append_left (by omega)]; exact hx
          · have : tops [x.args[i]] = [x.args[i].name] := by simp [tops, hk1]
            rw [this]; exact list_set_at (by simp; omega)
          · rw [List.getElem?_set_ne (fun e => hne e.symm), List.getElem?_append_left (by omega)]; exact hall j hj hne
        · have : tops [x.args[i]] = [] := by simp [tops, hk1]
          simp [h0, h3, h11, h12, h13, hlt, hw, hk1, this]
          refine ⟨by omega, ?_, hm2 _, fun j hj hne => ?_⟩
          · rw [List.getElem?_append_left (by omega)]; exact hx
          · rw [List.getElem?_append_left (by omega)]; exact hall j hj hne
      · have he : i = x.args.length := by omega
        subst he
        simp [h0, h3, h11, h12, h13]
        rw [List.take_length] at hm
        refine tail _ _ τ (by simp [h0]) (by simp [h3]) hN hx hm hall ?_
        simp [takesP, takesB, h1]
    · simp [h1, hk]
      exact ⟨by rw [List.getElem?_append_left hkl]; simpa [tops] using hk, fun j hj _ => List.getElem?_append_left hj⟩
  · simp [c37, fstC, sndC, h1]
    refine tail b _ _ (by simp) (by simp) (by simp) (by simp) (by rw [List.getElem?_append_left hkl]; exact hk) (fun j hj _ => List.getElem?_append_left hj) ?_
    simp [takesP, takesB, h1]
def badL (p : GP) (l : GL) : Bool := (decide (l.kind = 1) || decide (l.kind = 2)) && decide (arityP p l.name ≠ (l.args.length : Int))
def relsB (p : GP) (r : GR) : Bool := decide (arityP p r.head = (r.args.length : Int)) && !(r.body.any (badL p))
theorem rel1_call (p : GP) (hl : p.decls.length ≤ 100000000000) (l : GL) {k : Nat} (bs : Nat) (σ : Heap) (h : σ[k]? = some (.cells p.enc.cells 0 false)) : callT T 55 [l.enc, .ptr k 0] bs σ = some (.bool (badL p l), σ) := by
  have hk : k < σ.length := (List.getElem?_eq_some_iff.1 h).1
  have hk2 : ∀ o, (σ ++ [o])[k]? = some (.cells [.isl (p.decls.map GD.enc) false, .isl (p.facts.map GU.enc) false, .isl (p.rules.map GR.enc) false] 0 false) := fun o => by rw [List.getElem?_append_left hk]; exact h
  have hA := callArity p l.name hl
  refine heap_enter (af := c55) (args' := [l.enc, .ptr k 0]) (σ1 := σ) rfl rfl (by simp [c55]) (by simp [c55]) rfl ?_
  by_cases h1 : l.kind = 1
  · simp [c55, baseA, hk2, h1, hA, ← GP.enc_eq, dropA_gc, refLt, res1, refLt2_bool, refLt2_int, take_1, badL]
  · by_cases h2 : l.kind = 2
    · simp [c55, baseA, hk2, h1, h2, hA, ← GP.enc_eq, dropA_gc, refLt, res1, refLt2_bool, refLt2_int, take_1, badL]
    · simp [c55, baseA, hk2, h1, h2, hA, ← GP.enc_eq, dropA_gc, refLt, res1, refLt2_bool, refLt2_int, take_1, badL]
theorem rels_ok (p : GP) (hl : p.decls.length ≤ 100000000000) (r : GR) (hb : r.body.length ≤ 100000000000) : pureT T c36 [p.enc, r.enc] = some (.bool (relsB p r)) := by
  have hA := callArity p r.head hl
  have hC := fun σ (h : σ[0]? = some (AObj.cells [.isl (p.decls.map GD.enc) false, .isl (p.facts.map GU.enc) false, .isl (p.rules.map GR.enc) false] 0 false)) bs => conLiteral (badL p) r.body 55 [.ptr 0 0] hb σ (fun x _ bs => rel1_call p hl x bs σ h) bs
  apply pure_enter (by simp [c36])
  by_cases h1 : arityP p r.head = (r.args.length : Int)
  · simp [c36, h1, hA, hC, ← GP.enc_eq, relsB, sym]
  · simp [c36, h1, hA, hC, ← GP.enc_eq, relsB]
theorem callRels (p : GP) (hl : p.decls.length ≤ 100000000000) (r : GR) (hb : r.body.length ≤ 100000000000) (bs : Nat) (σ : Heap) : callT T 36 [p.enc, r.enc] bs σ = some (.bool (relsB p r), σ) := call_clean rfl rfl rfl (by simp) (rels_ok p hl r hb)
def goB : List ByteArray → List GL → Int × List ByteArray
  | b, [] => (0, b)
  | b, l :: ls => if (takesP b l).1 ≠ 0 then takesP b l else goB (takesP b l).2 ls
def ruleP (p : GP) (r : GR) : Int := if relsB p r = false then 60 else if (goB [] r.body).1 ≠ 0 then (goB [] r.body).1 else if allB (goB [] r.body).2 r.args = false then 61 else 0
theorem goB_stop : ∀ (a c : List GL) (b : List ByteArray), (goB b a).1 ≠ 0 → goB b (a ++ c) = goB b a
  | [], c, b, h => absurd rfl h
  | l :: a, c, b, h => by
    by_cases h1 : (takesP b l).1 ≠ 0
    · simp only [List.cons_append, goB, if_pos h1]
    · have e : goB b (l :: a) = goB (takesP b l).2 a := by simp only [goB, if_neg h1]
      rw [e] at h ⊢
      rw [← goB_stop a c _ h]
      simp only [List.cons_append, goB, if_neg h1]
theorem goB_on : ∀ (a c : List GL) (b : List ByteArray), (goB b a).1 = 0 → goB b (a ++ c) = goB (goB b a).2 c
  | [], c, b, h => rfl
  | l :: a, c, b, h => by
    by_cases h1 : (takesP b l).1 ≠ 0
    · have e : goB b (l :: a) = takesP b l := by simp only [goB, if_pos h1]
      rw [e] at h; exact absurd h h1
    · have e : goB b (l :: a) = goB (takesP b l).2 a := by simp only [goB, if_neg h1]
      rw [e] at h ⊢
      rw [← goB_on a c _ h]
      simp only [List.cons_append, goB, if_neg h1]
theorem rule_ok (p : GP) (hl : p.decls.length ≤ 100000000000) (r : GR) (hr : r.size ≤ 1000000000) : pureT T c20 [p.enc, r.enc] = some (.int .i64 (ruleP p r)) := by
  have hbl := GR.body_len r
  have hsz : GT.sizes r.args ≤ 1000000000 := by have := GR.args_le r; omega
  have hR := callRels p hl r (by omega)
  apply pure_enter (by simp [c20])
  by_cases h1 : relsB p r = true
  · simp [c20, hR, h1, ← GP.enc_eq, ← GR.enc_eq]
    refine W_for T 0 33 r.body.length (fun i f τ => f 3 = .ptr 1 0 ∧ f 5 = .map 2 ∧ f 15 = .isl (r.body.map GL.enc) false ∧ f 16 = .int .i64 (r.body.length : Int) ∧ f 17 = .int .i64 (i : Int) ∧ 3 ≤ τ.length ∧ (goB [] (r.body.take i)).1 = 0 ∧
      τ[1]? = some (.cells [.str r.label, .str r.head, .isl (GT.encs r.args) false, .str r.agg, .int .i64 r.pos, .isl (r.body.map GL.enc) false] 0 false) ∧ τ[2]? = some (mpN (goB [] (r.body.take i)).2)) ?_ _ _ ?_
    · rintro i f τ hi ⟨h3, h5, h15, h16, h17, hN, hgo, hr1, hm⟩
      by_cases hlt : i < r.body.length
      · have hw : IntKind.i64.wrap ((i : Int) + 1) = (i : Int) + 1 := wr64 (by omega) (by omega)
        have e0 : r.body[i]? = some r.body[i] := List.getElem?_eq_getElem hlt
        have htk : r.body.take (i + 1) = r.body.take i ++ [r.body[i]] := List.take_succ_eq_append_getElem hlt
        have hdr : r.body = r.body.take (i + 1) ++ r.body.drop (i + 1) := (List.take_append_drop _ _).symm
        have hxs := GR.body_mem r (List.getElem_mem hlt)
        have hm2 : ∀ o, (τ ++ [o])[2]? = some (mpN (goB [] (r.body.take i)).2) := fun o => by rw [List.getElem?_append_left (by omega)]; exact hm
        have hr2 : ∀ o o', ((τ ++ [o]).set 2 o')[1]? = some (.cells [.str r.label, .str r.head, .isl (GT.encs r.args) false, .str r.agg, .int .i64 r.pos, .isl (r.body.map GL.enc) false] 0 false) := fun o o' => by rw [List.getElem?_set_ne (by decide), List.getElem?_append_left (by omega)]; exact hr1
        have hT := callTakes (goB [] (r.body.take i)).2 r.body[i] (by omega) (k := 2) 0 (τ ++ [.cells [.int .i64 r.body[i].kind, .str r.body[i].name, .isl (GT.encs r.body[i].args) false] 0 false]) (hm2 _)
        have e1 : goB [] (r.body.take (i + 1)) = if (takesP (goB [] (r.body.take i)).2 r.body[i]).1 ≠ 0 then takesP (goB [] (r.body.take i)).2 r.body[i] else (0, (takesP (goB [] (r.body.take i)).2 r.body[i]).2) := by
          rw [htk, goB_on _ _ _ hgo]; rfl
        by_cases hz : (takesP (goB [] (r.body.take i)).2 r.body[i]).1 = 0
        · rw [hz] at hT
          have e2 : goB [] (r.body.take (i + 1)) = (0, (takesP (goB [] (r.body.take i)).2 r.body[i]).2) := by rw [e1]; simp [hz]
          rw [e2]
          simp [h3, h5, h15, h16, h17, hlt, e0, hw, hT, ← GL.enc_eq]
          exact ⟨by omega, by rw [List.getElem?_append_left (by omega)]; exact hr1, list_set_at (by simp; omega)⟩
        · have e2 : goB [] (r.body.take (i + 1)) = takesP (goB [] (r.body.take i)).2 r.body[i] := by rw [e1]; simp [hz]
          have e3 : goB [] r.body = takesP (goB [] (r.body.take i)).2 r.body[i] := by
            rw [← e2]; conv => lhs; rw [hdr]
            exact goB_stop _ _ _ (by rw [e2]; exact hz)
          simp [h3, h5, h15, h16, h17, hlt, e0, hw, hT, hz, ← GL.enc_eq, ruleP, h1, e3]
          done
      · have he : i = r.body.length := by omega
        subst he
        rw [List.take_length] at hgo hm
        have hA := fun bs => callAllB (goB [] r.body).2 r.args hsz (k := 2) bs τ hm
        by_cases ha : allB (goB [] r.body).2 r.args = true
        · simp [h3, h5, h15, h16, h17, hr1, hA, ha, ruleP, h1, hgo]
          done
        · have ha' : allB (goB [] r.body).2 r.args = false := by simpa using ha
          simp [h3, h5, h15, h16, h17, hr1, hA, ha', ruleP, h1, hgo]
          done
    · simp [goB, mpN]
  · have h1' : relsB p r = false := by simpa using h1
    simp [c20, hR, h1', ← GP.enc_eq, ← GR.enc_eq, ruleP]
theorem callRule6 (p : GP) (hl : p.decls.length ≤ 100000000000) (r : GR) (hr : r.size ≤ 1000000000) (bs : Nat) (σ : Heap) : callT T 20 [p.enc, r.enc] bs σ = some (.int .i64 (ruleP p r), σ) := call_clean rfl rfl rfl (by simp) (rule_ok p hl r hr)
end Go.Proofs.Ytpgakkhfjjhpdaa
end
section
namespace Go.Proofs.Ytpgakkhfjjhpdaa
open Go.Mach
def firstP (p : GP) : List GR → Nat → Int × Int
  | [], _ => (0, -1)
  | r :: rs, i => if ruleP p r ≠ 0 then (ruleP p r, (i : Int)) else firstP p rs (i + 1)
def badF (p : GP) (t : GU) : Bool := decide (arityP p t.name ≠ (t.args.length : Int))
def dupD : List ByteArray → List GD → Bool
  | _, [] => false
  | b, d :: ds => memB d.name b || dupD (addB b d.name) ds
def checkP (p : GP) : Int × Int := if progB p = false then (40, -1) else if dupD [] p.decls = true then (60, -1) else if p.facts.any (badF p) = true then (60, -1) else firstP p p.rules 0
def pCells (p : GP) : AObj := .cells [.isl (p.decls.map GD.enc) false, .isl (p.facts.map GU.enc) false, .isl (p.rules.map GR.enc) false] 0 false
abbrev res2 (r : Int × Int) : AV := .tup [.int .i64 r.1, .int .i64 r.2]
abbrev T2 : ACode := sndC (sndC (sndC (sndC c9.body)))
theorem check_rules (p : GP) (hp : p.size ≤ 1000000000) (f : FR) (τ : Heap) (h1 : f 1 = .ptr 0 0) (h0 : τ[0]? = some (pCells p)) : wpK T 0 63 [.code (sndC T2)] f τ (endP 63 [.tmp 2, .tmp 3] (res2 (firstP p p.rules 0))) := by
  have hl := GP.rules_len p
  have hdl := GP.decls_len p
  unfold pCells at h0
  simp [T2, c9, sndC, h1, h0]
  refine W_for T 0 63 p.rules.length (fun i f τ => f 1 = .ptr 0 0 ∧ f 48 = .isl (p.rules.map GR.enc) false ∧ f 49 = .int .i64 (p.rules.length : Int) ∧ f 50 = .int .i64 (i : Int) ∧ 1 ≤ τ.length ∧ τ[0]? = some (.cells [.isl (p.decls.map GD.enc) false, .isl (p.facts.map GU.enc) false, .isl (p.rules.map GR.enc) false] 0 false) ∧ firstP p p.rules 0 = firstP p (p.rules.drop i) i) ?_ _ _ ?_
  · rintro i f τ hi ⟨h1, h48, h49, h50, hN, h0, hf⟩
    by_cases hlt : i < p.rules.length
    · have hw : IntKind.i64.wrap ((i : Int) + 1) = (i : Int) + 1 := wr64 (by omega) (by omega)
      have e0 : p.rules[i]? = some p.rules[i] := List.getElem?_eq_getElem hlt
      have hrs := GP.rules_mem p (List.getElem_mem hlt)
      have hR := callRule6 p (by omega) p.rules[i] (by omega)
      have h02 : ∀ o, (τ ++ [o])[0]? = some (.cells [.isl (p.decls.map GD.enc) false, .isl (p.facts.map GU.enc) false, .isl (p.rules.map GR.enc) false] 0 false) := fun o => by rw [List.getElem?_append_left (by omega)]; exact h0
      have h03 : ∀ o (h : 0 < (τ ++ [o]).length), (τ ++ [o])[0]'h = .cells [.isl (p.decls.map GD.enc) false, .isl (p.facts.map GU.enc) false, .isl (p.rules.map GR.enc) false] 0 false := fun o h => Option.some_inj.1 ((List.getElem?_eq_getElem h).symm.trans (h02 o))
      rw [List.drop_eq_getElem_cons hlt] at hf
      simp only [firstP] at hf
      by_cases hz : ruleP p p.rules[i] = 0
      · rw [if_neg (by simpa using hz)] at hf
        rw [hz] at hR
        simp [h1, h48, h49, h50, hlt, e0, hw, h02, h03, hR, ← GP.enc_eq, ← GR.enc_eq, hf]
      · rw [if_pos hz] at hf
        simp [h1, h48, h49, h50, hlt, e0, hw, h02, h03, hR, ← GP.enc_eq, ← GR.enc_eq, hf, hz, endP, res1]
    · have he : i = p.rules.length := by omega
      subst he
      rw [List.drop_length] at hf
      simp [h1, h48, h49, h50, hf, firstP, endP, res1]
  · simp [h1, h0]
    exact (List.getElem?_eq_some_iff.1 h0).1
theorem check_facts (p : GP) (hp : p.size ≤ 1000000000) (f : FR) (τ : Heap) (h1 : f 1 = .ptr 0 0) (h0 : τ[0]? = some (pCells p)) : wpK T 0 63 [.code T2] f τ (endP 63 [.tmp 2, .tmp 3] (res2 (if p.facts.any (badF p) = true then (60, -1) else firstP p p.rules 0))) := by
  have hl := GP.facts_len p
  have hdl := GP.decls_len p
  have tail := check_rules p hp
  obtain ⟨B, hB⟩ : ∃ B, p.facts.any (badF p) = B := ⟨_, rfl⟩
  rw [hB]
  have hb : T2 = .seq (fstC T2) (sndC T2) := rfl
  rw [hb]
  generalize sndC T2 = K at tail
  unfold pCells at h0
  simp [T2, c9, sndC, fstC, h1, h0]
  refine W_for T 0 63 p.facts.length (fun i f τ => f 1 = .ptr 0 0 ∧ f 32 = .isl (p.facts.map GU.enc) false ∧ f 33 = .int .i64 (p.facts.length : Int) ∧ f 34 = .int .i64 (i : Int) ∧ 1 ≤ τ.length ∧ τ[0]? = some (.cells [.isl (p.decls.map GD.enc) false, .isl (p.facts.map GU.enc) false, .isl (p.rules.map GR.enc) false] 0 false) ∧ B = (p.facts.drop i).any (badF p)) ?_ _ _ ?_
  · rintro i f τ hi ⟨h1, h48, h49, h50, hN, h0, hf⟩
    by_cases hlt : i < p.facts.length
    · have hw : IntKind.i64.wrap ((i : Int) + 1) = (i : Int) + 1 := wr64 (by omega) (by omega)
      have e0 : p.facts[i]? = some p.facts[i] := List.getElem?_eq_getElem hlt
      have hA := callArity p p.facts[i].name (by omega)
      have h02 : ∀ o, (τ ++ [o])[0]? = some (.cells [.isl (p.decls.map GD.enc) false, .isl (p.facts.map GU.enc) false, .isl (p.rules.map GR.enc) false] 0 false) := fun o => by rw [List.getElem?_append_left (by omega)]; exact h0
      have h03 : ∀ o (h : 0 < (τ ++ [o]).length), (τ ++ [o])[0]'h = .cells [.isl (p.decls.map GD.enc) false, .isl (p.facts.map GU.enc) false, .isl (p.rules.map GR.enc) false] 0 false := fun o h => Option.some_inj.1 ((List.getElem?_eq_getElem h).symm.trans (h02 o))
      rw [List.drop_eq_getElem_cons hlt] at hf
      simp only [List.any_cons] at hf
      by_cases hz : arityP p p.facts[i].name = (p.facts[i].args.length : Int)
      · have hbf : badF p p.facts[i] = false := by simp [badF, hz]
        rw [hbf, Bool.false_or] at hf
        simp [h1, h48, h49, h50, hlt, e0, hw, h02, h03, hA, hz, ← GP.enc_eq, hf]
      · have hbf : badF p p.facts[i] = true := by simp [badF, hz]
        rw [hbf, Bool.true_or] at hf
        simp [h1, h48, h49, h50, hlt, e0, hw, h02, h03, hA, hz, ← GP.enc_eq, hf, endP, res1]
    · have he : i = p.facts.length := by omega
      subst he
      rw [List.drop_length, List.any_nil] at hf
      simp [h1, h48, h49, h50, hf]
      exact tail (upF f 35 (.bool false)) τ (by simp [h1]) h0
  · simp only [List.drop_zero, hB]
    simp [h1, h0]
    exact (List.getElem?_eq_some_iff.1 h0).1
theorem check_ok (p : GP) (hp : p.size ≤ 1000000000) : pureT T c9 [p.enc] = some (res2 (checkP p)) := by
  have hl := GP.decls_len p
  have tail := check_facts p hp
  have hR := callPRight p (by omega)
  apply pure_enter (by simp [c9])
  show wpK T 0 63 [.code c9.body] _ [] (endP 63 [.tmp 2, .tmp 3] _)
  have hb : c9.body = .seq (fstC c9.body) (.seq (fstC (sndC c9.body)) (.seq (fstC (sndC (sndC c9.body))) (.seq (fstC (sndC (sndC (sndC c9.body)))) T2))) := rfl
  rw [hb]
  generalize T2 = K at tail
  by_cases hr : progB p = true
  · simp [c9, sndC, fstC, hR, hr, ← GP.enc_eq, sym]
    refine W_for T 0 63 p.decls.length (fun i f τ => f 1 = .ptr 0 0 ∧ f 4 = .map 1 ∧ f 17 = .isl (p.decls.map GD.enc) false ∧ f 18 = .int .i64 (p.decls.length : Int) ∧ f 19 = .int .i64 (i : Int) ∧ 2 ≤ τ.length ∧ τ[0]? = some (pCells p) ∧ ∃ b, τ[1]? = some (mpN b) ∧ dupD [] p.decls = dupD b (p.decls.drop i)) ?_ _ _ ?_
    · rintro i f τ hi ⟨h1, h4, h48, h49, h50, hN, h0, b, hm, hf⟩
      by_cases hlt : i < p.decls.length
      · have hw : IntKind.i64.wrap ((i : Int) + 1) = (i : Int) + 1 := wr64 (by omega) (by omega)
        have e0 : p.decls[i]? = some p.decls[i] := List.getElem?_eq_getElem hlt
        have hm2 : ∀ o, (τ ++ [o])[1]? = some (mpN b) := fun o => by rw [List.getElem?_append_left (by omega)]; exact hm
        have h03 : ∀ o (h : 0 < (τ ++ [o]).length), (τ ++ [o])[0]'h = pCells p := fun o h => Option.some_inj.1 ((List.getElem?_eq_getElem h).symm.trans (by rw [List.getElem?_append_left (by omega)]; exact h0))
        rw [List.drop_eq_getElem_cons hlt] at hf
        simp only [dupD] at hf
        cases hin : memB p.decls[i].name b
        · rw [hin, Bool.false_or] at hf
          simp [h1, h4, h48, h49, h50, hlt, e0, hw, mlook_n (hm2 _), mset_n (hm2 _), hin]
          refine ⟨by omega, ?_, addB b p.decls[i].name, ?_, hf⟩
          · first | exact h03 _ _ | (rw [List.getElem?_append_left (by omega)]; exact h0)
          · first | exact list_set_at (by simp; omega) | (simp; omega)
        · rw [hin, Bool.true_or] at hf
          simp [h1, h4, h48, h49, h50, hlt, e0, hw, mlook_n (hm2 _), hin, endP, res1, checkP, hr, hf]
      · have he : i = p.decls.length := by omega
        subst he
        rw [List.drop_length] at hf
        have hf2 : dupD [] p.decls = false := hf
        simp [h1, h4, h48, h49, h50]
        have ht := tail (upF f 20 (.bool false)) τ (by simp [h1]) h0
        simpa [checkP, hr, hf2] using ht
    · simp [pCells]
      exact ⟨[], rfl, rfl⟩
  · have hr' : progB p = false := by simpa using hr
    simp [c9, sndC, fstC, hR, hr', ← GP.enc_eq, sym, endP, res1, checkP]
theorem callCheck (p : GP) (hp : p.size ≤ 1000000000) (bs : Nat) (σ : Heap) : callT T 9 [p.enc] bs σ = some (res2 (checkP p), σ) := call_clean rfl rfl rfl (by simp) (check_ok p hp)
end Go.Proofs.Ytpgakkhfjjhpdaa
end
section
namespace Go.Proofs.Ytpgakkhfjjhpdaa
open Go.Mach
def relsD : List GD := [⟨⟨#[108, 105, 110, 107]⟩, 3⟩, ⟨⟨#[112]⟩, 2⟩, ⟨⟨#[113]⟩, 2⟩, ⟨⟨#[114]⟩, 1⟩, ⟨⟨#[115]⟩, 3⟩, ⟨⟨#[116]⟩, 2⟩]
theorem relations6_ok : pureT T c14 [] = some (.isl (relsD.map GD.enc) false) := by
  apply pure_enter (by simp [c14])
  simp [c14, setRun, endP, res1, relsD, GD.enc]
  exact ⟨_, rfl⟩
def numT (n : Int) : GT := .mk 2 ⟨#[]⟩ (.mk 1 n ⟨#[]⟩ []) []
theorem num6_ok (n : Int) : pureT T c40 [.int .i64 n] = some (numT n).enc := by
  apply pure_enter (by simp [c40])
  simp [c40, setRun, endP, res1, numT, GT.enc, GV.kind, GV.num, GV.text, GV.items, GV.encs]
theorem callRelations6 (bs : Nat) (σ : Heap) : callT T 14 [] bs σ = some (.isl (relsD.map GD.enc) false, σ) := call_clean rfl rfl rfl rfl relations6_ok
theorem callNum6 (n : Int) (bs : Nat) (σ : Heap) : callT T 40 [.int .i64 n] bs σ = some ((numT n).enc, σ) := call_clean rfl rfl rfl rfl (num6_ok n)
theorem pick6_ok (c n : Int) (h : n ≠ 0) : pureT T c24 [.int .i64 c, .int .i64 n] = some (.int .i64 ((if c < 0 then IntKind.i64.wrap (0 - IntKind.i64.wrap (c + 1)) else c).tmod n)) := by
  apply pure_enter (by simp [c24])
  by_cases hc : c < 0
  · simp [c24, hc, h]
  · simp [c24, hc, h]
theorem pick6 (c : Int) (n : Nat) (h : 0 < n) (h1 : GV.i64ok c) (bs : Nat) (σ : Heap) :
    callT T 24 [.int .i64 c, .int .i64 (n : Int)] bs σ = some (.int .i64 (pickN c n : Int), σ) := by
  refine call_clean rfl rfl rfl rfl ?_
  rw [pick6_ok c n (by omega), pick_eq c n h h1.1 h1.2]
def vName (n : Nat) : ByteArray := [⟨#[83]⟩, ⟨#[68]⟩, ⟨#[88]⟩, ⟨#[89]⟩, ⟨#[90]⟩, ⟨#[67]⟩].getD n ⟨#[]⟩
def vT (c : Int) : GT := .mk 1 (vName (pickN c 6)) (.mk 0 0 ⟨#[]⟩ []) []
theorem v6_ok (c : Int) (hc : GV.i64ok c) : pureT T c39 [.int .i64 c] = some (vT c).enc := by
  have hp := fun bs σ => pick6 c 6 (by omega) hc bs σ
  have hlt : pickN c 6 < 6 := pickN_lt (by omega)
  apply pure_enter (by simp [c39])
  unfold vT
  simp only [Int.cast_ofNat_Int] at hp
  generalize pickN c 6 = n at *
  match n, hlt with
  | 0, _ => simp [c39, setRun, hp, endP, res1, GT.enc, GV.kind, GV.num, GV.text, GV.items, GV.encs, vName]
  | 1, _ => simp [c39, setRun, hp, endP, res1, GT.enc, GV.kind, GV.num, GV.text, GV.items, GV.encs, vName]
  | 2, _ => simp [c39, setRun, hp, endP, res1, GT.enc, GV.kind, GV.num, GV.text, GV.items, GV.encs, vName]
  | 3, _ => simp [c39, setRun, hp, endP, res1, GT.enc, GV.kind, GV.num, GV.text, GV.items, GV.encs, vName]
  | 4, _ => simp [c39, setRun, hp, endP, res1, GT.enc, GV.kind, GV.num, GV.text, GV.items, GV.encs, vName]
  | 5, _ => simp [c39, setRun, hp, endP, res1, GT.enc, GV.kind, GV.num, GV.text, GV.items, GV.encs, vName]
theorem callV6 (c : Int) (hc : GV.i64ok c) (bs : Nat) (σ : Heap) : callT T 39 [.int .i64 c] bs σ = some ((vT c).enc, σ) := call_clean rfl rfl rfl rfl (v6_ok c hc)
end Go.Proofs.Ytpgakkhfjjhpdaa
end
section
namespace Go.Proofs.Ytpgakkhfjjhpdaa
open Go.Mach
structure GRaw where
  kind : Int
  name : Int
  n0 : Int
  n1 : Int
  n2 : Int
  n3 : Int
namespace GRaw
def enc (x : GRaw) : AV := .agg [.int .i64 x.kind, .int .i64 x.name, .int .i64 x.n0, .int .i64 x.n1, .int .i64 x.n2, .int .i64 x.n3]
def ok (x : GRaw) : Prop := GV.i64ok x.kind ∧ GV.i64ok x.name ∧ GV.i64ok x.n0 ∧ GV.i64ok x.n1 ∧ GV.i64ok x.n2 ∧ GV.i64ok x.n3
def at' (x : GRaw) (i : Nat) : Int := if i = 0 then x.n0 else if i = 1 then x.n1 else if i = 2 then x.n2 else x.n3
def zero : GRaw := ⟨0, 0, 0, 0, 0, 0⟩
theorem enc_mk (k n a b c d : Int) : AV.agg [.int .i64 k, .int .i64 n, .int .i64 a, .int .i64 b, .int .i64 c, .int .i64 d] = enc ⟨k, n, a, b, c, d⟩ := rfl
@[simp] theorem eta (x : GRaw) : (⟨x.kind, x.name, x.n0, x.n1, x.n2, x.n3⟩ : GRaw) = x := rfl
theorem enc_eq (x : GRaw) : x.enc = .agg [.int .i64 x.kind, .int .i64 x.name, .int .i64 x.n0, .int .i64 x.n1, .int .i64 x.n2, .int .i64 x.n3] := rfl
@[simp] theorem enc_cells (x : GRaw) : x.enc.cells = [.int .i64 x.kind, .int .i64 x.name, .int .i64 x.n0, .int .i64 x.n1, .int .i64 x.n2, .int .i64 x.n3] := rfl
@[simp] theorem enc_solid (x : GRaw) : x.enc.solid = true := rfl
@[simp] theorem enc_head (x : GRaw) (xs : List AV) : headYld (x.enc :: xs) = false := by cases x; rfl
@[simp] theorem enc_clean (x : GRaw) : x.enc.clean = true := rfl
@[simp] theorem enc_datR (x : GRaw) : x.enc.datR = true := rfl
@[simp] theorem enc_dat (x : GRaw) : x.enc.dat = true := rfl
@[simp] theorem enc_clo (x : GRaw) : x.enc.clo = true := rfl
@[simp] theorem enc_clo1 (x : GRaw) : x.enc.clo1 = false := rfl
@[simp] theorem enc_closeA (σ : Heap) (x : GRaw) : closeA σ x.enc = some (x.enc, σ) := (clean_close (by simp)).1
@[simp] theorem enc_closeR (σ : Heap) (x : GRaw) : closeR σ x.enc = some (x.enc, σ) := rfl
theorem zero_ok : zero.ok := by simp [ok, zero, GV.i64ok]
theorem at_ok {x : GRaw} (h : x.ok) (i : Nat) : GV.i64ok (x.at' i) := by
  obtain ⟨h1, h2, h3, h4, h5, h6⟩ := h
  unfold at'
  split
  · exact h3
  split
  · exact h4
  split
  · exact h5
  · exact h6
end GRaw
def RawsOk (rules : List (List GRaw)) : Prop := (∀ l ∈ rules, (∀ x ∈ l, x.ok) ∧ l.length ≤ 100000000000) ∧ rules.length ≤ 100000000000
def FactsOk (facts : List GRaw) : Prop := (∀ x ∈ facts, x.ok) ∧ facts.length ≤ 100000000000
abbrev encRR (rules : List (List GRaw)) : List AV := rules.map fun l => AV.isl (l.map GRaw.enc) false
theorem tdiv_ok {k : Int} (h : GV.i64ok k) (n : Nat) (hn : 2 ≤ n) : GV.i64ok (k.tdiv n) := by
  unfold GV.i64ok at h ⊢
  have h1 : (k.tdiv n).natAbs = k.natAbs / n := by rw [Int.natAbs_tdiv]; rfl
  have h2 : k.natAbs / n * 2 ≤ k.natAbs := Nat.le_trans (Nat.mul_le_mul_left _ hn) (Nat.div_mul_le_self _ _)
  omega
def relR (x : GRaw) : GD := relsD.getD (pickN x.name 6) ⟨⟨#[]⟩, 0⟩
def addrN (n : Nat) : ByteArray := [⟨#[97]⟩, ⟨#[98]⟩, ⟨#[99]⟩, ⟨#[100]⟩].getD n ⟨#[]⟩
def vTn (n : Nat) : GT := .mk 1 (vName n) (.mk 0 0 ⟨#[]⟩ []) []
theorem vT_n (c : Int) : vT c = vTn (pickN c 6) := rfl
def addrT (n : Nat) : GT := .mk 2 ⟨#[]⟩ (.mk 3 0 (addrN n) []) []
def sumT (n : Nat) : GT := .mk 4 ⟨#[43]⟩ (.mk 0 0 ⟨#[]⟩ []) [vTn n, numT 1]
def argR (k : Int) : GT :=
  if pickN k 12 = 9 then numT (pickN (k.tdiv 12) 4) else if pickN k 12 = 10 then addrT (pickN (k.tdiv 12) 3) else if pickN k 12 = 11 then sumT (pickN (k.tdiv 12) 6) else vT k
def argsR (x : GRaw) (n : Nat) : List GT := (List.range n).map fun i => if i = 0 then vT x.n0 else argR (x.at' i)
def atomR (x : GRaw) : List GT := argsR x (relR x).arity.toNat
def tSix : List ByteArray := [⟨#[61, 61]⟩, ⟨#[33, 61]⟩, ⟨#[60]⟩, ⟨#[60, 61]⟩, ⟨#[62]⟩, ⟨#[62, 61]⟩]
def litR (x : GRaw) : GL :=
  if pickN x.kind 8 < 4 then ⟨1, (relR x).name, atomR x⟩
  else if pickN x.kind 8 = 4 then ⟨2, (relR x).name, atomR x⟩
  else if pickN x.kind 8 < 7 then ⟨3, tSix.getD (pickN x.name 6) ⟨#[]⟩, [vT x.n0, if pickN x.n3 2 = 0 then numT (pickN x.n2 4) else vT x.n1]⟩
  else ⟨4, vName (pickN x.n0 6), [.mk 4 (if pickN x.n3 2 = 0 then ⟨#[43]⟩ else ⟨#[45]⟩) (.mk 0 0 ⟨#[]⟩ []) [vT x.n1, if pickN (x.n3.tdiv 2) 2 = 0 then numT 1 else vT x.n2]]⟩
def bodyR (l : List GRaw) : List GL := if l.length ≤ 1 then [litR .zero] else ((l.take 5).drop 1).map litR
def headR (l : List GRaw) : GRaw := l.headD .zero
def aggR (h : GRaw) : Bool := decide (pickN h.kind 5 = 4) && decide (((atomR h)[1]?).map GT.kind = some 1)
def aggN (n : Nat) : ByteArray := if n = 0 then sMin else if n = 1 then sMax else sCount
def ruleR (l : List GRaw) (n : Nat) : GR :=
  ⟨(⟨#[114]⟩ ++ ⟨#[UInt8.ofNat (97 + n)]⟩), (relR (headR l)).name, atomR (headR l), if aggR (headR l) = true then aggN (pickN ((headR l).kind.tdiv 5) 3) else ⟨#[]⟩, if aggR (headR l) = true then 1 else 0, bodyR l⟩
def addrV (n : Nat) : GV := .mk 3 0 (addrN n) []
def numV (n : Int) : GV := .mk 1 n ⟨#[]⟩ []
def fargR (x : GRaw) (i : Nat) : GV := if i = 0 ∨ i = 1 ∧ (pickN x.name 6 = 0 ∨ pickN (x.at' i) 2 = 0) then addrV (pickN ((x.at' i).tdiv 2) 4) else numV (pickN ((x.at' i).tdiv 2) 5)
def factR (x : GRaw) : GU := ⟨(relR x).name, (List.range (relR x).arity.toNat).map (fargR x)⟩
def rulesR (rules : List (List GRaw)) : List GR := ((rules.take 6).zipIdx).map fun p => ruleR p.1 p.2
def progR (rules : List (List GRaw)) (facts : List GRaw) : GP := ⟨relsD, (facts.take 12).map factR, rulesR rules⟩
theorem rel_cases (x : GRaw) : ∃ n, n < 6 ∧ pickN x.name 6 = n ∧ relR x = relsD.getD n ⟨⟨#[]⟩, 0⟩ := ⟨_, pickN_lt (by omega), rfl, rfl⟩
theorem rel_arity (x : GRaw) : 1 ≤ (relR x).arity.toNat ∧ (relR x).arity.toNat ≤ 3 ∧ ((relR x).arity.toNat : Int) = (relR x).arity := by
  obtain ⟨n, hn, _, e⟩ := rel_cases x
  rw [e]
  match n, hn with
  | 0, _ => decide
  | 1, _ => decide
  | 2, _ => decide
  | 3, _ => decide
  | 4, _ => decide
  | 5, _ => decide
theorem rel_OK (x : GRaw) : relOK (relR x).name = true := by
  obtain ⟨n, hn, _, e⟩ := rel_cases x
  rw [e]
  match n, hn with
  | 0, _ => decide +kernel
  | 1, _ => decide +kernel
  | 2, _ => decide +kernel
  | 3, _ => decide +kernel
  | 4, _ => decide +kernel
  | 5, _ => decide +kernel
theorem vTn_R : ∀ n, n < 6 → termR 8 (vTn n) = true := by decide +kernel
theorem vT_R (c : Int) : termR 8 (vT c) = true := vTn_R _ (pickN_lt (by omega))
theorem numT_R : ∀ n : Nat, n < 6 → termR 8 (numT n) = true := by decide +kernel
theorem addrT_R : ∀ n, n < 3 → termR 8 (addrT n) = true := by decide +kernel
theorem sumT_R : ∀ n, n < 6 → termR 8 (sumT n) = true := by decide +kernel
theorem argR_R (k : Int) : termR 8 (argR k) = true := by
  unfold argR
  split
  · exact numT_R _ (Nat.lt_of_lt_of_le (pickN_lt (by omega)) (by omega))
  split
  · exact addrT_R _ (pickN_lt (by omega))
  split
  · exact sumT_R _ (pickN_lt (by omega))
  · exact vT_R k
theorem argsR_R (x : GRaw) (n : Nat) : (argsR x n).all (termR 8) = true := by
  rw [List.all_eq_true]
  intro t ht
  obtain ⟨i, _, rfl⟩ := List.mem_map.1 ht
  split
  · exact vT_R _
  · exact argR_R _
@[simp] theorem argsR_len (x : GRaw) (n : Nat) : (argsR x n).length = n := by simp [argsR]
theorem argsR_succ (x : GRaw) (n : Nat) : argsR x (n + 1) = vT x.n0 :: (List.range' 1 n).map fun i => argR (x.at' i) := by
  unfold argsR
  rw [List.range_eq_range', List.range'_succ, List.map_cons]
  simp only [if_true]
  congr 1
  apply List.map_congr_left
  intro i hi
  rw [List.mem_range'_1] at hi
  rw [if_neg (by omega)]
theorem atom_argsB (x : GRaw) : argsB (atomR x) = true := by
  obtain ⟨h1, h2, _⟩ := rel_arity x
  unfold argsB atomR
  have h3 := argsR_R x (relR x).arity.toNat
  have h4 : headOK (argsR x (relR x).arity.toNat) = true := by
    obtain ⟨m, hm⟩ : ∃ m, (relR x).arity.toNat = m + 1 := ⟨_, (Nat.succ_pred_eq_of_pos h1).symm⟩
    rw [hm, argsR_succ]; rfl
  rw [h3, h4, argsR_len]
  simp; omega
theorem vName_OK : ∀ n, n < 6 → varOK (vName n) = true := by decide +kernel
theorem tSix_OK : ∀ n, n < 6 → tOK (tSix.getD n ⟨#[]⟩) = true := by decide +kernel
theorem opT_R : ∀ a, a < 6 → ∀ b, b < 6 → ∀ o, o < 2 → termR 8 (.mk 4 (if o = 0 then ⟨#[43]⟩ else ⟨#[45]⟩) (.mk 0 0 ⟨#[]⟩ []) [vTn a, vTn b]) = true := by decide +kernel
theorem opN_R : ∀ a, a < 6 → ∀ o, o < 2 → termR 8 (.mk 4 (if o = 0 then ⟨#[43]⟩ else ⟨#[45]⟩) (.mk 0 0 ⟨#[]⟩ []) [vTn a, numT 1]) = true := by decide +kernel
theorem litR_B (x : GRaw) : litB (litR x) = true := by
  unfold litR
  split
  · simp [litB, rel_OK, atom_argsB]
  split
  · simp [litB, rel_OK, atom_argsB]
  split
  · have h1 := tSix_OK _ (pickN_lt (c := x.name) (n := 6) (by omega))
    have h2 := numT_R (pickN x.n2 4) (Nat.lt_of_lt_of_le (pickN_lt (by omega)) (by omega))
    have h3 : termR 8 (if pickN x.n3 2 = 0 then numT (pickN x.n2 4) else vT x.n1) = true := by
      split
      · exact h2
      · exact vT_R _
    generalize tSix.getD (pickN x.name 6) ⟨#[]⟩ = o at *
    simp [litB, h1, vT_R, h3]
  · have h1 := vName_OK _ (pickN_lt (c := x.n0) (n := 6) (by omega))
    have h3 : termR 8 (.mk 4 (if pickN x.n3 2 = 0 then ⟨#[43]⟩ else ⟨#[45]⟩) (.mk 0 0 ⟨#[]⟩ []) [vT x.n1, if pickN (x.n3.tdiv 2) 2 = 0 then numT 1 else vT x.n2]) = true := by
      split
      · rename_i h
        split
        · exact opN_R _ (pickN_lt (c := x.n1) (by omega)) 0 (by omega)
        · exact opT_R _ (pickN_lt (c := x.n1) (by omega)) _ (pickN_lt (c := x.n2) (by omega)) 0 (by omega)
      · split
        · exact opN_R _ (pickN_lt (c := x.n1) (by omega)) 1 (by omega)
        · exact opT_R _ (pickN_lt (c := x.n1) (by omega)) _ (pickN_lt (c := x.n2) (by omega)) 1 (by omega)
    simp [litB, h1, h3]
theorem bodyR_len (l : List GRaw) : 1 ≤ (bodyR l).length ∧ (bodyR l).length ≤ 4 := by
  unfold bodyR
  split
  · simp
  · simp; omega
theorem bodyR_mem (l : List GRaw) {y : GL} (h : y ∈ bodyR l) : ∃ x, y = litR x := by
  unfold bodyR at h
  split at h
  · simp at h; exact ⟨_, h⟩
  · obtain ⟨x, _, rfl⟩ := List.mem_map.1 h; exact ⟨x, rfl⟩
theorem label_OK : ∀ n, n < 26 → relOK (⟨#[114]⟩ ++ ⟨#[UInt8.ofNat (97 + n)]⟩) = true := by decide +kernel
theorem aggN_ne (n : Nat) : aggN n ≠ ⟨#[]⟩ := by
  unfold aggN
  split
  · decide
  split <;> decide
theorem ruleR_B (l : List GRaw) (n : Nat) (hn : n < 26) : ruleB (ruleR l n) = true := by
  have h1 := bodyR_len l
  have h2 : (bodyR l).all litB = true := by
    rw [List.all_eq_true]; intro y hy
    obtain ⟨x, rfl⟩ := bodyR_mem l hy
    exact litR_B x
  have h3 : aggB (ruleR l n) = true := by
    unfold aggB ruleR
    by_cases ha : aggR (headR l) = true
    · simp only [ha, if_true, if_neg (aggN_ne _)]
      have h4 : aggN (pickN ((headR l).kind.tdiv 5) 3) = sMin ∨ aggN (pickN ((headR l).kind.tdiv 5) 3) = sMax ∨ aggN (pickN ((headR l).kind.tdiv 5) 3) = sCount := by
        unfold aggN
        split
        · exact .inl rfl
        split
        · exact .inr (.inl rfl)
        · exact .inr (.inr rfl)
      unfold aggR at ha
      simp only [Bool.and_eq_true, decide_eq_true_eq] at ha
      have h5 : 1 < (atomR (headR l)).length := by
        obtain ⟨x, hx, _⟩ := Option.map_eq_some_iff.1 ha.2
        exact (List.getElem?_eq_some_iff.1 hx).1
      simp only [Bool.and_eq_true, decide_eq_true_eq]
      exact ⟨⟨h4, by omega, by omega⟩, ha.2⟩
    · simp [ha]
  have e1 : (ruleR l n).label = (⟨#[114]⟩ ++ ⟨#[UInt8.ofNat (97 + n)]⟩) := rfl
  have e2 : (ruleR l n).head = (relR (headR l)).name := rfl
  have e3 : (ruleR l n).args = atomR (headR l) := rfl
  have e4 : (ruleR l n).body = bodyR l := rfl
  simp only [ruleB, h3, e1, e2, e3, e4, label_OK n hn, rel_OK, atom_argsB, h2, Bool.and_true, Bool.true_and, decide_eq_true_eq]
  omega
theorem addrV_R : ∀ n, n < 4 → rightT (addrV n) = true := by decide +kernel
theorem numV_R : ∀ n : Nat, n < 6 → rightT (numV n) = true := by decide +kernel
theorem fargR_R (x : GRaw) (i : Nat) : rightT (fargR x i) = true := by
  unfold fargR
  split
  · exact addrV_R _ (pickN_lt (by omega))
  · exact numV_R _ (Nat.lt_of_lt_of_le (pickN_lt (by omega)) (by omega))
theorem fargs_len (x : GRaw) : (factR x).args.length = (relR x).arity.toNat := by simp [factR]
theorem tupB_R (x : GRaw) : tupB (factR x) = true := by
  obtain ⟨h1, h2, _⟩ := rel_arity x
  have h3 : (factR x).args.all rightT = true := by
    rw [List.all_eq_true]; intro v hv
    obtain ⟨i, _, rfl⟩ := List.mem_map.1 hv
    exact fargR_R x i
  have h4 : ∃ v l, (factR x).args = v :: l ∧ v.kind = 3 := by
    obtain ⟨m, hm⟩ : ∃ m, (relR x).arity.toNat = m + 1 := ⟨_, (Nat.succ_pred_eq_of_pos h1).symm⟩
    refine ⟨fargR x 0, (List.range' 1 m).map (fargR x), ?_, ?_⟩
    · simp only [factR, hm, List.range_eq_range', List.range'_succ, List.map_cons]
    · simp [fargR, addrV]
  have h5 := fargs_len x
  obtain ⟨v, l, e, hv⟩ := h4
  have e1 : (factR x).name = (relR x).name := rfl
  unfold tupB
  rw [h3, e1, rel_OK, h5]
  rw [e]
  simp [hv]; omega
theorem relsD_B : relsD.all declB = true := by decide +kernel
theorem relsD_dup : dupD [] relsD = false := by decide +kernel
theorem arity_rel {p : GP} (hp : p.decls = relsD) (x : GRaw) : arityP p (relR x).name = (relR x).arity := by
  obtain ⟨n, hn, _, e⟩ := rel_cases x
  have hd : ∀ m, arityP p m = arityP ⟨relsD, [], []⟩ m := fun m => by unfold arityP; rw [hp]
  rw [e, hd]
  match n, hn with
  | 0, _ => decide +kernel
  | 1, _ => decide +kernel
  | 2, _ => decide +kernel
  | 3, _ => decide +kernel
  | 4, _ => decide +kernel
  | 5, _ => decide +kernel
theorem fact_good {p : GP} (hp : p.decls = relsD) (x : GRaw) : badF p (factR x) = false := by
  have h1 := arity_rel hp x
  have h2 := (rel_arity x).2.2
  have h3 := fargs_len x
  have e1 : (factR x).name = (relR x).name := rfl
  simp [badF, h1, h3, e1, h2]
theorem facts_good {p : GP} (hp : p.decls = relsD) (l : List GRaw) : (l.map factR).any (badF p) = false := by
  rw [List.any_eq_false]; intro v hv
  obtain ⟨x, _, rfl⟩ := List.mem_map.1 hv
  simp [fact_good hp]
theorem rule_congr {p q : GP} (h : p.decls = q.decls) (r : GR) : ruleP p r = ruleP q r := by
  have ha : arityP p = arityP q := by funext n; unfold arityP; rw [h]
  have hb : badL p = badL q := by funext l; unfold badL; rw [ha]
  have hr : relsB p r = relsB q r := by unfold relsB; rw [ha, hb]
  unfold ruleP; rw [hr]
theorem first_congr {p q : GP} (h : p.decls = q.decls) : ∀ (l : List GR) (i : Nat), firstP p l i = firstP q l i
  | [], i => rfl
  | r :: l, i => by simp only [firstP, rule_congr h r, first_congr h l]
theorem check_rawR {p : GP} (hp : p.decls = relsD) (h : progB p = true) (hf : p.facts.any (badF p) = false) : checkP p = firstP p p.rules 0 := by
  unfold checkP
  rw [h, hf, hp, relsD_dup]
  simp
end Go.Proofs.Ytpgakkhfjjhpdaa
end
section
namespace Go.Mach
def LX (N sz : Nat) (σ : Heap) (es : List AV) (x : AV) : Prop :=
  (es = [] ∧ x = .isl [] true) ∨
  (∃ k cs fz, x = .sl k 0 1 sz true ∧ N ≤ k ∧ σ[k]? = some (.cells cs fz false) ∧ cs.length = sz ∧ cs.all AV.clo1 = true ∧ es = [.agg (cs.map AV.nrm)]) ∨
  (∃ k, x = .own k es ∧ N ≤ k ∧ σ[k]? = some (.tok es.length sz) ∧ es.all (okEl sz true) = true)
theorem closeX_idem {σ : Heap} {j off n sz fj : Nat} {ag ej : Bool} {ds : List AV} (hj : σ[j]? = some (.cells ds fj ej)) (hdc : ds.all AV.clo1 = true) : closeX σ (.sl j off n sz ag) = σ := by
  simp only [closeX, hj, hdc, if_true]
theorem appendC_closeX {σ σ1 : Heap} {sz bytes : Nat} {ag : Bool} {s x : AV} (h : closeX σ x = σ1) (h1 : closeX σ1 x = σ1) : appendC σ sz ag bytes false s x = appendC σ1 sz ag bytes false s x := by
  unfold appendC; simp [h, h1]
theorem LX.closeS_len {σ : Heap} (id sz : Nat) : (closeS σ (.sl id 0 1 sz true)).length = σ.length ∧ ∀ i, i ≠ id → (closeS σ (.sl id 0 1 sz true))[i]? = σ[i]? := by
  simp only [closeS]
  split
  · rename_i cs fz ext h
    split
    · exact ⟨by simp, fun i hi => by rw [List.getElem?_set_ne (Ne.symm hi)]⟩
    · exact ⟨rfl, fun _ _ => rfl⟩
  · exact ⟨rfl, fun _ _ => rfl⟩
def LO (N sz : Nat) (ag : Bool) (σ : Heap) (es : List AV) (x : AV) : Prop :=
  (es = [] ∧ x = .isl [] true) ∨ (∃ k, x = .own k es ∧ N ≤ k ∧ σ[k]? = some (.tok es.length sz) ∧ es.all (okEl sz ag) = true)
theorem LO.nil (N sz : Nat) (ag : Bool) (σ : Heap) : LO N sz ag σ [] (.isl [] true) := .inl ⟨rfl, rfl⟩
theorem LO.toLX {N sz : Nat} {σ : Heap} {es : List AV} {x : AV} (h : LO N sz true σ es x) : LX N sz σ es x := by
  rcases h with h | ⟨k, h⟩
  · exact .inl h
  · exact .inr (.inr ⟨k, h⟩)
theorem LO.closeS {N sz : Nat} {ag : Bool} {σ : Heap} {es : List AV} {x : AV} (h : LO N sz ag σ es x) (τ : Heap) : Go.Mach.closeS τ x = τ := by
  rcases h with ⟨_, rfl⟩ | ⟨k, rfl, _⟩ <;> rfl
theorem LO.len {N sz : Nat} {ag : Bool} {σ : Heap} {es : List AV} {x : AV} (h : LO N sz ag σ es x) : lenV false x = some (.int .i64 (es.length : Int)) := by
  rcases h with ⟨rfl, rfl⟩ | ⟨k, rfl, _⟩ <;> simp
theorem LO.solid {N sz : Nat} {ag : Bool} {σ : Heap} {es : List AV} {x : AV} (h : LO N sz ag σ es x) : x.solid = true := by
  rcases h with ⟨rfl, rfl⟩ | ⟨k, rfl, _⟩ <;> rfl
theorem LO.cells {N sz : Nat} {ag : Bool} {σ : Heap} {es : List AV} {x : AV} (h : LO N sz ag σ es x) : x.cells = [x] := by
  rcases h with ⟨rfl, rfl⟩ | ⟨k, rfl, _⟩ <;> rfl
theorem LO.close {N sz : Nat} {ag : Bool} {σ : Heap} {es : List AV} {x : AV} (h : LO N sz ag σ es x) (τ : Heap) : close0 τ x = some (.isl es false, τ) := by
  rcases h with ⟨rfl, rfl⟩ | ⟨k, rfl, _⟩ <;> rfl
theorem LO.close1 {N sz : Nat} {ag : Bool} {σ : Heap} {es : List AV} {x : AV} (h : LO N sz ag σ es x) (τ : Heap) : Go.Mach.close1 τ x = some (.isl es false, τ) := close1_of0 (h.close τ)
theorem LO.closeA {N sz : Nat} {ag : Bool} {σ : Heap} {es : List AV} {x : AV} (h : LO N sz ag σ es x) (τ : Heap) : Go.Mach.closeA τ x = some (.isl es false, τ) := by
  have hc := h.close1 τ
  rcases h with ⟨rfl, rfl⟩ | ⟨k, rfl, _⟩ <;> exact hc
theorem LO.keep {N sz : Nat} {ag : Bool} {σ τ : Heap} {es : List AV} {x : AV} (h : LO N sz ag σ es x) (hk : ∀ i o, N ≤ i → σ[i]? = some o → τ[i]? = some o) : LO N sz ag τ es x := by
  rcases h with h | ⟨k, h1, h2, h3, h4⟩
  · exact .inl h
  · exact .inr ⟨k, h1, h2, hk _ _ h2 h3, h4⟩
theorem LO.at {N sz : Nat} {ag : Bool} {σ : Heap} {es : List AV} {x : AV} (h : LO N sz ag σ es x) {i : Nat} (hi : i < es.length) (hz : (es[i]).cells.length = sz) : iaddrV sz x (.int .i64 (i : Int)) = some (.iptr (es[i]).cells 0) := by
  rcases h with ⟨rfl, rfl⟩ | ⟨k, rfl, _⟩
  · simp at hi
  · simp [hi, hz]
theorem app_any0 {σ0 σ σ1 : Heap} {j sz bytes fj N : Nat} {ej : Bool} {ds : List AV} {es : List AV} {x : AV}
    (hX : closeX σ (.sl j 0 1 sz true) = σ1) (hj : σ1[j]? = some (.cells ds fj ej)) (hd : ds.length = sz) (hdc : ds.all AV.clo1 = true) (h0 : 0 < sz) (hb : bytes ≤ 1000)
    (hx : LX N sz σ0 es x) (hσ : ∀ i, i < σ0.length → σ1[i]? = σ0[i]?) (hj0 : σ0.length ≤ j) (hN : N ≤ σ0.length) (hl : es.length ≤ 1000000000) :
    ∃ x' σ', appendC σ sz true bytes false x (.sl j 0 1 sz true) = some (x', σ') ∧ LO N sz true σ' (es ++ [.agg (ds.map AV.nrm)]) x' ∧ σ1.length ≤ σ'.length ∧ ∀ i o, σ0[i]? = some o → (i < N ∨ ((∀ n, o ≠ .tok n sz) ∧ ∀ cs fz, o = .cells cs fz false → cs.length ≠ sz)) → σ'[i]? = some o := by
  have hjl : j < σ1.length := (List.getElem?_eq_some_iff.1 hj).1
  rw [appendC_closeX hX (closeX_idem hj hdc)]
  have o2 : okEl sz true (.agg (ds.map AV.nrm)) = true := by simp only [okEl, AV.clo, nrm_all hdc, AV.cells, List.length_map, hd, decide_true, Bool.and_self]
  rcases hx with ⟨rfl, rfl⟩ | ⟨k, cs, fz, rfl, hkN, hk, hcl, hcc, rfl⟩ | ⟨k, rfl, hkN, hk, hes⟩
  · refine ⟨.own σ1.length [.agg (ds.map AV.nrm)], σ1 ++ [.tok 1 sz], by rw [appendC_clo hj hdc]; exact app_ag hj hd hdc h0 hb (app1_nil ..), .inr ⟨σ1.length, rfl, by omega, by simp, by simp [o2]⟩, by simp, fun i o hi h12 => ?_⟩
    have hil := (List.getElem?_eq_some_iff.1 hi).1
    rw [List.getElem?_append_left (by omega), hσ i hil]; exact hi
  · have hkl : k < σ0.length := (List.getElem?_eq_some_iff.1 hk).1
    have hk1 : σ1[k]? = some (.cells cs fz false) := by rw [hσ k hkl]; exact hk
    obtain ⟨c1, c2⟩ := LX.closeS_len (σ := σ1) k sz
    have o1 : okEl sz true (.agg (cs.map AV.nrm)) = true := by simp only [okEl, AV.clo, nrm_all hcc, AV.cells, List.length_map, hcl, decide_true, Bool.and_self]
    refine ⟨_, _, app_slC hk1 hj (by omega) hcl hd hcc hdc h0 hb, .inr ⟨σ1.length, rfl, by omega, ?_, by simp [o1, o2]⟩, by simp [c1], fun i o hi h12 => ?_⟩
    · rw [← c1]; simp
    · have hil := (List.getElem?_eq_some_iff.1 hi).1
      have hne : i ≠ k := by
        rintro rfl
        rw [hk] at hi; injection hi with hi
        rcases h12 with h | ⟨_, h2⟩
        · omega
        · exact h2 cs fz hi.symm hcl
      rw [List.getElem?_append_left (by rw [c1]; omega), c2 i hne, hσ i hil]; exact hi
  · have hkl : k < σ0.length := (List.getElem?_eq_some_iff.1 hk).1
    have hk1 : σ1[k]? = some (.tok es.length sz) := by rw [hσ k hkl]; exact hk
    refine ⟨.own k (es ++ [.agg (ds.map AV.nrm)]), σ1.set k (.tok (es.length + 1) sz), by rw [appendC_clo hj hdc]; exact app_ag hj hd hdc h0 hb (app1_own hes (by omega) hk1), .inr ⟨k, rfl, hkN, ?_, by simp [List.all_append, hes, o2]⟩, by simp, fun i o hi h12 => ?_⟩
    · rw [list_set_at (by omega)]; simp
    · have hil := (List.getElem?_eq_some_iff.1 hi).1
      have hne : i ≠ k := by
        rintro rfl
        rw [hk] at hi; injection hi with hi
        rcases h12 with h | ⟨h1, _⟩
        · omega
        · exact h1 _ hi.symm
      rw [List.getElem?_set_ne (Ne.symm hne), hσ i hil]; exact hi
theorem LX.other {N sz sz2 : Nat} {σ0 σ' : Heap} {es2 : List AV} {y : AV} (hne : sz2 ≠ sz) (h : LX N sz2 σ0 es2 y) (hk : ∀ i o, σ0[i]? = some o → (i < N ∨ ((∀ n, o ≠ .tok n sz) ∧ ∀ cs fz, o = .cells cs fz false → cs.length ≠ sz)) → σ'[i]? = some o) : LX N sz2 σ' es2 y := by
  rcases h with h | ⟨k, cs, fz, h1, h2, h3, h4, h5⟩ | ⟨k, h1, h2, h3, h4⟩
  · exact .inl h
  · exact .inr (.inl ⟨k, cs, fz, h1, h2, hk _ _ h3 (.inr ⟨fun n e => (by cases e), fun cs' fz' e => (by injection e with e1; subst e1; omega)⟩), h4, h5⟩)
  · exact .inr (.inr ⟨k, h1, h2, hk _ _ h3 (.inr ⟨fun n e => (by injection e with e1 e2; exact hne e2), fun cs' fz' e => (by cases e)⟩), h4⟩)
theorem LO.other {N sz sz2 : Nat} {σ0 σ' : Heap} {es2 : List AV} {y : AV} (hne : sz2 ≠ sz) (h : LO N sz2 true σ0 es2 y) (hk : ∀ i o, σ0[i]? = some o → (i < N ∨ ((∀ n, o ≠ .tok n sz) ∧ ∀ cs fz, o = .cells cs fz false → cs.length ≠ sz)) → σ'[i]? = some o) : LO N sz2 true σ' es2 y := by
  rcases h with h | ⟨k, h1, h2, h3, h4⟩
  · exact .inl h
  · exact .inr ⟨k, h1, h2, hk _ _ h3 (.inr ⟨fun n e => (by injection e with e1 e2; exact hne e2), fun cs' fz' e => (by cases e)⟩), h4⟩
theorem app_any {σ0 σ σ1 : Heap} {j sz bytes fj N : Nat} {ej : Bool} {ds : List AV} {es : List AV} {x : AV}
    (hX : closeX σ (.sl j 0 1 sz true) = σ1) (hj : σ1[j]? = some (.cells ds fj ej)) (hd : ds.length = sz) (hdc : ds.all AV.clo1 = true) (h0 : 0 < sz) (hb : bytes ≤ 1000)
    (hx : LX N sz σ0 es x) (hσ : ∀ i, i < σ0.length → σ1[i]? = σ0[i]?) (hj0 : σ0.length ≤ j) (hN : N ≤ σ0.length) (hl : es.length ≤ 1000000000) :
    ∃ x' σ', appendC σ sz true bytes false x (.sl j 0 1 sz true) = some (x', σ') ∧ LX N sz σ' (es ++ [.agg (ds.map AV.nrm)]) x' ∧ σ1.length ≤ σ'.length ∧ (∀ i, i < N → σ'[i]? = σ0[i]?) ∧ ∀ sz2 es2 y, sz2 ≠ sz → LX N sz2 σ0 es2 y → LX N sz2 σ' es2 y := by
  obtain ⟨x', σ', h1, h2, h3, h4⟩ := app_any0 (bytes := bytes) hX hj hd hdc h0 hb hx hσ hj0 hN hl
  exact ⟨x', σ', h1, h2.toLX, h3, fun i hi => by rw [h4 i _ (List.getElem?_eq_getElem (by omega)) (.inl hi), List.getElem?_eq_getElem], fun sz2 es2 y hne hy => hy.other hne h4⟩
theorem LX.len {N sz : Nat} {σ : Heap} {es : List AV} {x : AV} (h : LX N sz σ es x) : lenV false x = some (.int .i64 (es.length : Int)) := by
  rcases h with ⟨rfl, rfl⟩ | ⟨k, cs, fz, rfl, _, _, _, _, rfl⟩ | ⟨k, rfl, _⟩ <;> simp
theorem LX.solid {N sz : Nat} {σ : Heap} {es : List AV} {x : AV} (h : LX N sz σ es x) : x.solid = true := by
  rcases h with ⟨rfl, rfl⟩ | ⟨k, cs, fz, rfl, _⟩ | ⟨k, rfl, _⟩ <;> rfl
theorem LX.cells {N sz : Nat} {σ : Heap} {es : List AV} {x : AV} (h : LX N sz σ es x) : x.cells = [x] := by
  rcases h with ⟨rfl, rfl⟩ | ⟨k, cs, fz, rfl, _⟩ | ⟨k, rfl, _⟩ <;> rfl
theorem LX.keep {N sz : Nat} {σ τ : Heap} {es : List AV} {x : AV} (h : LX N sz σ es x) (hk : ∀ i o, N ≤ i → σ[i]? = some o → τ[i]? = some o) : LX N sz τ es x := by
  rcases h with h | ⟨k, cs, fz, h1, h2, h3, h4⟩ | ⟨k, h1, h2, h3, h4⟩
  · exact .inl h
  · exact .inr (.inl ⟨k, cs, fz, h1, h2, hk _ _ h2 h3, h4⟩)
  · exact .inr (.inr ⟨k, h1, h2, hk _ _ h2 h3, h4⟩)
theorem LX.app {N sz : Nat} {σ : Heap} {es : List AV} {x : AV} (h : LX N sz σ es x) (l : Heap) : LX N sz (σ ++ l) es x :=
  h.keep fun i o _ hi => by rw [List.getElem?_append_left (List.getElem?_eq_some_iff.1 hi).1]; exact hi
theorem close0_one {σ : Heap} {k sz fz : Nat} {ext : Bool} {cs : List AV} (hk : σ[k]? = some (.cells cs fz ext)) (hl : cs.length = sz) (hc : cs.all AV.clo1 = true) : close0 σ (.sl k 0 1 sz true) = some (.isl [.agg (cs.map AV.nrm)] false, frz σ k sz) := by
  subst hl
  have hw : window cs 0 cs.length = some cs := window_full rfl
  have hc2 : ¬ (1 : Nat) = 0 := by decide
  simp only [close0, if_neg hc2, hk, Nat.one_mul, Nat.zero_add, hw, Option.bind_some, hc, if_true]
  have ht : List.take cs.length (List.map AV.nrm cs) = List.map AV.nrm cs := List.take_of_length_le (by simp)
  simp [chunk, mk, ht]
theorem LX.frz {N sz k m : Nat} {σ : Heap} {es : List AV} {y : AV} (h : LX N sz σ es y) : LX N sz (Go.Mach.frz σ k m) es y := by
  unfold Go.Mach.frz
  split
  · rename_i cs0 fz0 ext0 h0
    have hk := (List.getElem?_eq_some_iff.1 h0).1
    rcases h with h | ⟨j, cs, fz, h1, h2, h3, h4⟩ | ⟨j, h1, h2, h3, h4⟩
    · exact .inl h
    · by_cases e : k = j
      · subst e
        rw [h0] at h3; injection h3 with h3; injection h3 with e1 e2 e3; subst e1 e3
        exact .inr (.inl ⟨k, cs0, _, h1, h2, list_set_at hk, h4⟩)
      · exact .inr (.inl ⟨j, cs, fz, h1, h2, by rw [List.getElem?_set_ne e]; exact h3, h4⟩)
    · have e : k ≠ j := by rintro rfl; rw [h0] at h3; cases h3
      exact .inr (.inr ⟨j, h1, h2, by rw [List.getElem?_set_ne e]; exact h3, h4⟩)
  · exact h
theorem LX.close {N sz : Nat} {σ : Heap} {es : List AV} {x : AV} (h : LX N sz σ es x) : ∃ σ', close0 σ x = some (.isl es false, σ') ∧ σ'.length = σ.length ∧ (∀ i, i < N → σ'[i]? = σ[i]?) ∧ ∀ N2 sz2 es2 y, LX N2 sz2 σ es2 y → LX N2 sz2 σ' es2 y := by
  rcases h with ⟨rfl, rfl⟩ | ⟨k, cs, fz, rfl, hN, hk, hl, hc, rfl⟩ | ⟨k, rfl, _⟩
  · exact ⟨σ, rfl, rfl, fun _ _ => rfl, fun _ _ _ _ h => h⟩
  · refine ⟨_, close0_one hk hl hc, ?_, fun i hi => ?_, fun _ _ _ _ h => h.frz⟩
    · simp only [Go.Mach.frz, hk, List.length_set]
    · simp only [Go.Mach.frz, hk]; rw [List.getElem?_set_ne (by omega)]
  · exact ⟨σ, rfl, rfl, fun _ _ => rfl, fun _ _ _ _ h => h⟩
theorem LX.closeA {N sz : Nat} {σ : Heap} {es : List AV} {x : AV} (h : LX N sz σ es x) : ∃ σ', Go.Mach.closeA σ x = some (.isl es false, σ') ∧ σ'.length = σ.length ∧ ∀ i, i < N → σ'[i]? = σ[i]? := by
  obtain ⟨σ', h1, h2, h3, _⟩ := h.close
  refine ⟨σ', ?_, h2, h3⟩
  rcases h with ⟨rfl, rfl⟩ | ⟨k, cs, fz, rfl, hN, hk, hl, hc, rfl⟩ | ⟨k, rfl, _⟩ <;> exact close1_of0 h1
theorem chkO_l (ρ : Regs) (σ σ' : Heap) (l : List AX) : (chkO ρ σ σ' l = some ()) = ∀ x ∈ l, objOf σ (ev ρ x) = objOf σ' (ev ρ x) := by
  apply propext
  constructor
  · exact fun h => chkO_some h
  · intro h
    unfold chkO
    rw [if_pos (List.all_eq_true.2 fun x hx => (sameO_iff _ _).2 (h x hx))]
theorem slI_take {sz : Nat} {es : List AV} {c : Bool} {n : Nat} (h : n ≤ es.length) : slSlV sz none (some (.int .i64 (n : Int))) (.isl es c) = some (.isl (es.take n) false) := by
  have h1 : slSlA sz 0 n (.isl es c) = some (.isl (es.take n) false) := by
    have hc : 0 ≤ n ∧ n ≤ es.length ∧ (0 = 0 ∨ es.all (lenIs sz) = true) := ⟨by omega, h, .inl rfl⟩
    unfold slSlA; simp only; rw [if_pos (by simpa using hc)]; simp
  have h2 : bndV es.length es.length (some (.int .i64 (n : Int))) = some n := by
    simp only [bndV]; rw [if_pos ⟨by omega, by omega⟩]; rfl
  have h0 : ¬ isSl (.isl es c) = false := by simp [isSl]
  have hl : lenA (.isl es c) = some es.length := rfl
  unfold slSlV
  rw [if_neg h0, hl]
  simp only [Option.bind_some, bndV_none, h2, h1]
theorem slI_drop {sz : Nat} {es : List AV} {c : Bool} {n : Nat} (h : n ≤ es.length) (hz : es.all (lenIs sz) = true) : slSlV sz (some (.int .i64 (n : Int))) none (.isl es c) = some (.isl (es.drop n) false) := by
  have h1 : slSlA sz n es.length (.isl es c) = some (.isl (es.drop n) false) := by
    have hc : n ≤ es.length ∧ es.length ≤ es.length ∧ (n = 0 ∨ es.all (lenIs sz) = true) := ⟨h, Nat.le_refl _, .inr hz⟩
    simp only [slSlA, if_pos hc, List.take_of_length_le (Nat.le_refl _)]
  have h2 : bndV es.length 0 (some (.int .i64 (n : Int))) = some n := by
    simp only [bndV]; rw [if_pos ⟨by omega, by omega⟩]; rfl
  have h0 : ¬ isSl (.isl es c) = false := by simp [isSl]
  have hl : lenA (.isl es c) = some es.length := rfl
  unfold slSlV
  rw [if_neg h0, hl]
  simp only [Option.bind_some, bndV_none, h2, h1]
theorem lenIs_map {α : Type} (enc : α → AV) (sz : Nat) (h : ∀ x, (enc x).cells.length = sz) (l : List α) : (l.map enc).all (lenIs sz) = true := by
  rw [List.all_eq_true]; intro x hx
  obtain ⟨y, _, rfl⟩ := List.mem_map.1 hx
  simp [lenIs, h y]
theorem LO.isl {N sz bytes : Nat} {ag b : Bool} {σ : Heap} {es : List AV} {x : AV} (h : LO N sz ag σ es x) (ys : List AV) (hok : ys.all (okEl sz ag) = true) (hl : es.length + ys.length ≤ 1000000000) (h0 : 0 < sz) (hb : bytes ≤ 1000) (hN : N ≤ σ.length) :
    ∃ x' σ', appendA σ sz ag bytes false x (.isl ys b) = some (x', σ') ∧ LO N sz ag σ' (es ++ ys) x' ∧ σ.length ≤ σ'.length ∧ ∀ i, i < N → σ'[i]? = σ[i]? := by
  cases ys with
  | nil =>
    refine ⟨x, σ, ?_, by simpa using h, Nat.le_refl _, fun _ _ => rfl⟩
    rcases h with ⟨_, rfl⟩ | ⟨k, rfl, _⟩ <;> simp [appendA, elemsN, elemsA, isSl]
  | cons y ys =>
    have hn : ¬ (sz = 0 ∨ (es.length + (y :: ys).length) * bytes > 70368744177664 ∨ es.length + (y :: ys).length > 70368744177664) := by
      have : (es.length + (y :: ys).length) * bytes ≤ 1000000000 * 1000 := Nat.mul_le_mul hl hb
      omega
    have hne : (y :: ys) ≠ [] := by simp
    have he2 : elemsN σ sz ag (.isl (y :: ys) b) = some (y :: ys) := rfl
    rcases h with ⟨rfl, rfl⟩ | ⟨k, rfl, hkN, ht, hes⟩
    · refine ⟨.own σ.length (y :: ys), σ ++ [.tok (y :: ys).length sz], ?_, .inr ⟨σ.length, by simp, hN, by simp, hok⟩, by simp, fun j hj => by rw [List.getElem?_append_left (by omega)]⟩
      have he1 : elemsA σ sz ag (.isl [] true) = some [] := rfl
      simp only [List.length_nil] at hn
      simp only [appendA, he1, he2, Option.bind_some, isSl, if_neg hne, List.length_nil, if_neg hn, hok, Bool.false_eq_true, if_false]
      simp
    · have hk := (List.getElem?_eq_some_iff.1 ht).1
      refine ⟨.own k (es ++ y :: ys), σ.set k (.tok (es ++ y :: ys).length sz), ?_, .inr ⟨k, rfl, hkN, list_set_at hk, by rw [List.all_append, hes, hok]; rfl⟩, by simp, fun j hj => by rw [List.getElem?_set_ne (by omega)]⟩
      have he1 : elemsA σ sz ag (.own k es) = some es := rfl
      simp only [appendA, he1, he2, Option.bind_some, isSl, if_neg hne, ht, hok, hes, Bool.false_eq_true, if_false]
      rw [if_neg hn]
      simp
section
variable {T : Tab} {bs n : Nat}
theorem stW_appX {σ0 σ σ1 : Heap} {j sz bytes fj N : Nat} {ej : Bool} {ds : List AV} {es : List AV} {x : AV} {d : Option Nat} {os : List AOper} {k : List Fr} {f : FR} {τ : Heap} {Q : AExit → FR → Heap → Prop}
    (hX : closeX σ (.sl j 0 1 sz true) = σ1) (hj : σ1[j]? = some (.cells ds fj ej)) (hd : ds.length = sz) (hdc : ds.all AV.clo1 = true) (h0 : 0 < sz) (hb : bytes ≤ 1000)
    (hx : LX N sz σ0 es x) (hσ : ∀ i, i < σ0.length → σ1[i]? = σ0[i]?) (hj0 : σ0.length ≤ j) (hN : N ≤ σ0.length) (hl : es.length ≤ 1000000000)
    (h : ∀ x' σ', LX N sz σ' (es ++ [.agg (ds.map AV.nrm)]) x' → σ1.length ≤ σ'.length → (∀ i, i < N → σ'[i]? = σ0[i]?) → wpK T bs n (.ops os :: k) (updO f d x') σ' Q) :
    stW T bs n (appendC σ sz true bytes false x (.sl j 0 1 sz true)) d [] os k f τ Q := by
  obtain ⟨x', σ', h1, h2, h3, h4, _⟩ := app_any (bytes := bytes) hX hj hd hdc h0 hb hx hσ hj0 hN hl
  rw [h1]
  exact ⟨rfl, h x' σ' h2 h3 h4⟩
theorem stW_app1 {σ0 : Heap} {sz bytes fj N : Nat} {ej : Bool} {ds : List AV} {es : List AV} {x : AV} {d : Option Nat} {os : List AOper} {k : List Fr} {f : FR} {τ : Heap} {Q : AExit → FR → Heap → Prop}
    (hx : LX N sz σ0 es x) (hd : ds.length = sz) (hdc : ds.all AV.clo1 = true) (h0 : 0 < sz) (hb : bytes ≤ 1000) (hN : N ≤ σ0.length) (hl : es.length ≤ 1000000000)
    (h : ∀ x' σ', LX N sz σ' (es ++ [.agg (ds.map AV.nrm)]) x' → σ0.length + 1 ≤ σ'.length → (∀ i, i < N → σ'[i]? = σ0[i]?) → wpK T bs n (.ops os :: k) (updO f d x') σ' Q) :
    stW T bs n (appendC (σ0 ++ [.cells ds fj ej]) sz true bytes false x (.sl σ0.length 0 1 sz true)) d [] os k f τ Q := by
  have hj : (σ0 ++ [.cells ds fj ej])[σ0.length]? = some (.cells ds fj ej) := List.getElem?_concat_length
  exact stW_appX (closeX_idem hj hdc) hj hd hdc h0 hb hx (fun i hi => List.getElem?_append_left hi) (Nat.le_refl _) hN hl fun x' σ' h1 h2 h3 => h x' σ' h1 (by simpa using h2) h3
def LastOk (y z : AV) : Prop := (y.clo1 = true ∧ y.nrm = z) ∨ ∃ k ys, y = .own k ys ∧ z = .isl ys false
theorem LastOk.isl (es : List AV) (b : Bool) : LastOk (.isl es b) (.isl es false) := .inl ⟨rfl, rfl⟩
theorem stW_app1K {σ0 : Heap} {sz bytes fj N : Nat} {ej : Bool} {ds : List AV} {es : List AV} {x : AV} {d : Option Nat} {os : List AOper} {k : List Fr} {f : FR} {τ : Heap} {Q : AExit → FR → Heap → Prop}
    (hx : LX N sz σ0 es x) (hd : ds.length = sz) (hdc : ds.all AV.clo1 = true) (h0 : 0 < sz) (hb : bytes ≤ 1000) (hN : N ≤ σ0.length) (hl : es.length ≤ 1000000000)
    (h : ∀ x' σ', LX N sz σ' (es ++ [.agg (ds.map AV.nrm)]) x' → σ0.length + 1 ≤ σ'.length → (∀ i, i < N → σ'[i]? = σ0[i]?) → (∀ sz2 es2 y, sz2 ≠ sz → LX N sz2 σ0 es2 y → LX N sz2 σ' es2 y) → wpK T bs n (.ops os :: k) (updO f d x') σ' Q) :
    stW T bs n (appendC (σ0 ++ [.cells ds fj ej]) sz true bytes false x (.sl σ0.length 0 1 sz true)) d [] os k f τ Q := by
  have hj : (σ0 ++ [.cells ds fj ej])[σ0.length]? = some (.cells ds fj ej) := List.getElem?_concat_length
  obtain ⟨x', σ', h1, h2, h3, h4, h5⟩ := app_any (bytes := bytes) (closeX_idem hj hdc) hj hd hdc h0 hb hx (fun i hi => List.getElem?_append_left hi) (Nat.le_refl _) hN hl
  rw [h1]
  exact ⟨rfl, h x' σ' h2 (by simpa using h3) h4 h5⟩
theorem stW_app2 {σ0 : Heap} {o : AObj} {sz bytes fj N : Nat} {ej : Bool} {ds : List AV} {es : List AV} {x : AV} {d : Option Nat} {os : List AOper} {k : List Fr} {f : FR} {τ : Heap} {Q : AExit → FR → Heap → Prop}
    (hx : LX N sz σ0 es x) (hd : ds.length = sz) (hdc : ds.all AV.clo1 = true) (h0 : 0 < sz) (hb : bytes ≤ 1000) (hN : N ≤ σ0.length) (hl : es.length ≤ 1000000000)
    (h : ∀ x' σ', LX N sz σ' (es ++ [.agg (ds.map AV.nrm)]) x' → σ0.length + 2 ≤ σ'.length → (∀ i, i < N → σ'[i]? = σ0[i]?) → wpK T bs n (.ops os :: k) (updO f d x') σ' Q) :
    stW T bs n (appendC (σ0 ++ [o, .cells ds fj ej]) sz true bytes false x (.sl (σ0.length + 1) 0 1 sz true)) d [] os k f τ Q := by
  have hj : (σ0 ++ [o, .cells ds fj ej])[σ0.length + 1]? = some (.cells ds fj ej) := by simp
  exact stW_appX (closeX_idem hj hdc) hj hd hdc h0 hb hx (fun i hi => List.getElem?_append_left hi) (by omega) hN hl fun x' σ' h1 h2 h3 => h x' σ' h1 (by simpa using h2) h3
end
end Go.Mach
end
section
namespace Go.Mach
def apart (x y : AV) : Prop := ∀ k es es2, x = .own k es → y ≠ .own k es2
theorem apart.symm {x y : AV} (h : apart x y) : apart y x := fun k es es2 h1 h2 => h k es2 es h2 h1
section
variable {T : Tab} {bs n : Nat}
end
end Go.Mach
end
section
set_option maxRecDepth 100000
namespace Go.Proofs.Ytpgakkhfjjhpdaa
open Go.Mach
theorem rels_get (x : GRaw) : (relsD.map GD.enc)[pickN x.name 6]? = some (relR x).enc := by
  have hlt := pickN_lt (c := x.name) (n := 6) (by omega)
  rw [List.getElem?_map]
  have : relsD[pickN x.name 6]? = some (relR x) := by
    unfold relR
    generalize pickN x.name 6 = n at *
    match n, hlt with
    | 0, _ => rfl
    | 1, _ => rfl
    | 2, _ => rfl
    | 3, _ => rfl
    | 4, _ => rfl
    | 5, _ => rfl
  rw [this]; rfl
theorem raw_at (x : GRaw) (i : Nat) (h : i < 4) : window [AV.int .i64 x.kind, .int .i64 x.name, .int .i64 x.n0, .int .i64 x.n1, .int .i64 x.n2, .int .i64 x.n3] (2 + i) 1 = some [.int .i64 (x.at' i)] := by
  match i, h with
  | 0, _ => rfl
  | 1, _ => rfl
  | 2, _ => rfl
  | 3, _ => rfl
theorem pick6_6 (c : Int) (h1 : GV.i64ok c) (bs : Nat) (σ : Heap) : callT T 24 [.int .i64 c, .int .i64 6] bs σ = some (.int .i64 (pickN c 6 : Int), σ) := pick6 c 6 (by omega) h1 bs σ
theorem pick6_12 (c : Int) (h1 : GV.i64ok c) (bs : Nat) (σ : Heap) : callT T 24 [.int .i64 c, .int .i64 12] bs σ = some (.int .i64 (pickN c 12 : Int), σ) := pick6 c 12 (by omega) h1 bs σ
theorem pick6_4 (c : Int) (h1 : GV.i64ok c) (bs : Nat) (σ : Heap) : callT T 24 [.int .i64 c, .int .i64 4] bs σ = some (.int .i64 (pickN c 4 : Int), σ) := pick6 c 4 (by omega) h1 bs σ
theorem pick6_3 (c : Int) (h1 : GV.i64ok c) (bs : Nat) (σ : Heap) : callT T 24 [.int .i64 c, .int .i64 3] bs σ = some (.int .i64 (pickN c 3 : Int), σ) := pick6 c 3 (by omega) h1 bs σ
theorem pick6_2 (c : Int) (h1 : GV.i64ok c) (bs : Nat) (σ : Heap) : callT T 24 [.int .i64 c, .int .i64 2] bs σ = some (.int .i64 (pickN c 2 : Int), σ) := pick6 c 2 (by omega) h1 bs σ
theorem pick6_5 (c : Int) (h1 : GV.i64ok c) (bs : Nat) (σ : Heap) : callT T 24 [.int .i64 c, .int .i64 5] bs σ = some (.int .i64 (pickN c 5 : Int), σ) := pick6 c 5 (by omega) h1 bs σ
theorem pick6_8 (c : Int) (h1 : GV.i64ok c) (bs : Nat) (σ : Heap) : callT T 24 [.int .i64 c, .int .i64 8] bs σ = some (.int .i64 (pickN c 8 : Int), σ) := pick6 c 8 (by omega) h1 bs σ
theorem pick6_26 (c : Int) (h1 : GV.i64ok c) (bs : Nat) (σ : Heap) : callT T 24 [.int .i64 c, .int .i64 26] bs σ = some (.int .i64 (pickN c 26 : Int), σ) := pick6 c 26 (by omega) h1 bs σ
abbrev cT (t : GT) : List AV := [.int .i64 t.kind, .str t.name, .int .i64 t.value.kind, .int .i64 t.value.num, .str t.value.text, .isl (GV.encs t.value.items) false, .isl (GT.encs t.args) false]
theorem LX.snocT {N : Nat} {σ : Heap} {es : List GT} {x : AV} (t : GT) (h : LX N 7 σ (GT.encs es ++ [.agg ((cT t).map AV.nrm)]) x) : LX N 7 σ (GT.encs (es ++ [t])) x := by
  rw [← GT.encs_snoc, GT.enc_eq t]; exact h
abbrev opC (nm : ByteArray) (x : AV) : List AV := [.int .i64 4, .str nm, .int .i64 0, .int .i64 0, .str ⟨#[]⟩, .isl [] true, x]
def opT (nm : ByteArray) (a b : GT) : GT := .mk 4 nm (.mk 0 0 ⟨#[]⟩ []) [a, b]
theorem closeX_op {σ0 : Heap} (nm : ByteArray) (a b : GT) : closeX (σ0 ++ [.cells (cT a ++ cT b) 0 false, .cells (opC nm (.sl σ0.length 0 2 7 true)) 0 false]) (.sl (σ0.length + 1) 0 1 7 true) =
    σ0 ++ [.cells (cT a ++ cT b) 14 false, .cells (cT (opT nm a b)) 0 false] := by
  have g0 : (σ0 ++ [.cells (cT a ++ cT b) 0 false, .cells (opC nm (.sl σ0.length 0 2 7 true)) 0 false])[σ0.length]? = some (.cells (cT a ++ cT b) 0 false) := by simp
  have g1 : (σ0 ++ [.cells (cT a ++ cT b) 0 false, .cells (opC nm (.sl σ0.length 0 2 7 true)) 0 false])[σ0.length + 1]? = some (.cells (opC nm (.sl σ0.length 0 2 7 true)) 0 false) := by simp
  have hw : window (cT a ++ cT b) 0 14 = some (cT a ++ cT b) := rfl
  have hc : close0 (σ0 ++ [.cells (cT a ++ cT b) 0 false, .cells (opC nm (.sl σ0.length 0 2 7 true)) 0 false]) (.sl σ0.length 0 2 7 true) = some (.isl (GT.encs [a, b]) false, σ0 ++ [.cells (cT a ++ cT b) 14 false, .cells (opC nm (.sl σ0.length 0 2 7 true)) 0 false]) := by
    have hc2 : ¬ (2 : Nat) = 0 := by decide
    simp only [close0, if_neg hc2, g0, Nat.reduceMul, Nat.zero_add, hw, Option.bind_some]
    have h14 : ((cT a ++ cT b).all AV.clo1) = true := rfl
    rw [if_pos h14]
    have hch : chunk 7 true 2 ((cT a ++ cT b).map AV.nrm) = some (GT.encs [a, b]) := by simp [GT.encs, GT.enc_eq a, GT.enc_eq b]
    rw [hch]
    simp only [frz, g0, Option.map_some]
    simp
  have i1 : ∀ (σ : Heap) k n, close1 σ (AV.int k n) = some (.int k n, σ) := fun _ _ _ => rfl
  have s1 : ∀ (σ : Heap) n, close1 σ (AV.str n) = some (.str n, σ) := fun _ _ => rfl
  have l1 : ∀ (σ : Heap) n b, close1 σ (AV.isl n b) = some (.isl n false, σ) := fun _ _ _ => rfl
  have hL : closeL (σ0 ++ [.cells (cT a ++ cT b) 0 false, .cells (opC nm (.sl σ0.length 0 2 7 true)) 0 false]) (opC nm (.sl σ0.length 0 2 7 true)) = some (cT (opT nm a b), σ0 ++ [.cells (cT a ++ cT b) 14 false, .cells (opC nm (.sl σ0.length 0 2 7 true)) 0 false]) := by
    simp only [closeL, i1, s1, l1, close1_of0 hc, Option.bind_some, Option.map_some]
    rfl
  have h2 : (opC nm (.sl σ0.length 0 2 7 true)).all AV.clo1 = false := rfl
  have g2 : (σ0 ++ [.cells (cT a ++ cT b) 14 false, .cells (opC nm (.sl σ0.length 0 2 7 true)) 0 false])[σ0.length + 1]? = some (.cells (opC nm (.sl σ0.length 0 2 7 true)) 0 false) := by simp
  have h3 : ((cT (opT nm a b)).all AV.clo1 = true ∧ (opC nm (.sl σ0.length 0 2 7 true)).length = (cT (opT nm a b)).length) := ⟨rfl, rfl⟩
  simp only [closeX, g1, h2, hL, g2, h3, and_self, if_true, Bool.false_eq_true, if_false]
  simp
theorem atom_ok (x : GRaw) (hx : x.ok) : pureT T c25 [x.enc] = some (.tup [.str (relR x).name, .isl (GT.encs (atomR x)) false]) := by
  have hp := pick6_6 x.name hx.2.1
  have hr := rels_get x
  obtain ⟨a1, a2, a3⟩ := rel_arity x
  have hv := callV6 x.n0 hx.2.2.1
  have hlt := pickN_lt (c := x.name) (n := 6) (by omega)
  have hlt' : (pickN x.name 6 : Int) < 6 := by omega
  have hl6 : relsD.length = 6 := rfl
  unfold atomR
  generalize hn : (relR x).arity.toNat = n at *
  apply pure_enter (by simp [c25])
  simp [c25, callRelations6, setRun, hp, hr, hv]
  refine W_for T 0 72 (n - 1) (fun i f σ => f 1 = .ptr 0 0 ∧ f 4 = .ptr 1 0 ∧ f 6 = .int .i64 ((i : Int) + 1) ∧ 2 ≤ σ.length ∧ σ[0]? = some (.cells x.enc.cells 0 false) ∧ σ[1]? = some (.cells (relR x).enc.cells 0 false) ∧ LX 2 7 σ (GT.encs (argsR x (i + 1))) (f 5)) ?_ _ _ ?_
  · rintro i f σ hi ⟨h1, h4, h6, hN, h0, hd, hL⟩
    by_cases hlt : i + 1 < n
    · have hlt2 : (i : Int) + 1 < (n : Int) := by omega
      have hb4 : 0 ≤ (i : Int) + 1 ∧ (i : Int) + 1 < 4 := by omega
      have hw : IntKind.i64.wrap ((i : Int) + 1 + 1) = (i : Int) + 1 + 1 := wr64 (by omega) (by omega)
      have hk := GRaw.at_ok hx (i + 1)
      have hpp := pick6_12 _ hk
      have hx0 := raw_at x (i + 1) (by omega)
      have hsucc : argsR x (i + 1 + 1) = argsR x (i + 1) ++ [argR (x.at' (i + 1))] := by
        unfold argsR; rw [List.range_succ, List.map_append]; simp
      have hal := argsR_len x (i + 1)
      rw [hsucc]
      generalize argsR x (i + 1) = es at *
      generalize x.at' (i + 1) = m at *
      have hq : GV.i64ok (m.tdiv 12) := tdiv_ok hk 12 (by omega)
      have hwm : IntKind.i64.wrap (m.tdiv 12) = m.tdiv 12 := wr64 hq.1 hq.2
      have hel : (GT.encs es).length ≤ 1000000000 := by simp; omega
      by_cases c9 : pickN m 12 = 9
      · have h2 := pick6_4 (m.tdiv 12) hq
        have hnu := callNum6
        rw [c9] at hpp
        have ea : argR m = numT (pickN (m.tdiv 12) 4) := by simp [argR, c9]
        rw [ea]
        simp [h1, h4, h6, h0, hd, ← a3, hn, hlt2, hb4, hx0, hpp, h2, hnu, hwm, mk, setRun, -appendA_ag]
        refine stW_app1 (N := 2) hL rfl rfl (by omega) (by omega) hN hel fun x' σ' hL' hlen' hk' => ?_
        simp [h1, h4, h6, hw, hk', h0, hd]
        exact ⟨by omega, by omega, a3.symm, LX.snocT _ hL'⟩
      · by_cases c10 : pickN m 12 = 10
        · have h2 := pick6_3 (m.tdiv 12) hq
          have hl3 := pickN_lt (c := m.tdiv 12) (n := 3) (by omega)
          have hl3' : (pickN (m.tdiv 12) 3 : Int) < 3 := by omega
          rw [c10] at hpp
          have ea : argR m = addrT (pickN (m.tdiv 12) 3) := by simp [argR, c9, c10]
          have hget : window [AV.str ⟨#[97]⟩, .str ⟨#[98]⟩, .str ⟨#[99]⟩] (pickN (m.tdiv 12) 3) 1 = some [.str (addrN (pickN (m.tdiv 12) 3))] := by
            generalize pickN (m.tdiv 12) 3 = q at *
            match q, hl3 with
            | 0, _ => rfl
            | 1, _ => rfl
            | 2, _ => rfl
          rw [ea]
          simp [h1, h4, h6, h0, hd, ← a3, hn, hlt2, hb4, hx0, hpp, h2, hwm, mk, setRun, hl3', hget, -appendA_ag]
          refine stW_app2 (N := 2) hL rfl rfl (by omega) (by omega) hN hel fun x' σ' hL' hlen' hk' => ?_
          simp [h1, h4, h6, hw, hk', h0, hd]
          exact ⟨by omega, by omega, a3.symm, LX.snocT _ hL'⟩
        · by_cases c11 : pickN m 12 = 11
          · rw [c11] at hpp
            have ea : argR m = opT ⟨#[43]⟩ (vT (m.tdiv 12)) (numT 1) := by simp [argR, c9, c10, c11, sumT, vT_n, opT]
            have hvv := callV6 _ hq
            have hnu := callNum6 1
            rw [ea]
            simp [h1, h4, h6, h0, hd, ← a3, hn, hlt2, hb4, hx0, hpp, hvv, hnu, hwm, mk, setRun, -appendA_ag]
            refine stW_appX (N := 2) (closeX_op ⟨#[43]⟩ (vT (m.tdiv 12)) (numT 1)) (by rw [List.getElem?_append_right (by omega), Nat.add_sub_cancel_left]; rfl) rfl rfl (by omega) (by omega) hL (fun i hi => List.getElem?_append_left hi) (by omega) hN hel fun x' σ' hL' hlen' hk' => ?_
            simp at hlen'
            simp [h1, h4, h6, hw, hk', h0, hd]
            exact ⟨by omega, by omega, a3.symm, LX.snocT _ hL'⟩
          · have ea : argR m = vT m := by simp [argR, c9, c10, c11]
            have hvv := callV6 m hk
            rw [ea]
            have n9 : ¬ (pickN m 12 : Int) = 9 := by omega
            have n10 : ¬ (pickN m 12 : Int) = 10 := by omega
            have n11 : ¬ (pickN m 12 : Int) = 11 := by omega
            simp [h1, h4, h6, h0, hd, ← a3, hn, hlt2, hb4, hx0, hpp, hvv, mk, setRun, n9, n10, n11, -appendA_ag]
            refine stW_app1 (N := 2) hL rfl rfl (by omega) (by omega) hN hel fun x' σ' hL' hlen' hk' => ?_
            simp [h1, h4, h6, hw, hk', h0, hd]
            exact ⟨by omega, by omega, a3.symm, LX.snocT _ hL'⟩
    · have he : i + 1 = n := by omega
      subst he
      obtain ⟨σ', hcl, _⟩ := hL.closeA
      have hlt2 : ¬ (i : Int) + 1 < ((i + 1 : Nat) : Int) := by omega
      simp [h1, h4, h6, h0, hd, ← a3, hn, hlt2, hcl]
  · simp
    refine .inr (.inl ⟨2, _, 0, rfl, by omega, by simp; rfl, rfl, rfl, ?_⟩)
    simp [AV.nrm, argsR_succ]
    rw [GT.enc_eq]
end Go.Proofs.Ytpgakkhfjjhpdaa
end
section
set_option maxRecDepth 100000
namespace Go.Proofs.Ytpgakkhfjjhpdaa
open Go.Mach
theorem rel_link (x : GRaw) : (relR x).name = ⟨#[108, 105, 110, 107]⟩ ↔ pickN x.name 6 = 0 := by
  obtain ⟨n, hn, e1, e⟩ := rel_cases x
  rw [e, e1]
  match n, hn with
  | 0, _ => decide
  | 1, _ => decide
  | 2, _ => decide
  | 3, _ => decide
  | 4, _ => decide
  | 5, _ => decide
abbrev cV (t : GV) : List AV := [.int .i64 t.kind, .int .i64 t.num, .str t.text, .isl (GV.encs t.items) false]
theorem addr_get (q : Nat) (h : q < 4) : window [AV.str ⟨#[97]⟩, .str ⟨#[98]⟩, .str ⟨#[99]⟩, .str ⟨#[100]⟩] q 1 = some [.str (addrN q)] := by
  match q, h with
  | 0, _ => rfl
  | 1, _ => rfl
  | 2, _ => rfl
  | 3, _ => rfl
theorem fact_ok (x : GRaw) (hx : x.ok) : pureT T c17 [x.enc] = some (factR x).enc := by
  have hp := pick6_6 x.name hx.2.1
  have hr := rels_get x
  obtain ⟨a1, a2, a3⟩ := rel_arity x
  have hlt := pickN_lt (c := x.name) (n := 6) (by omega)
  have hlt' : (pickN x.name 6 : Int) < 6 := by omega
  have hl6 : relsD.length = 6 := rfl
  have hlink := rel_link x
  unfold factR
  generalize hn : (relR x).arity.toNat = n at *
  apply pure_enter (by simp [c17])
  simp [c17, callRelations6, setRun, hp, hr]
  refine W_for T 0 68 n (fun i f σ => f 1 = .ptr 0 0 ∧ f 2 = .ptr 1 0 ∧ f 3 = .ptr 2 0 ∧ f 4 = .ptr 3 0 ∧ f 5 = .int .i64 (i : Int) ∧ 4 ≤ σ.length ∧ σ[0]? = some (.cells x.enc.cells 0 false) ∧ (∃ a b, σ[1]? = some (.cells [a, b] 0 false)) ∧ σ[2]? = some (.cells (relR x).enc.cells 0 false) ∧ ∃ l, σ[3]? = some (.cells [.str (relR x).name, l] 0 false) ∧ LX 4 4 σ (GV.encs ((List.range i).map (fargR x))) l) ?_ _ _ ?_
  · rintro i f σ hi ⟨h1, h2, h3, h4, h5, hN, h0, ho, hd, l, hl3, hL⟩
    by_cases hlt : i < n
    · have hlt2 : (i : Int) < (n : Int) := by omega
      have hb4 : 0 ≤ (i : Int) ∧ (i : Int) < 4 := by omega
      have hw : IntKind.i64.wrap ((i : Int) + 1) = (i : Int) + 1 := wr64 (by omega) (by omega)
      have hk := GRaw.at_ok hx i
      have hx0 := raw_at x i (by omega)
      have hsucc : (List.range (i + 1)).map (fargR x) = (List.range i).map (fargR x) ++ [fargR x i] := by
        rw [List.range_succ, List.map_append]; rfl
      have hal : ((List.range i).map (fargR x)).length = i := by simp
      have hf : fargR x i = if i = 0 ∨ i = 1 ∧ (pickN x.name 6 = 0 ∨ pickN (x.at' i) 2 = 0) then addrV (pickN ((x.at' i).tdiv 2) 4) else numV (pickN ((x.at' i).tdiv 2) 5) := rfl
      rw [hsucc, hf]
      generalize (List.range i).map (fargR x) = es at *
      generalize x.at' i = m at *
      have hq : GV.i64ok (m.tdiv 2) := tdiv_ok hk 2 (by omega)
      have hwm : IntKind.i64.wrap (m.tdiv 2) = m.tdiv 2 := wr64 hq.1 hq.2
      have hel : (GV.encs es).length ≤ 1000000000 := by simp; omega
      have p2 := pick6_2 m hk
      have p4 := pick6_4 _ hq
      have p5 := pick6_5 _ hq
      have q4 := pickN_lt (c := m.tdiv 2) (n := 4) (by omega)
      have q4' : (pickN (m.tdiv 2) 4 : Int) < 4 := by omega
      have hget := addr_get _ q4
      have w1 : IntKind.i64.wrap 1 = 1 := by decide
      have w2 : IntKind.i64.wrap 2 = 2 := by decide
      have fin : ∀ (v : GV) (σ' : Heap) x' (es' : List AV), es' = GV.encs (es ++ [v]) → LX 4 4 σ' es' x' → σ.length + 1 ≤ σ'.length → (∀ i, i < 4 → σ'[i]? = σ[i]?) →
          4 ≤ σ'.length ∧ (∃ a b, σ[1]? = some (AObj.cells [a, b] 0 false)) ∧ (relR x).arity = (n : Int) ∧ ∃ l, (List.set σ' 3 (AObj.cells [AV.str (relR x).name, x'] 0 false))[3]? = some (AObj.cells [AV.str (relR x).name, l] 0 false) ∧
            LX 4 4 (List.set σ' 3 (AObj.cells [AV.str (relR x).name, x'] 0 false)) (GV.encs (es ++ [v])) l := fun v σ' x' es' he hL' hl' hk' => by
        subst he
        exact ⟨by omega, ho, a3.symm, x', list_set_at (by omega), hL'.keep fun i o hi ho => by rw [List.getElem?_set_ne (by omega)]; exact ho⟩
      have h02 : ∀ o (h : 0 < (σ ++ [o]).length), (σ ++ [o])[0]'h = .cells [.int .i64 x.kind, .int .i64 x.name, .int .i64 x.n0, .int .i64 x.n1, .int .i64 x.n2, .int .i64 x.n3] 0 false := fun o h => Option.some_inj.1 ((List.getElem?_eq_getElem h).symm.trans (by rw [List.getElem?_append_left (by omega)]; exact h0))
      by_cases c0 : i = 0
      · subst c0
        simp at hlt2
        simp [h1, h2, h3, h4, h5, h0, hd, ← a3, hn, hlt2, hx0, h02, p4, hwm, mk, setRun, hl3, q4', hget, -appendA_ag]
        refine stW_app2 (N := 4) hL rfl rfl (by omega) (by omega) hN hel fun x' σ' hL' hlen' hk' => ?_
        simp [h1, h2, h3, h4, h5, hw, hk', h0, hd, hl3, hL'.solid, hL'.cells, setRun, w1, w2]
        first | exact fin (addrV (pickN (m.tdiv 2) 4)) σ' x' _ (by rw [← encs_snoc, GV.enc_eq]; rfl) hL' (by omega) hk' | exact ⟨by omega, fin (addrV (pickN (m.tdiv 2) 4)) σ' x' _ (by rw [← encs_snoc, GV.enc_eq]; rfl) hL' (by omega) hk'⟩
      · by_cases c1 : i = 1
        · subst c1
          by_cases cl : pickN x.name 6 = 0
          · have hln := eq_true (hlink.2 cl)
            simp at hlt2
            simp [h1, h2, h3, h4, h5, h0, hd, ← a3, hn, hlt2, hx0, h02, p4, hwm, mk, setRun, hl3, q4', hget, hln, cl, -appendA_ag]
            refine stW_app2 (N := 4) hL rfl rfl (by omega) (by omega) hN hel fun x' σ' hL' hlen' hk' => ?_
            simp [h1, h2, h3, h4, h5, hw, hk', h0, hd, hl3, hL'.solid, hL'.cells, setRun, w1, w2]
            first | exact fin (addrV (pickN (m.tdiv 2) 4)) σ' x' _ (by rw [← encs_snoc, GV.enc_eq]; rfl) hL' (by omega) hk' | exact ⟨by omega, fin (addrV (pickN (m.tdiv 2) 4)) σ' x' _ (by rw [← encs_snoc, GV.enc_eq]; rfl) hL' (by omega) hk'⟩
          · have hln : ¬ (relR x).name = ⟨#[108, 105, 110, 107]⟩ := fun h => cl (hlink.1 h)
            by_cases c2 : pickN m 2 = 0
            · rw [c2] at p2
              simp at hlt2
              simp [h1, h2, h3, h4, h5, h0, hd, ← a3, hn, hlt2, hx0, h02, p4, p2, hwm, mk, setRun, hl3, q4', hget, hln, cl, c2, -appendA_ag]
              refine stW_app2 (N := 4) hL rfl rfl (by omega) (by omega) hN hel fun x' σ' hL' hlen' hk' => ?_
              simp [h1, h2, h3, h4, h5, hw, hk', h0, hd, hl3, hL'.solid, hL'.cells, setRun, w1, w2]
              first | exact fin (addrV (pickN (m.tdiv 2) 4)) σ' x' _ (by rw [← encs_snoc, GV.enc_eq]; rfl) hL' (by omega) hk' | exact ⟨by omega, fin (addrV (pickN (m.tdiv 2) 4)) σ' x' _ (by rw [← encs_snoc, GV.enc_eq]; rfl) hL' (by omega) hk'⟩
            · have c2' : ¬ (pickN m 2 : Int) = 0 := by omega
              simp at hlt2
              simp [h1, h2, h3, h4, h5, h0, hd, ← a3, hn, hlt2, hx0, p5, p2, hwm, mk, setRun, hl3, hln, cl, c2, c2', -appendA_ag]
              refine stW_app1 (N := 4) hL rfl rfl (by omega) (by omega) hN hel fun x' σ' hL' hlen' hk' => ?_
              simp [h1, h2, h3, h4, h5, hw, hk', h0, hd, hl3, hL'.solid, hL'.cells, setRun, w1, w2]
              first | exact fin (numV (pickN (m.tdiv 2) 5)) σ' x' _ (by rw [← encs_snoc, GV.enc_eq]; rfl) hL' (by omega) hk' | exact ⟨by omega, fin (numV (pickN (m.tdiv 2) 5)) σ' x' _ (by rw [← encs_snoc, GV.enc_eq]; rfl) hL' (by omega) hk'⟩
        · have c0' : ¬ (i : Int) = 0 := by omega
          have c1' : ¬ (i : Int) = 1 := by omega
          simp [h1, h2, h3, h4, h5, h0, hd, ← a3, hn, hlt2, hb4, hx0, p5, hwm, mk, setRun, hl3, c0, c1, c1', -appendA_ag]
          refine stW_app1 (N := 4) hL rfl rfl (by omega) (by omega) hN hel fun x' σ' hL' hlen' hk' => ?_
          simp [h1, h2, h3, h4, h5, hw, hk', h0, hd, hl3, hL'.solid, hL'.cells, setRun, w1, w2]
          first | exact fin (numV (pickN (m.tdiv 2) 5)) σ' x' _ (by rw [← encs_snoc, GV.enc_eq]; rfl) hL' (by omega) hk' | exact ⟨by omega, fin (numV (pickN (m.tdiv 2) 5)) σ' x' _ (by rw [← encs_snoc, GV.enc_eq]; rfl) hL' (by omega) hk'⟩
    · have he : i = n := by omega
      subst he
      obtain ⟨a, b, ho⟩ := ho
      obtain ⟨σ', hcl, _⟩ := (hL.keep (τ := σ.set 1 (.cells [.str (relR x).name, l] 0 false)) fun i o hi ho => by rw [List.getElem?_set_ne (by omega)]; exact ho).close
      have hcl1 := close1_of0 hcl
      have hlt2 : ¬ (i : Int) < (i : Int) := by omega
      have hs1 : (σ.set 1 (.cells [.str (relR x).name, l] 0 false))[1]? = some (.cells [.str (relR x).name, l] 0 false) := list_set_at (by omega)
      simp [h1, h2, h3, h4, h5, h0, hd, ← a3, hn, hlt2, hl3, ho, hs1, hcl1, GU.enc_eq]
  · simp
    exact .inl ⟨rfl, rfl⟩
theorem callFact6 (x : GRaw) (hx : x.ok) (bs : Nat) (σ : Heap) : callT T 17 [x.enc] bs σ = some ((factR x).enc, σ) := call_clean rfl rfl rfl (by simp) (fact_ok x hx)
theorem callAtom6 (x : GRaw) (hx : x.ok) (bs : Nat) (σ : Heap) : callT T 25 [x.enc] bs σ = some (.tup [.str (relR x).name, .isl (GT.encs (atomR x)) false], σ) := call_clean rfl rfl rfl (by simp) (atom_ok x hx)
end Go.Proofs.Ytpgakkhfjjhpdaa
end
section
set_option maxRecDepth 100000
namespace Go.Proofs.Ytpgakkhfjjhpdaa
open Go.Mach
theorem test_get (q : Nat) (h : q < 6) : window [AV.str ⟨#[61, 61]⟩, .str ⟨#[33, 61]⟩, .str ⟨#[60]⟩, .str ⟨#[60, 61]⟩, .str ⟨#[62]⟩, .str ⟨#[62, 61]⟩] q 1 = some [.str (tSix.getD q ⟨#[]⟩)] := by
  match q, h with
  | 0, _ => rfl
  | 1, _ => rfl
  | 2, _ => rfl
  | 3, _ => rfl
  | 4, _ => rfl
  | 5, _ => rfl
theorem two_get (q : Nat) (h : q < 2) : window [AV.str ⟨#[43]⟩, .str ⟨#[45]⟩] q 1 = some [.str (if q = 0 then ⟨#[43]⟩ else ⟨#[45]⟩)] := by
  match q, h with
  | 0, _ => rfl
  | 1, _ => rfl
theorem two_getT (a b : GT) (q : Nat) (h : q < 2) : window (cT a ++ cT b) (q * 7) 7 = some (cT (if q = 0 then a else b)) := by
  match q, h with
  | 0, _ => rfl
  | 1, _ => rfl
theorem close1_two {σ : Heap} {k fz : Nat} {e : Bool} (a b : GT) (h : σ[k]? = some (.cells (cT a ++ cT b) fz e)) : close1 σ (.sl k 0 2 7 true) = some (.isl (GT.encs [a, b]) false, frz σ k 14) := by
  refine close1_of0 ?_
  have hc2 : ¬ (2 : Nat) = 0 := by decide
  have hw : window (cT a ++ cT b) 0 14 = some (cT a ++ cT b) := rfl
  simp only [close0, if_neg hc2, h, Nat.reduceMul, Nat.zero_add, hw, Option.bind_some]
  have h14 : ((cT a ++ cT b).all AV.clo1) = true := rfl
  rw [if_pos h14]
  have hch : chunk 7 true 2 ((cT a ++ cT b).map AV.nrm) = some (GT.encs [a, b]) := by simp [GT.encs, GT.enc_eq a, GT.enc_eq b]
  rw [hch]; rfl
theorem close0_two {σ : Heap} {k fz : Nat} {e : Bool} (a b : GT) (h : σ[k]? = some (.cells (cT a ++ cT b) fz e)) : close0 σ (.sl k 0 2 7 true) = some (.isl (GT.encs [a, b]) false, frz σ k 14) := by
  have hc2 : ¬ (2 : Nat) = 0 := by decide
  have hw : window (cT a ++ cT b) 0 14 = some (cT a ++ cT b) := rfl
  simp only [close0, if_neg hc2, h, Nat.reduceMul, Nat.zero_add, hw, Option.bind_some]
  have h14 : ((cT a ++ cT b).all AV.clo1) = true := rfl
  rw [if_pos h14]
  have hch : chunk 7 true 2 ((cT a ++ cT b).map AV.nrm) = some (GT.encs [a, b]) := by simp [GT.encs, GT.enc_eq a, GT.enc_eq b]
  rw [hch]; rfl
theorem close1_opT {σ : Heap} {k m fz fm : Nat} {e em : Bool} (nm : ByteArray) (a b : GT) (h : σ[k]? = some (.cells (opC nm (.sl m 0 2 7 true)) fz e)) (hm : σ[m]? = some (.cells (cT a ++ cT b) fm em)) (hne : k ≠ m) :
    ∃ σ', close1 σ (.sl k 0 1 7 true) = some (.isl (GT.encs [opT nm a b]) false, σ') := by
  have h2 : close0 σ (.sl k 0 1 7 true) = none := by
    have hc2 : ¬ (1 : Nat) = 0 := by decide
    have hw : window (opC nm (.sl m 0 2 7 true)) 0 7 = some (opC nm (.sl m 0 2 7 true)) := rfl
    simp only [close0, if_neg hc2, h, Nat.one_mul, hw, Option.bind_some]
    rfl
  have hfz : (frz σ k 7)[m]? = some (.cells (cT a ++ cT b) fm em) := by
    simp only [frz, h]; rw [List.getElem?_set_ne hne]; exact hm
  have i1 : ∀ c (σ : Heap) k n, closeUp c σ (AV.int k n) = some (.int k n, σ) := fun _ _ _ _ => rfl
  have s1 : ∀ c (σ : Heap) n, closeUp c σ (AV.str n) = some (.str n, σ) := fun _ _ _ => rfl
  have l1 : ∀ c (σ : Heap) n b, closeUp c σ (AV.isl n b) = some (.isl n false, σ) := fun _ _ _ _ => rfl
  have i0 : ∀ (σ : Heap) k n, close0 σ (AV.int k n) = some (.int k n, σ) := fun _ _ _ => rfl
  have s0 : ∀ (σ : Heap) n, close0 σ (AV.str n) = some (.str n, σ) := fun _ _ => rfl
  have l0 : ∀ (σ : Heap) n b, close0 σ (AV.isl n b) = some (.isl n false, σ) := fun _ _ _ => rfl
  have hw : window (opC nm (.sl m 0 2 7 true)) 0 7 = some (opC nm (.sl m 0 2 7 true)) := rfl
  have hw2 : window (cT a ++ cT b) 0 14 = some (cT a ++ cT b) := rfl
  have hb := close0_two a b hfz
  have hU : ∀ c, (∀ (σ : Heap) n, c σ (AV.str n) = some (.str n, σ)) → (∀ (σ : Heap) k n, c σ (AV.int k n) = some (.int k n, σ)) → (∀ (σ : Heap) n b, c σ (AV.isl n b) = some (.isl n false, σ)) →
      (∃ σ', c (frz σ k 7) (.sl m 0 2 7 true) = some (.isl (GT.encs [a, b]) false, σ')) → ∃ σ', closeUp c σ (.sl k 0 1 7 true) = some (.isl (GT.encs [opT nm a b]) false, σ') := by
    rintro c c1 c2 c3 ⟨σ', c4⟩
    refine ⟨σ', ?_⟩
    simp only [closeUp, h, Nat.one_mul, Nat.zero_add, hw, Option.bind_some, closeLW, c1, c2, c3, c4, Option.map_some]
    simp [AV.clo1, chunk, mk, GT.encs, opT, GT.enc_eq]
  have hlen14 : ((cT a ++ cT b).all AV.clo1) = true := rfl
  have up : ∀ c (τ : Heap) fm em, τ[m]? = some (.cells (cT a ++ cT b) fm em) → (∀ (σ : Heap) n, c σ (AV.str n) = some (.str n, σ)) → (∀ (σ : Heap) k n, c σ (AV.int k n) = some (.int k n, σ)) → (∀ (σ : Heap) n b, c σ (AV.isl n b) = some (.isl n false, σ)) →
      closeUp c τ (.sl m 0 2 7 true) = some (.isl (GT.encs [a, b]) false, frz τ m 14) := by
    intro c τ fm em hτ c1 c2 c3
    have hlw : ∀ τ', closeLW c τ' (cT a ++ cT b) = some (cT a ++ cT b, τ') := fun τ' => by simp [closeLW, c1, c2, c3]
    have hch : chunk 7 true 2 (cT a ++ cT b) = some (GT.encs [a, b]) := by simp [GT.encs, GT.enc_eq a, GT.enc_eq b, chunk, mk]
    simp only [closeUp, hτ, Nat.reduceMul, Nat.zero_add, hw2, Option.bind_some, hlw, hlen14, if_true, hch, Option.map_some]
  unfold close1
  rw [h2]
  exact hU _ (s1 _) (i1 _) (l1 _) ⟨_, up _ _ _ _ hfz (s1 _) (i1 _) (l1 _)⟩
theorem close_ex {σ : Heap} {x y : AV} {F : AV × Heap → Option (AV × Heap)} {r : AV} (h : ∃ σ', close1 σ x = some (y, σ')) (hF : ∀ σ', ∃ z, F (y, σ') = some (r, z)) : ∃ z, (close1 σ x).bind F = some (r, z) := by
  obtain ⟨σ', h⟩ := h
  rw [h]; exact hF σ'
theorem lit6_ok (x : GRaw) (hx : x.ok) : pureT T c26 [x.enc] = some (litR x).enc := by
  have hA := callAtom6 x hx
  have h8 := pick6_8 x.kind hx.1
  have hl8 := pickN_lt (c := x.kind) (n := 8) (by omega)
  unfold litR
  apply pure_enter (by simp [c26])
  by_cases c4 : pickN x.kind 8 < 4
  · have : pickN x.kind 8 = 0 ∨ pickN x.kind 8 = 1 ∨ pickN x.kind 8 = 2 ∨ pickN x.kind 8 = 3 := by omega
    rw [if_pos c4]
    rcases this with h | h | h | h <;> (rw [h] at h8; simp [c26, hA, ← GRaw.enc_eq, h8, setRun, GL.enc_eq])
  · by_cases c5 : pickN x.kind 8 = 4
    · rw [if_neg c4, if_pos c5]
      rw [c5] at h8
      simp [c26, hA, ← GRaw.enc_eq, h8, setRun, GL.enc_eq]
    · by_cases c7 : pickN x.kind 8 < 7
      · rw [if_neg c4, if_neg c5, if_pos c7]
        have p6 := pick6_6 x.name hx.2.1
        have q6 := pickN_lt (c := x.name) (n := 6) (by omega)
        have q6' : (pickN x.name 6 : Int) < 6 := by omega
        have g6 := test_get _ q6
        have v0 := callV6 x.n0 hx.2.2.1
        have v1 := callV6 x.n1 hx.2.2.2.1
        have p4 := pick6_4 x.n2 hx.2.2.2.2.1
        have p2 := pick6_2 x.n3 hx.2.2.2.2.2
        have q2 := pickN_lt (c := x.n3) (n := 2) (by omega)
        have q2' : (pickN x.n3 2 : Int) < 2 := by omega
        have hnu := callNum6 (pickN x.n2 4)
        have hg2 := two_getT (numT (pickN x.n2 4)) (vT x.n1) _ q2
        simp only [cT, List.cons_append, List.nil_append] at hg2
        have : pickN x.kind 8 = 5 ∨ pickN x.kind 8 = 6 := by omega
        rcases this with h | h <;> (rw [h] at h8; simp [c26, hA, ← GRaw.enc_eq, h8, setRun, GL.enc_eq, p6, q6', g6, mk, v0, v1, p4, p2, q2', hnu, hg2]; rw [close1_two (vT x.n0) _ rfl]; simp)
      · rw [if_neg c4, if_neg c5, if_neg c7]
        have h : pickN x.kind 8 = 7 := by omega
        rw [h] at h8
        have v0 := callV6 x.n0 hx.2.2.1
        have v1 := callV6 x.n1 hx.2.2.2.1
        have v2 := callV6 x.n2 hx.2.2.2.2.1
        have p2 := pick6_2 x.n3 hx.2.2.2.2.2
        have hq : GV.i64ok (x.n3.tdiv 2) := tdiv_ok hx.2.2.2.2.2 2 (by omega)
        have hwm : IntKind.i64.wrap (x.n3.tdiv 2) = x.n3.tdiv 2 := wr64 hq.1 hq.2
        have p2b := pick6_2 _ hq
        have q2 := pickN_lt (c := x.n3) (n := 2) (by omega)
        have q2' : (pickN x.n3 2 : Int) < 2 := by omega
        have q3 := pickN_lt (c := x.n3.tdiv 2) (n := 2) (by omega)
        have q3' : (pickN (x.n3.tdiv 2) 2 : Int) < 2 := by omega
        have g2 := two_get _ q2
        have hnu := callNum6 1
        have hfd : fieldV 1 1 false (vT x.n0).enc = some (.str (vName (pickN x.n0 6))) := by rw [GT.enc_eq]; rfl
        have hg2 := two_getT (numT 1) (vT x.n2) _ q3
        simp only [cT, List.cons_append, List.nil_append] at hg2
        simp [c26, hA, ← GRaw.enc_eq, h8, setRun, GL.enc_eq, v0, v1, v2, p2, p2b, hwm, q2', q3', g2, mk, hnu, hg2, hfd]
        refine close_ex (close1_opT (if pickN x.n3 2 = 0 then ⟨#[43]⟩ else ⟨#[45]⟩) (vT x.n1) (if pickN (x.n3.tdiv 2) 2 = 0 then numT 1 else vT x.n2) rfl rfl (by decide)) fun σ' => ?_
        simp [opT]
theorem callLit6 (x : GRaw) (hx : x.ok) (bs : Nat) (σ : Heap) : callT T 26 [x.enc] bs σ = some ((litR x).enc, σ) := call_clean rfl rfl rfl (by simp) (lit6_ok x hx)
end Go.Proofs.Ytpgakkhfjjhpdaa
end
section
set_option maxRecDepth 100000
namespace Go.Proofs.Ytpgakkhfjjhpdaa
open Go.Mach
theorem agg_get (q : Nat) (h : q < 3) : window [AV.str ⟨#[109, 105, 110]⟩, .str ⟨#[109, 97, 120]⟩, .str ⟨#[99, 111, 117, 110, 116]⟩] q 1 = some [.str (aggN q)] := by
  match q, h with
  | 0, _ => rfl
  | 1, _ => rfl
  | 2, _ => rfl
abbrev RT : ACode := sndC (sndC (sndC (sndC (sndC (sndC (sndC c16.body))))))
theorem rule_tail6 (h : GRaw) (hh : h.ok) (lab : ByteArray) (body : List GL) (lst : AV) (f : FR) (σ : Heap) (h4 : f 4 = .ptr 0 0) (h5 : f 5 = .ptr 2 0) (h6 : f 6 = .ptr 3 0) (hN : 4 ≤ σ.length)
    (c0 : ∃ a b c d e g, σ[0]? = some (.cells [a, b, c, d, e, g] 0 false)) (c2 : σ[2]? = some (.cells [.str lab, .str (relR h).name, .isl (GT.encs (atomR h)) false, .str ⟨#[]⟩, .int .i64 0, lst] 0 false))
    (c3 : σ[3]? = some (.cells h.enc.cells 0 false)) (hL : LX 4 3 σ (body.map GL.enc) lst) :
    wpK T 0 88 [.code RT] f σ (endP 88 [.cell 4 6 true] (GR.enc ⟨lab, (relR h).name, atomR h, if aggR h = true then aggN (pickN (h.kind.tdiv 5) 3) else ⟨#[]⟩, if aggR h = true then 1 else 0, body⟩)) := by
  obtain ⟨a, b, c, d, e, g, c0⟩ := c0
  have p5 := pick6_5 h.kind hh.1
  have hq : GV.i64ok (h.kind.tdiv 5) := tdiv_ok hh.1 5 (by omega)
  have hwm : IntKind.i64.wrap (h.kind.tdiv 5) = h.kind.tdiv 5 := wr64 hq.1 hq.2
  have p3 := pick6_3 _ hq
  have q3 := pickN_lt (c := h.kind.tdiv 5) (n := 3) (by omega)
  have q3' : (pickN (h.kind.tdiv 5) 3 : Int) < 3 := by omega
  have g3 := agg_get _ q3
  have hs0 : ∀ o, (σ.set 0 o)[0]? = some o := fun o => list_set_at (by omega)
  have hcl : ∀ o, ∃ σ', close1 (σ.set 0 o) lst = some (.isl (body.map GL.enc) false, σ') := fun o => by
    obtain ⟨σ', h1, _⟩ := (hL.keep (τ := σ.set 0 o) fun i o hi ho => by rw [List.getElem?_set_ne (by omega)]; exact ho).close
    exact ⟨σ', close1_of0 h1⟩
  have ga3 : ∀ o, (σ ++ [o])[3]? = some (.cells [.int .i64 h.kind, .int .i64 h.name, .int .i64 h.n0, .int .i64 h.n1, .int .i64 h.n2, .int .i64 h.n3] 0 false) := fun o => by rw [List.getElem?_append_left (by omega)]; exact c3
  have ga2 : ∀ o, (σ ++ [o])[2]? = some (.cells [.str lab, .str (relR h).name, .isl (GT.encs (atomR h)) false, .str ⟨#[]⟩, .int .i64 0, lst] 0 false) := fun o => by rw [List.getElem?_append_left (by omega)]; exact c2
  have hs2 : ∀ o o', ((σ ++ [o]).set 2 o')[2]? = some o' := fun o o' => list_set_at (by simp; omega)
  have ga0 : ∀ o o' h, ((σ ++ [o]).set 2 o')[0]'h = .cells [a, b, c, d, e, g] 0 false := fun o o' h => Option.some_inj.1 ((List.getElem?_eq_getElem h).symm.trans (by rw [List.getElem?_set_ne (by decide), List.getElem?_append_left (by omega)]; exact c0))
  have ga0' : ∀ o o', ((σ ++ [o]).set 2 o')[0]? = some (.cells [a, b, c, d, e, g] 0 false) := fun o o' => by rw [List.getElem?_set_ne (by decide), List.getElem?_append_left (by omega)]; exact c0
  have hs20 : ∀ o o' o'', (((σ ++ [o]).set 2 o').set 0 o'')[0]? = some o'' := fun o o' o'' => list_set_at (by simp)
  have hcl2 : ∀ o o' o'', ∃ σ', close1 (((σ ++ [o]).set 2 o').set 0 o'') lst = some (.isl (body.map GL.enc) false, σ') := fun o o' o'' => by
    obtain ⟨σ', h1, _⟩ := (hL.keep (τ := ((σ ++ [o]).set 2 o').set 0 o'') fun i q hi ho => by
      rw [List.getElem?_set_ne (by omega), List.getElem?_set_ne (by omega), List.getElem?_append_left (List.getElem?_eq_some_iff.1 ho).1]; exact ho).close
    exact ⟨σ', close1_of0 h1⟩
  by_cases k4 : pickN h.kind 5 = 4
  · rw [k4] at p5
    by_cases k1 : 1 < (atomR h).length
    · have k1' : (1 : Int) < ((atomR h).length : Int) := by omega
      have e1 : (atomR h)[1]? = some (atomR h)[1] := List.getElem?_eq_getElem k1
      by_cases k2 : (atomR h)[1].kind = 1
      · have ha : aggR h = true := by unfold aggR; rw [e1]; simp [k4, k2]
        simp [RT, c16, sndC, h4, h5, h6, c0, c2, c3, p5, k1', k1, e1, k2, hwm, p3, q3', g3, mk, setRun, ha, ga2, ga3, hs2, ga0, ga0', hs20]
        refine close_ex (hcl2 _ _ _) fun σ' => ?_
        simp [GR.enc_eq]
      · have ha : aggR h = false := by unfold aggR; rw [e1]; simp [k4, k2]
        simp [RT, c16, sndC, h4, h5, h6, c0, c2, c3, p5, k1', k1, e1, k2, setRun, ha, hs0]
        refine close_ex (hcl _) fun σ' => ?_
        simp [GR.enc_eq]
    · have k1' : ¬ (1 : Int) < ((atomR h).length : Int) := by omega
      have ha : aggR h = false := by unfold aggR; rw [List.getElem?_eq_none (by omega)]; simp
      simp [RT, c16, sndC, h4, h5, h6, c0, c2, c3, p5, k1', setRun, ha, hs0]
      refine close_ex (hcl _) fun σ' => ?_
      simp [GR.enc_eq]
  · have k4' : ¬ (pickN h.kind 5 : Int) = 4 := by omega
    have ha : aggR h = false := by unfold aggR; simp [k4]
    simp [RT, c16, sndC, h4, h5, h6, c0, c2, c3, p5, k4, k4', setRun, ha, hs0]
    refine close_ex (hcl _) fun σ' => ?_
    simp [GR.enc_eq]
theorem pickN_small (n : Nat) (h : n < 26) : pickN n 26 = n := by
  unfold pickN; rw [if_neg (by omega)]; simp; omega
theorem body_take (l : List GRaw) (h : 1 < l.length) : bodyR l = (((l.take 5).drop 1)).map litR := by
  unfold bodyR; rw [if_neg (by omega)]
abbrev RL : ACode := sndC (sndC (sndC (sndC (sndC c16.body))))
theorem rule_loop6 (l : List GRaw) (hl : ∀ x ∈ l, x.ok) (hlen : l.length ≤ 100000000000) (h : GRaw) (hh : h.ok) (lab : ByteArray) (f : FR) (σ : Heap) (h0 : f 0 = .isl (l.map GRaw.enc) false) (h4 : f 4 = .ptr 0 0) (h5 : f 5 = .ptr 2 0) (h6 : f 6 = .ptr 3 0) (hN : 4 ≤ σ.length)
    (c0 : ∃ a b c d e g, σ[0]? = some (.cells [a, b, c, d, e, g] 0 false)) (c2 : σ[2]? = some (.cells [.str lab, .str (relR h).name, .isl (GT.encs (atomR h)) false, .str ⟨#[]⟩, .int .i64 0, .isl [] true] 0 false))
    (c3 : σ[3]? = some (.cells h.enc.cells 0 false)) :
    wpK T 0 88 [.code RL] f σ (endP 88 [.cell 4 6 true] (GR.enc ⟨lab, (relR h).name, atomR h, if aggR h = true then aggN (pickN (h.kind.tdiv 5) 3) else ⟨#[]⟩, if aggR h = true then 1 else 0, bodyR l⟩)) := by
  have tail := rule_tail6 h hh lab (bodyR l)
  have hL0 : ∀ bs σ, callT T 26 [.agg [.int .i64 0, .int .i64 0, .int .i64 0, .int .i64 0, .int .i64 0, .int .i64 0]] bs σ = some ((litR .zero).enc, σ) := callLit6 .zero GRaw.zero_ok
  have hb : RL = .seq (fstC RL) (.seq (fstC (sndC RL)) RT) := rfl
  rw [hb]
  generalize RT = K at tail
  generalize GR.enc ⟨lab, (relR h).name, atomR h, if aggR h = true then aggN (pickN (h.kind.tdiv 5) 3) else ⟨#[]⟩, if aggR h = true then 1 else 0, bodyR l⟩ = res at *
  have fin : ∀ (v : GL) (es : List GL) (σ σ' : Heap) x' (es' : List AV), es' = (es ++ [v]).map GL.enc → LX 4 3 σ' es' x' → 4 ≤ σ.length → σ.length + 1 ≤ σ'.length → (∀ i, i < 4 → σ'[i]? = σ[i]?) → ∀ o, LX 4 3 (σ'.set 2 o) ((es ++ [v]).map GL.enc) x' := fun v es σ σ' x' es' he hL' h4 hl' hk' o => by
    subst he
    exact hL'.keep fun i o hi ho => by rw [List.getElem?_set_ne (by omega)]; exact ho
  simp [RL, c16, sndC, fstC]
  refine W_for T 0 88 (min l.length 5 - 1) (fun i f σ => f 0 = .isl (l.map GRaw.enc) false ∧ f 4 = .ptr 0 0 ∧ f 5 = .ptr 2 0 ∧ f 6 = .ptr 3 0 ∧ f 7 = .int .i64 ((i : Int) + 1) ∧ 4 ≤ σ.length ∧ (∃ a b c d e g, σ[0]? = some (.cells [a, b, c, d, e, g] 0 false)) ∧
    σ[3]? = some (.cells h.enc.cells 0 false) ∧ ∃ lst, σ[2]? = some (.cells [.str lab, .str (relR h).name, .isl (GT.encs (atomR h)) false, .str ⟨#[]⟩, .int .i64 0, lst] 0 false) ∧ LX 4 3 σ (((((l.take 5).drop 1).take i).map litR).map GL.enc) lst) ?_ _ _ ?_
  · rintro i f σ hi ⟨h0, h4, h5, h6, h7, hN, c0, c3, lst, c2, hL⟩
    by_cases hlt : i + 1 < min l.length 5
    · have hlt1 : i + 1 < l.length := by omega
      have hlt2 : (i : Int) + 1 < (l.length : Int) := by omega
      have hlt3 : (i : Int) + 1 < 5 := by omega
      have h0i : 0 ≤ (i : Int) + 1 := by omega
      have hw : IntKind.i64.wrap ((i : Int) + 1 + 1) = (i : Int) + 1 + 1 := wr64 (by omega) (by omega)
      have e1 : l[i + 1]? = some l[i + 1] := List.getElem?_eq_getElem hlt1
      have hc := callLit6 l[i + 1] (hl _ (List.getElem_mem hlt1))
      have htk : (((l.take 5).drop 1).take (i + 1)).map litR = (((l.take 5).drop 1).take i).map litR ++ [litR l[i + 1]] := by
        have hd : i < ((l.take 5).drop 1).length := by simp; omega
        rw [List.take_succ_eq_append_getElem hd, List.map_append]
        have : ((l.take 5).drop 1)[i] = l[i + 1] := by simp [Nat.add_comm]
        rw [this]; rfl
      have hal : ((((l.take 5).drop 1).take i).map litR).length ≤ 5 := by simp; omega
      rw [htk]
      generalize (((l.take 5).drop 1).take i).map litR = es at *
      simp [h0, h4, h5, h6, h7, hlt2, hlt3, hlt1, h0i, c2, e1, hc, ← GRaw.enc_eq, setRun, -appendA_ag]
      refine stW_app1 (N := 4) hL rfl rfl (by omega) (by omega) hN (by simp; omega) fun x' σ' hL' hlen' hk' => ?_
      simp [h0, h4, h5, h6, h7, hw, hk', c0, c3, c2, hL'.solid, hL'.cells, setRun]
      refine ⟨by omega, by omega, x', list_set_at (by omega), ?_⟩
      have := fin (litR l[i + 1]) es σ σ' x' _ (by rw [List.map_append]; rfl) hL' hN (by omega) hk' (.cells [.str lab, .str (relR h).name, .isl (GT.encs (atomR h)) false, .str ⟨#[]⟩, .int .i64 0, x'] 0 false)
      rwa [List.map_append] at this
    · have he : i = min l.length 5 - 1 := by omega
      have htk : ((l.take 5).drop 1).take i = (l.take 5).drop 1 := List.take_of_length_le (by simp; omega)
      rw [htk] at hL
      by_cases hl1 : l.length ≤ 1
      · have hnil : (l.take 5).drop 1 = [] := List.drop_eq_nil_of_le (by simp; omega)
        have hbd : bodyR l = [litR .zero] := by unfold bodyR; rw [if_pos hl1]
        rw [hnil] at hL
        have hlt2 : ¬ ((i : Int) + 1 < (l.length : Int)) := by omega
        have hlv := hL.len
        simp [h0, h4, h5, h6, h7, hlt2, c2, hlv, hL0, setRun, -appendA_ag]
        refine stW_app1 (N := 4) hL rfl rfl (by omega) (by omega) hN (by simp) fun x' σ' hL' hlen' hk' => ?_
        obtain ⟨a, b, c, d, e, g, c0⟩ := c0
        simp [h0, h4, h5, h6, h7, hk', c0, c3, c2, hL'.solid, hL'.cells, setRun]
        refine tail x' _ _ (by simp [h4]) (by simp [h5]) (by simp [h6]) (by simp; omega) ⟨a, b, c, d, e, g, by rw [List.getElem?_set_ne (by decide), hk' 0 (by omega)]; exact c0⟩ (list_set_at (by omega)) (by rw [List.getElem?_set_ne (by decide), hk' 3 (by omega)]; exact c3) ?_
        rw [hbd]
        exact fin (litR .zero) [] σ σ' x' _ rfl hL' hN (by omega) hk' _
      · have hbd := body_take l (by omega)
        rw [← hbd] at hL
        have hbl := bodyR_len l
        have hlv := hL.len
        have hne : ¬ ((bodyR l).length : Int) = 0 := by omega
        have hne2 : ¬ bodyR l = [] := fun e => by rw [e] at hbl; simp at hbl
        by_cases h5l : (i : Int) + 1 < (l.length : Int)
        · have hlt3 : ¬ (i : Int) + 1 < 5 := by omega
          simp [h0, h4, h5, h6, h7, h5l, hlt3, c2, hlv, hne, hne2]
          exact tail lst _ σ (by simp [h4]) (by simp [h5]) (by simp [h6]) hN c0 c2 c3 hL
        · simp [h0, h4, h5, h6, h7, h5l, c2, hlv, hne, hne2]
          exact tail lst _ σ (by simp [h4]) (by simp [h5]) (by simp [h6]) hN c0 c2 c3 hL
  · simp [h0, h4, h5, h6, c2, c3, hN, c0]
    exact .inl ⟨rfl, rfl⟩
theorem rule6_ok (l : List GRaw) (hl : ∀ x ∈ l, x.ok) (hlen : l.length ≤ 100000000000) (n : Nat) (hn : n < 26) : pureT T c16 [.isl (l.map GRaw.enc) false, .int .i64 (n : Int)] = some (ruleR l n).enc := by
  have hp := pick6_26 (n : Int) (by unfold GV.i64ok; omega)
  rw [pickN_small n hn] at hp
  have hho : (headR l).ok := by
    cases l with
    | nil => exact GRaw.zero_ok
    | cons x l => exact hl x (by simp)
  have loop := rule_loop6 l hl hlen (headR l) hho (⟨#[114]⟩ ++ ⟨#[UInt8.ofNat (97 + n)]⟩)
  have hw97 : IntKind.i64.wrap (97 + (n : Int)) = 97 + (n : Int) := wr64 (by omega) (by omega)
  have hu8 : IntKind.u8.wrap (97 + (n : Int)) = 97 + (n : Int) := wru8 (by omega) (by omega)
  have hb2 : ∀ o : AObj, b2sV [o, .cells [.int .u8 (97 + (n : Int))] 0 false] (.sl 1 0 1 1 false) = some (.str ⟨#[UInt8.ofNat (97 + n)]⟩) := fun o =>
    b2s_bv (l := [UInt8.ofNat (97 + n)]) (fz := 0) (ext := false) (by simp [bv]; omega) (by simp)
  have hs1 : (⟨#[114]⟩ : ByteArray).size = 1 := rfl
  have hs2 : (⟨#[UInt8.ofNat (97 + n)]⟩ : ByteArray).size = 1 := rfl
  unfold ruleR
  generalize UInt8.ofNat (97 + n) = lb at *
  apply pure_enter (by simp [c16])
  show wpK T 0 88 [.code c16.body] _ [] (endP 88 [.cell 4 6 true] _)
  have hb : c16.body = .seq (fstC c16.body) (.seq (fstC (sndC c16.body)) (.seq (fstC (sndC (sndC c16.body))) (.seq (fstC (sndC (sndC (sndC c16.body)))) (.seq (fstC (sndC (sndC (sndC (sndC c16.body))))) RL)))) := rfl
  rw [hb]
  generalize RL = K at loop
  cases l with
  | nil =>
    have hA : ∀ bs σ, callT T 25 [.agg [.int .i64 0, .int .i64 0, .int .i64 0, .int .i64 0, .int .i64 0, .int .i64 0]] bs σ = some (.tup [.str (relR .zero).name, .isl (GT.encs (atomR .zero)) false], σ) := callAtom6 .zero GRaw.zero_ok
    simp [c16, sndC, fstC, hp, hw97, hu8, setRun, hb2, hs1, hs2, hA]
    refine loop _ _ (by simp) (by simp) (by simp) (by simp) (by simp) ⟨_, _, _, _, _, _, rfl⟩ (by simp [headR]) (by simp [headR, GRaw.zero])
  | cons x l =>
    have hA := callAtom6 x (hl x (by simp))
    simp [c16, sndC, fstC, hp, hw97, hu8, setRun, hb2, hs1, hs2, hA, ← GRaw.enc_eq]
    refine loop _ _ (by simp) (by simp) (by simp) (by simp) (by simp) ⟨_, _, _, _, _, _, rfl⟩ (by simp [headR]) (by simp [headR, GRaw.zero])
theorem callRule6R (l : List GRaw) (hl : ∀ x ∈ l, x.ok) (hlen : l.length ≤ 100000000000) (n : Nat) (hn : n < 26) (bs : Nat) (σ : Heap) : callT T 16 [.isl (l.map GRaw.enc) false, .int .i64 (n : Int)] bs σ = some ((ruleR l n).enc, σ) := call_clean rfl rfl rfl (by simp) (rule6_ok l hl hlen n hn)
end Go.Proofs.Ytpgakkhfjjhpdaa
end
section
set_option maxRecDepth 100000
namespace Go.Proofs.Ytpgakkhfjjhpdaa
open Go.Mach
abbrev PF : ACode := sndC (sndC (sndC c8.body))
theorem prog_facts (rs : List GR) (facts : List GRaw) (hf : ∀ x ∈ facts, x.ok) (hlen : facts.length ≤ 100000000000) (lst : AV) (f : FR) (σ : Heap) (h1 : f 1 = .isl (facts.map GRaw.enc) false) (h4 : f 4 = .ptr 0 0) (h5 : f 5 = .ptr 1 0) (hN : 2 ≤ σ.length)
    (c0 : ∃ a b c, σ[0]? = some (.cells [a, b, c] 0 false)) (c1 : σ[1]? = some (.cells [.isl (relsD.map GD.enc) false, .isl [] true, lst] 0 false)) (hL : LX 2 6 σ (rs.map GR.enc) lst) :
    wpK T 0 52 [.code PF] f σ (endP 52 [.cell 4 3 true] (GP.enc ⟨relsD, (facts.take 12).map factR, rs⟩)) := by
  simp [PF, c8, sndC]
  refine W_for T 0 52 (min facts.length 12) (fun i f σ => f 1 = .isl (facts.map GRaw.enc) false ∧ f 4 = .ptr 0 0 ∧ f 5 = .ptr 1 0 ∧ f 7 = .int .i64 (i : Int) ∧ 2 ≤ σ.length ∧ (∃ a b c, σ[0]? = some (.cells [a, b, c] 0 false)) ∧
    ∃ ls, σ[1]? = some (.cells [.isl (relsD.map GD.enc) false, ls, lst] 0 false) ∧ LX 2 6 σ (rs.map GR.enc) lst ∧ LX 2 2 σ (((facts.take i).map factR).map GU.enc) ls) ?_ _ _ ?_
  · rintro i f σ hi ⟨h1, h4, h5, h7, hN, ⟨a, b, c, c0⟩, ls, c1, hL, hM⟩
    by_cases hlt : i < min facts.length 12
    · have hlt1 : i < facts.length := by omega
      have hlt2 : (i : Int) < (facts.length : Int) := by omega
      have hlt3 : (i : Int) < 12 := by omega
      have hw : IntKind.i64.wrap ((i : Int) + 1) = (i : Int) + 1 := wr64 (by omega) (by omega)
      have e1 : facts[i]? = some facts[i] := List.getElem?_eq_getElem hlt1
      have hc := callFact6 facts[i] (hf _ (List.getElem_mem hlt1))
      have htk : (facts.take (i + 1)).map factR = (facts.take i).map factR ++ [factR facts[i]] := by
        rw [List.take_succ_eq_append_getElem hlt1, List.map_append]; rfl
      have hal : ((facts.take i).map factR).length ≤ 12 := by simp; omega
      rw [htk]
      generalize (facts.take i).map factR = es at *
      simp [h1, h4, h5, h7, hlt2, hlt3, hlt1, c1, e1, hc, ← GRaw.enc_eq, setRun, -appendA_ag]
      refine stW_app1K (N := 2) hM rfl rfl (by omega) (by omega) hN (by simp; omega) fun x' σ' hL' hlen' hk' hoth => ?_
      have hL2 := hoth 6 _ _ (by decide) hL
      simp [h1, h4, h5, h7, hw, hk', c0, c1, hL'.solid, hL'.cells, setRun]
      have kp : ∀ {sz es y} o, LX 2 sz σ' es y → LX 2 sz (σ'.set 1 o) es y := fun o h => h.keep fun i q hi ho => by rw [List.getElem?_set_ne (by omega)]; exact ho
      refine ⟨by omega, by omega, x', list_set_at (by omega), kp _ hL2, ?_⟩
      have := kp (.cells [.isl (relsD.map GD.enc) false, x', lst] 0 false) hL'
      exact this
    · have he : i = min facts.length 12 := by omega
      have htk : facts.take i = facts.take 12 := by
        by_cases h : facts.length ≤ 12
        · rw [List.take_of_length_le (by omega), List.take_of_length_le h]
        · have : i = 12 := by omega
          rw [this]
      rw [htk] at hM
      have hs0 : ∀ o, (σ.set 0 o)[0]? = some o := fun o => list_set_at (by omega)
      have kp : ∀ {sz es y} o, LX 2 sz σ es y → LX 2 sz (σ.set 0 o) es y := fun o h => h.keep fun i q hi ho => by rw [List.getElem?_set_ne (by omega)]; exact ho
      have hcl : ∀ o, ∃ σ', close1 (σ.set 0 o) ls = some (.isl (((facts.take 12).map factR).map GU.enc) false, σ') ∧ ∃ σ'', close1 σ' lst = some (.isl (rs.map GR.enc) false, σ'') := fun o => by
        obtain ⟨σ1, k1, _, _, k3⟩ := (kp o hM).close
        obtain ⟨σ2, k4, _⟩ := (k3 _ _ _ _ (kp o hL)).close
        exact ⟨σ1, close1_of0 k1, σ2, close1_of0 k4⟩
      have ht12 : List.take 12 (List.map factR facts) = (facts.take 12).map factR := by rw [List.map_take]
      by_cases h12 : (i : Int) < (facts.length : Int)
      · have hlt3 : ¬ (i : Int) < 12 := by omega
        simp [h1, h4, h5, h7, h12, hlt3, c1, c0, hs0]
        obtain ⟨σ1, k1, σ2, k2⟩ := hcl (AObj.cells [AV.isl (List.map GD.enc relsD) false, ls, lst] 0 false)
        simp [k1, k2, GP.enc_eq]
      · simp [h1, h4, h5, h7, h12, c1, c0, hs0]
        obtain ⟨σ1, k1, σ2, k2⟩ := hcl (AObj.cells [AV.isl (List.map GD.enc relsD) false, ls, lst] 0 false)
        simp [k1, k2, GP.enc_eq]
  · simp [h1, h4, h5, c1, hN, c0, hL]
    exact .inl ⟨rfl, rfl⟩
theorem rulesR_snoc (rules : List (List GRaw)) (i : Nat) (h : i < rules.length) : ((rules.take (i + 1)).zipIdx).map (fun p => ruleR p.1 p.2) = ((rules.take i).zipIdx).map (fun p => ruleR p.1 p.2) ++ [ruleR rules[i] i] := by
  rw [List.take_succ_eq_append_getElem h, List.zipIdx_append, List.map_append]
  have : (rules.take i).length = i := by simp; omega
  simp [this]
theorem prog6_ok (rules : List (List GRaw)) (facts : List GRaw) (hr : ∀ l ∈ rules, (∀ x ∈ l, x.ok) ∧ l.length ≤ 100000000000) (hrl : rules.length ≤ 100000000000) (hf : ∀ x ∈ facts, x.ok) (hlen : facts.length ≤ 100000000000) :
    pureT T c8 [.isl (encRR rules) false, .isl (facts.map GRaw.enc) false] = some (progR rules facts).enc := by
  have tail := prog_facts (rulesR rules) facts hf hlen
  unfold progR
  apply pure_enter (by simp [c8])
  show wpK T 0 52 [.code c8.body] _ [] (endP 52 [.cell 4 3 true] _)
  have hb : c8.body = .seq (fstC c8.body) (.seq (fstC (sndC c8.body)) (.seq (fstC (sndC (sndC c8.body))) PF)) := rfl
  rw [hb]
  generalize PF = K at tail
  generalize GP.enc ⟨relsD, (facts.take 12).map factR, rulesR rules⟩ = res at *
  simp [c8, sndC, fstC, callRelations6, setRun]
  refine W_for T 0 52 (min rules.length 6) (fun i f σ => f 0 = .isl (encRR rules) false ∧ f 1 = .isl (facts.map GRaw.enc) false ∧ f 4 = .ptr 0 0 ∧ f 5 = .ptr 1 0 ∧ f 6 = .int .i64 (i : Int) ∧ 2 ≤ σ.length ∧ (∃ a b c, σ[0]? = some (.cells [a, b, c] 0 false)) ∧
    ∃ ls, σ[1]? = some (.cells [.isl (relsD.map GD.enc) false, .isl [] true, ls] 0 false) ∧ LX 2 6 σ ((((rules.take i).zipIdx).map fun p => ruleR p.1 p.2).map GR.enc) ls) ?_ _ _ ?_
  · rintro i f σ hi ⟨h0, h1, h4, h5, h6, hN, ⟨a, b, c, c0⟩, ls, c1, hL⟩
    by_cases hlt : i < min rules.length 6
    · have hlt1 : i < rules.length := by omega
      have hlt2 : (i : Int) < (rules.length : Int) := by omega
      have hlt3 : (i : Int) < 6 := by omega
      have hw : IntKind.i64.wrap ((i : Int) + 1) = (i : Int) + 1 := wr64 (by omega) (by omega)
      have e1 : rules[i]? = some rules[i] := List.getElem?_eq_getElem hlt1
      have hc := callRule6R rules[i] (hr _ (List.getElem_mem hlt1)).1 (hr _ (List.getElem_mem hlt1)).2 i (by omega)
      have htk := rulesR_snoc rules i hlt1
      have hal : (((rules.take i).zipIdx).map fun p => ruleR p.1 p.2).length ≤ 6 := by simp; omega
      rw [htk]
      generalize (((rules.take i).zipIdx).map fun p => ruleR p.1 p.2) = es at *
      simp [h0, h1, h4, h5, h6, hlt2, hlt3, hlt1, c1, e1, hc, setRun, -appendA_ag]
      refine stW_app1 (N := 2) hL rfl rfl (by omega) (by omega) hN (by simp; omega) fun x' σ' hL' hlen' hk' => ?_
      simp [h0, h1, h4, h5, h6, hw, hk', c0, c1, hL'.solid, hL'.cells, setRun]
      have kp : ∀ {sz es y} o, LX 2 sz σ' es y → LX 2 sz (σ'.set 1 o) es y := fun o h => h.keep fun i q hi ho => by rw [List.getElem?_set_ne (by omega)]; exact ho
      refine ⟨by omega, by omega, x', list_set_at (by omega), ?_⟩
      have := kp (.cells [.isl (relsD.map GD.enc) false, .isl [] true, x'] 0 false) hL'
      exact this
    · have he : i = min rules.length 6 := by omega
      have htk : rules.take i = rules.take 6 := by
        by_cases h : rules.length ≤ 6
        · rw [List.take_of_length_le (by omega), List.take_of_length_le h]
        · have : i = 6 := by omega
          rw [this]
      rw [htk] at hL
      by_cases h12 : (i : Int) < (rules.length : Int)
      · have hlt3 : ¬ (i : Int) < 6 := by omega
        simp [h0, h1, h4, h5, h6, h12, hlt3]
        refine tail ls _ σ ?_ ?_ ?_ hN ⟨a, b, c, c0⟩ c1 hL <;> simp [h1, h4, h5]
      · simp [h0, h1, h4, h5, h6, h12]
        refine tail ls _ σ ?_ ?_ ?_ hN ⟨a, b, c, c0⟩ c1 hL <;> simp [h1, h4, h5]
  · simp
    exact .inl ⟨rfl, rfl⟩
theorem callProg6 (rules : List (List GRaw)) (facts : List GRaw) (hr : ∀ l ∈ rules, (∀ x ∈ l, x.ok) ∧ l.length ≤ 100000000000) (hrl : rules.length ≤ 100000000000) (hf : ∀ x ∈ facts, x.ok) (hlen : facts.length ≤ 100000000000) (bs : Nat) (σ : Heap) :
    callT T 8 [.isl (encRR rules) false, .isl (facts.map GRaw.enc) false] bs σ = some ((progR rules facts).enc, σ) := call_clean rfl rfl rfl (by simp) (prog6_ok rules facts hr hrl hf hlen)
end Go.Proofs.Ytpgakkhfjjhpdaa
end
section
namespace Go.Proofs.Ytpgakkhfjjhpdaa
open Go.Mach
theorem bulkAs_le {α : Type} (enc : α → AV) (c : Nat) : ∀ l : List α, (∀ x ∈ l, bulkA (enc x) ≤ c) → bulkAs (l.map enc) ≤ c * l.length
  | [], _ => by simp [bulkAs]
  | x :: l, h => by
    have h1 := bulkAs_le enc c l fun y hy => h y (by simp [hy])
    have h2 := h x (by simp)
    simp only [List.map_cons, bulkAs, List.length_cons, Nat.mul_add]; omega
theorem tsizes_le (c : Nat) (l : List GT) (h : ∀ t ∈ l, t.size ≤ c) : GT.sizes l ≤ c * l.length := by
  rw [← GT.bulk_encs, GT.encs_map]
  exact bulkAs_le GT.enc c l fun t ht => by rw [GT.bulk_enc]; exact h t ht
theorem gsizes_le (c : Nat) (l : List GV) (h : ∀ t ∈ l, t.size ≤ c) : GV.sizes l ≤ c * l.length := by
  rw [← GV.bulk_encs, GV.encs_map]
  exact bulkAs_le GV.enc c l fun t ht => by rw [GV.bulk_enc]; exact h t ht
theorem vTn_size : ∀ n, n < 6 → (vTn n).size ≤ 40 := by decide +kernel
theorem vT_size (c : Int) : (vT c).size ≤ 40 := vTn_size _ (pickN_lt (by omega))
theorem numT_size (n : Int) : (numT n).size ≤ 40 := by
  have h0 : (ByteArray.mk #[]).size = 0 := rfl
  simp [numT, GT.size, GT.sizes, GV.size, GV.sizes, h0]
theorem addrT_size : ∀ n, n < 3 → (addrT n).size ≤ 40 := by decide +kernel
theorem sumT_size : ∀ n, n < 6 → (sumT n).size ≤ 40 := by decide +kernel
theorem argR_size (k : Int) : (argR k).size ≤ 40 := by
  unfold argR
  split
  · exact numT_size _
  split
  · exact addrT_size _ (pickN_lt (by omega))
  split
  · exact sumT_size _ (pickN_lt (by omega))
  · exact vT_size k
theorem atomR_size (x : GRaw) : GT.sizes (atomR x) ≤ 120 := by
  obtain ⟨_, h2, _⟩ := rel_arity x
  have := tsizes_le 40 (atomR x) (fun t ht => by
    obtain ⟨i, _, rfl⟩ := List.mem_map.1 ht
    split
    · exact vT_size _
    · exact argR_size _)
  have hl : (atomR x).length = (relR x).arity.toNat := by simp [atomR]
  rw [hl] at this; omega
theorem relR_size (x : GRaw) : (relR x).name.size ≤ 4 := by
  obtain ⟨n, hn, _, e⟩ := rel_cases x
  rw [e]
  match n, hn with
  | 0, _ => decide
  | 1, _ => decide
  | 2, _ => decide
  | 3, _ => decide
  | 4, _ => decide
  | 5, _ => decide
theorem tSix_size : ∀ n, n < 6 → (tSix.getD n ⟨#[]⟩).size ≤ 4 := by decide +kernel
theorem vName_size : ∀ n, n < 6 → (vName n).size ≤ 4 := by decide +kernel
theorem litR_size (x : GRaw) : (litR x).size ≤ 200 := by
  have h1 := atomR_size x
  have h2 := relR_size x
  unfold litR
  split
  · simp only [GL.size, GL.enc, bulkA, bulkAs, GT.bulk_encs]; omega
  split
  · simp only [GL.size, GL.enc, bulkA, bulkAs, GT.bulk_encs]; omega
  split
  · have h3 := tSix_size _ (pickN_lt (c := x.name) (n := 6) (by omega))
    have h4 : GT.sizes [vT x.n0, if pickN x.n3 2 = 0 then numT (pickN x.n2 4) else vT x.n1] ≤ 80 := tsizes_le 40 _ fun t ht => by
      simp only [List.mem_cons, List.not_mem_nil, or_false] at ht
      rcases ht with rfl | rfl
      · exact vT_size _
      · split
        · exact numT_size _
        · exact vT_size _
    simp only [GL.size, GL.enc, bulkA, bulkAs, GT.bulk_encs]; omega
  · have h3 := vName_size _ (pickN_lt (c := x.n0) (n := 6) (by omega))
    have h4 : GT.sizes [vT x.n1, if pickN (x.n3.tdiv 2) 2 = 0 then numT 1 else vT x.n2] ≤ 80 := tsizes_le 40 _ fun t ht => by
      simp only [List.mem_cons, List.not_mem_nil, or_false] at ht
      rcases ht with rfl | rfl
      · exact vT_size _
      · split
        · exact numT_size _
        · exact vT_size _
    have h5 : (if pickN x.n3 2 = 0 then (⟨#[43]⟩ : ByteArray) else ⟨#[45]⟩).size ≤ 1 := by split <;> decide
    have h0 : (ByteArray.mk #[]).size = 0 := rfl
    simp only [GL.size, GL.enc, bulkA, bulkAs, GT.bulk_encs, GT.sizes, GT.size, GV.size, GV.sizes, h0] at h4 ⊢; omega
theorem aggN_size (n : Nat) : (aggN n).size ≤ 5 := by
  unfold aggN
  split
  · decide
  split <;> decide
theorem ruleR_size (l : List GRaw) (n : Nat) : (ruleR l n).size ≤ 1000 := by
  have h1 := atomR_size (headR l)
  have h2 := relR_size (headR l)
  have h3 := aggN_size (pickN ((headR l).kind.tdiv 5) 3)
  have h4 : bulkAs ((bodyR l).map GL.enc) ≤ 200 * (bodyR l).length := bulkAs_le GL.enc 200 _ fun y hy => by
    obtain ⟨x, rfl⟩ := bodyR_mem l hy
    exact litR_size x
  have h5 := (bodyR_len l).2
  have h6 : ((⟨#[114]⟩ : ByteArray) ++ ⟨#[UInt8.ofNat (97 + n)]⟩).size = 2 := by rw [ByteArray.size_append]; rfl
  have h7 : (if aggR (headR l) = true then aggN (pickN ((headR l).kind.tdiv 5) 3) else ⟨#[]⟩).size ≤ 5 := by
    split
    · exact h3
    · decide
  simp only [ruleR, GR.size, GR.enc, bulkA, bulkAs, GT.bulk_encs, h6]; omega
theorem addrV_size : ∀ n, n < 4 → (addrV n).size ≤ 40 := by decide +kernel
theorem factR_size (x : GRaw) : (factR x).size ≤ 200 := by
  obtain ⟨_, h2, _⟩ := rel_arity x
  have h1 := relR_size x
  have h0 : (ByteArray.mk #[]).size = 0 := rfl
  have := gsizes_le 40 (factR x).args (fun t ht => by
    obtain ⟨i, _, rfl⟩ := List.mem_map.1 ht
    unfold fargR
    split
    · exact addrV_size _ (pickN_lt (by omega))
    · simp [numV, GV.size, GV.sizes, h0])
  have hl := fargs_len x
  rw [hl] at this
  have e1 : (factR x).name = (relR x).name := rfl
  simp only [GU.size, GU.enc, bulkA, bulkAs, GV.bulk_encs, e1]; omega
theorem GP.size_le (p : GP) (a b c : Nat) (h1 : ∀ x ∈ p.decls, x.size ≤ a) (h2 : ∀ x ∈ p.facts, x.size ≤ b) (h3 : ∀ x ∈ p.rules, x.size ≤ c) : p.size ≤ a * p.decls.length + b * p.facts.length + c * p.rules.length + 4 := by
  have k1 := bulkAs_le GD.enc a p.decls h1
  have k2 := bulkAs_le GU.enc b p.facts h2
  have k3 := bulkAs_le GR.enc c p.rules h3
  simp only [GP.size, GP.enc, bulkA, bulkAs]; omega
theorem relsD_size : ∀ x ∈ relsD, x.size ≤ 20 := by decide +kernel
theorem rulesR_size (rules : List (List GRaw)) : ∀ x ∈ rulesR rules, x.size ≤ 1000 := fun x hx => by
  obtain ⟨p, _, rfl⟩ := List.mem_map.1 hx
  exact ruleR_size _ _
theorem facts_size (facts : List GRaw) : ∀ x ∈ (facts.take 12).map factR, x.size ≤ 200 := fun x hx => by
  obtain ⟨p, _, rfl⟩ := List.mem_map.1 hx
  exact factR_size _
end Go.Proofs.Ytpgakkhfjjhpdaa
end
section
set_option maxRecDepth 100000
namespace Go.Proofs.Ytpgakkhfjjhpdaa
open Go.Mach
theorem rulesR_B (rules : List (List GRaw)) : (rulesR rules).all ruleB = true ∧ (rulesR rules).length ≤ 6 := by
  constructor
  · rw [List.all_eq_true]; intro v hv
    obtain ⟨x, hx, rfl⟩ := List.mem_map.1 hv
    have := List.snd_lt_of_mem_zipIdx hx
    refine ruleR_B _ _ ?_
    simp at this; omega
  · simp [rulesR]; omega
theorem facts_B (facts : List GRaw) : ((facts.take 12).map factR).all tupB = true ∧ ((facts.take 12).map factR).length ≤ 12 := by
  constructor
  · rw [List.all_eq_true]; intro v hv
    obtain ⟨x, _, rfl⟩ := List.mem_map.1 hv
    exact tupB_R x
  · simp; omega
theorem check_rules6 (facts : List GRaw) (rs : List GR) (hr : rs.all ruleB = true) (hl : rs.length ≤ 64) : checkP ⟨relsD, (facts.take 12).map factR, rs⟩ = firstP ⟨relsD, [], []⟩ rs 0 := by
  rw [check_rawR rfl ?_ (facts_good rfl _)]
  · exact first_congr (p := ⟨relsD, (facts.take 12).map factR, rs⟩) (q := ⟨relsD, [], []⟩) rfl rs 0
  · obtain ⟨h1, h2⟩ := facts_B facts
    have h4 : relsD.length = 6 := rfl
    simp only [progB, h1, hr, relsD_B, h4, Bool.and_true, decide_eq_true_eq]
    omega
theorem raw_prog (rules : List (List GRaw)) (facts : List GRaw) (hr : RawsOk rules) (hf : FactsOk facts) : ∃ fs rs, rs.length ≤ 6 ∧ fs.length ≤ 12 ∧ rs = rulesR rules ∧ fs = (facts.take 12).map factR ∧
    (∀ bs σ, callT T 8 [.isl (encRR rules) false, .isl (facts.map GRaw.enc) false] bs σ = some (.agg [.isl (relsD.map GD.enc) false, .isl (fs.map GU.enc) false, .isl (rs.map GR.enc) false], σ)) ∧
    ∀ rs' : List GR, (∀ r ∈ rs', r ∈ rs) → rs'.length ≤ 64 → checkP ⟨relsD, fs, rs'⟩ = firstP ⟨relsD, [], []⟩ rs' 0 ∧ (GP.mk relsD fs rs').size ≤ 1000000000 := by
  refine ⟨_, _, (rulesR_B rules).2, (facts_B facts).2, rfl, rfl, fun bs σ => callProg6 rules facts hr.1 hr.2 hf.1 hf.2 bs σ, fun rs' h1 h2 => ⟨check_rules6 facts rs' ?_ h2, ?_⟩⟩
  · rw [List.all_eq_true]
    exact fun r hr' => List.all_eq_true.1 (rulesR_B rules).1 r (h1 r hr')
  · have := GP.size_le ⟨relsD, (facts.take 12).map factR, rs'⟩ 20 200 1000 relsD_size (facts_size facts) fun r hr' => rulesR_size rules r (h1 r hr')
    have e1 : relsD.length = 6 := rfl
    have e2 := (facts_B facts).2
    simp only [e1] at this
    omega
end Go.Proofs.Ytpgakkhfjjhpdaa
end
section
set_option maxRecDepth 100000
namespace Go.Proofs.Ytpgakkhfjjhpdaa
open Go.Mach
def bN (n : ByteArray) : ByteArray := ⟨#[78]⟩ ++ n
mutual
def turnT : GT → GT
  | .mk k n v l => if k = 1 then .mk 1 (bN n) (.mk 0 0 ⟨#[]⟩ []) [] else .mk k n v (turnL l)
def turnL : List GT → List GT
  | [] => []
  | t :: l => turnT t :: turnL l
end
mutual
theorem vs1_turn : ∀ t : GT, vs1 (turnT t) = (vs1 t).map bN
  | .mk k n v l => by
    by_cases h : k = 1
    · simp [turnT, vs1, h]
    · simp only [turnT, vs1, if_neg h]
      exact vsL_turn l
theorem vsL_turn : ∀ l : List GT, vsL (turnL l) = (vsL l).map bN
  | [] => rfl
  | t :: l => by simp only [turnL, vsL, List.map_append, vs1_turn t, vsL_turn l]
end
end Go.Proofs.Ytpgakkhfjjhpdaa
end
section
namespace Go.Proofs.Ytpgakkhfjjhpdaa
open Go.Mach
structure IsRaw (P : Program) (tR tA tI : TypeId) : Prop where
  fs : ∃ fs : Array Field, P.underlying tR = some (.struct fs) ∧ fs.toList.map (·.type) = [tI, tI, tA]
  arr : P.underlying tA = some (.array 4 tI)
  int : P.underlying tI = some (.int .i64)
theorem asRaw {P : Program} {tR tA tI : TypeId} (hT : IsRaw P tR tA tI) {x : AV} (h : TyA P tR x) : ∃ v : GRaw, x = v.enc ∧ v.ok := by
  have e1 : IntKind.i64.min = -9223372036854775808 := by decide
  have e2 : IntKind.i64.max = 9223372036854775807 := by decide
  obtain ⟨fs0, hf0, hts⟩ := hT.fs
  obtain ⟨vs, rfl, hl, hv⟩ := h.asStruct hf0
  have hlen : vs.length = 3 := by rw [hl, ← List.length_map (f := (·.type)), hts]; rfl
  match vs, hlen with
  | [x0, x1, x2], _ =>
    obtain ⟨y0, rfl, p0, q0⟩ := (field_ty hts hv (i := 0) rfl rfl).asInt hT.int
    obtain ⟨y1, rfl, p1, q1⟩ := (field_ty hts hv (i := 1) rfl rfl).asInt hT.int
    obtain ⟨ws, rfl, hwl, hw⟩ := (field_ty hts hv (i := 2) rfl rfl).asArray hT.arr
    match ws, hwl with
    | [w0, w1, w2, w3], _ =>
      obtain ⟨z0, rfl, a0, b0⟩ := (hw w0 (by simp)).asInt hT.int
      obtain ⟨z1, rfl, a1, b1⟩ := (hw w1 (by simp)).asInt hT.int
      obtain ⟨z2, rfl, a2, b2⟩ := (hw w2 (by simp)).asInt hT.int
      obtain ⟨z3, rfl, a3, b3⟩ := (hw w3 (by simp)).asInt hT.int
      rw [e1] at p0 p1 a0 a1 a2 a3; rw [e2] at q0 q1 b0 b1 b2 b3
      exact ⟨⟨y0, y1, z0, z1, z2, z3⟩, by simp [GRaw.enc, flat], ⟨p0, q0⟩, ⟨p1, q1⟩, ⟨a0, b0⟩, ⟨a1, b1⟩, ⟨a2, b2⟩, ⟨a3, b3⟩⟩
theorem argRaws {P : Program} {tL tR tA tI : TypeId} (hT : IsRaw P tR tA tI) (hL : P.underlying tL = some (.slice tR)) {x : AV} (h : TyA P tL x) (hb : bulkA x ≤ 1048576) : ∃ l : List GRaw, x = .isl (l.map GRaw.enc) false ∧ FactsOk l := by
  obtain ⟨es, rfl, hes⟩ := h.asSlice hL
  obtain ⟨l, rfl, hl⟩ := list_enc GRaw.enc GRaw.ok es fun z hz => asRaw hT (hes z hz)
  have := bulk_len (l.map GRaw.enc)
  simp only [bulkA, List.length_map] at hb this
  exact ⟨l, rfl, hl, by omega⟩
theorem argRR {P : Program} {tLL tL tR tA tI : TypeId} (hT : IsRaw P tR tA tI) (hL : P.underlying tL = some (.slice tR)) (hLL : P.underlying tLL = some (.slice tL)) {x : AV} (h : TyA P tLL x) (hb : bulkA x ≤ 1048576) : ∃ l : List (List GRaw), x = .isl (encRR l) false ∧ RawsOk l := by
  obtain ⟨es, rfl, hes⟩ := h.asSlice hLL
  simp only [bulkA] at hb
  obtain ⟨l, rfl, hl⟩ := list_enc (fun l : List GRaw => AV.isl (l.map GRaw.enc) false) FactsOk es fun z hz => by
    have := bulk_mem hz
    exact argRaws hT hL (hes z hz) (by omega)
  have := bulk_len (l.map fun l : List GRaw => AV.isl (l.map GRaw.enc) false)
  simp only [List.length_map] at this
  exact ⟨l, rfl, fun y hy => hl y hy, by omega⟩
theorem tyRaw : IsRaw Try.prog 64 62 3 := ⟨fieldTys_some (by kernel_rfl), by kernel_rfl, by kernel_rfl⟩
theorem argR6 {x : AV} (h : TyA Try.prog 22 x) (hb : bulkA x ≤ 1048576) : ∃ l : List (List GRaw), x = .isl (encRR l) false ∧ RawsOk l := argRR (tL := 57) tyRaw (by kernel_rfl) (by kernel_rfl) h hb
end Go.Proofs.Ytpgakkhfjjhpdaa
end
section
namespace Go.Proofs.Ytpgakkhfjjhpdaa
open Go.Mach
structure GPl where
  from' : ByteArray
  to : ByteArray
  head : ByteArray
def GPl.enc (p : GPl) : AV := .agg [.str p.from', .str p.to, .str p.head]
structure RS where
  all : List ByteArray
  links : List ((ByteArray × ByteArray) × Int)
  atoms : Nat
end Go.Proofs.Ytpgakkhfjjhpdaa
end
section
namespace Go.Proofs.Ytpgakkhfjjhpdaa
open Go.Mach
end Go.Proofs.Ytpgakkhfjjhpdaa
end
section
namespace Go.Mach
section
variable (T : Tab) (bs n : Nat)
def gotoW (l : Nat) (k : List Fr) (Q : AExit → FR → Heap → Prop) (I : FR → Heap → Prop) : AExit → FR → Heap → Prop
  | .normal, f, σ => wpK T bs n k f σ Q
  | .exit id, f, σ => if id = gno + l then I f σ else exW T bs n (popTo id k) id f σ Q
  | .ret, f, σ => Q .ret f σ
@[simp] theorem gotoW_normal (l : Nat) (k : List Fr) (Q : AExit → FR → Heap → Prop) (I : FR → Heap → Prop) (f : FR) (σ : Heap) : gotoW T bs n l k Q I .normal f σ = wpK T bs n k f σ Q := rfl
@[simp] theorem gotoW_exit (l : Nat) (k : List Fr) (Q : AExit → FR → Heap → Prop) (I : FR → Heap → Prop) (id : Nat) (f : FR) (σ : Heap) : gotoW T bs n l k Q I (.exit id) f σ = if id = gno + l then I f σ else exW T bs n (popTo id k) id f σ Q := rfl
@[simp] theorem gotoW_ret (l : Nat) (k : List Fr) (Q : AExit → FR → Heap → Prop) (I : FR → Heap → Prop) (f : FR) (σ : Heap) : gotoW T bs n l k Q I .ret f σ = Q .ret f σ := rfl
theorem gotoW_cont {l : Nat} {k : List Fr} {Q : AExit → FR → Heap → Prop} {I : FR → Heap → Prop} {e : AExit} {f : FR} {σ : Heap} (he : gotoL e l = false) (h : gotoW T bs n l k Q I e f σ) : contQ T bs n k Q e f σ := by
  cases e with
  | normal => exact wpK_sound T bs n k f σ Q h
  | exit id =>
    simp only [gotoL, decide_eq_false_iff_not] at he
    simp only [gotoW_exit, if_neg he] at h
    exact contQ_exit T bs n h
  | ret => exact contQ_ret T bs n h
theorem gotoW_inv {l : Nat} {k : List Fr} {Q : AExit → FR → Heap → Prop} {I : FR → Heap → Prop} {e : AExit} {f : FR} {σ : Heap} (he : gotoL e l = true) (h : gotoW T bs n l k Q I e f σ) : I f σ := by
  cases e with
  | normal => cases he
  | exit id =>
    simp only [gotoL, decide_eq_true_eq] at he
    simpa only [gotoW_exit, if_pos he] using h
  | ret => cases he
theorem W_scope {c rest : ACode} {l : Nat} {k : List Fr} {Q : AExit → FR → Heap → Prop} (I : FR → Heap → Prop) (μ : FR → Heap → Nat)
    (go : ∀ f σ, I f σ → wpK T bs n [.code rest] f σ (gotoW T bs n l k Q fun f' σ' => μ f' σ' < μ f σ ∧ I f' σ'))
    (f : FR) (σ : Heap) (first : wpK T bs n [.code c] f σ (gotoW T bs n l k Q I)) : W T bs n (.scope c l rest) f σ (contQ T bs n k Q) := by
  have key : ∀ m f σ, μ f σ = m → I f σ → ∃ e f' σ', scopeT T bs l rest (.exit (gno + l), lst n f, σ) = some (e, lst n f', σ') ∧ contQ T bs n k Q e f' σ' := by
    intro m
    induction m using Nat.strongRecOn with
    | ind m ih =>
      intro f σ hm hI
      obtain ⟨e, f1, σ1, hr, hq⟩ := wpC_sound T bs n (go f σ hI)
      have h1 : scopeT T bs l rest (.exit (gno + l), lst n f, σ) = scopeT T bs l rest (e, lst n f1, σ1) := by
        rw [scopeT_go T bs (show gotoL (.exit (gno + l)) l = true by simp [gotoL])]
        show (execT T bs rest (lst n f) σ).bind _ = _
        rw [hr]; rfl
      rw [h1]
      cases hg : gotoL e l with
      | true =>
        obtain ⟨hlt, hI1⟩ := gotoW_inv T bs n hg hq
        have he : e = .exit (gno + l) := by
          cases e with
          | exit id => simp only [gotoL, decide_eq_true_eq] at hg; rw [hg]
          | normal => cases hg
          | ret => cases hg
        rw [he]
        exact ih _ (by omega) f1 σ1 rfl hI1
      | false =>
        exact ⟨e, f1, σ1, scopeT_no T bs (r := (e, lst n f1, σ1)) hg, gotoW_cont T bs n hg hq⟩
  obtain ⟨e, f1, σ1, hr, hq⟩ := wpC_sound T bs n first
  cases hg : gotoL e l with
  | true =>
    have hI1 := gotoW_inv T bs n hg hq
    have he : e = .exit (gno + l) := by
      cases e with
      | exit id => simp only [gotoL, decide_eq_true_eq] at hg; rw [hg]
      | normal => cases hg
      | ret => cases hg
    obtain ⟨e2, f2, σ2, h2, hq2⟩ := key _ f1 σ1 rfl hI1
    exact ⟨e2, f2, σ2, by rw [execT_scope, hr, he]; exact h2, hq2⟩
  | false =>
    exact ⟨e, f1, σ1, by rw [execT_scope, hr]; exact scopeT_no T bs (r := (e, lst n f1, σ1)) hg, gotoW_cont T bs n hg hq⟩
end
end Go.Mach
end
section
set_option maxRecDepth 100000
namespace Go.Proofs.Ytpgakkhfjjhpdaa
structure ED where
  head : Nat
  on : Nat
  up : Nat
def Sol (E : List ED) (s : Nat → Nat) : Prop := ∀ e ∈ E, s e.on + e.up ≤ s e.head
def gN (l : List Nat) (i : Nat) : Nat := (l[i]?).getD 0
def Low (E : List ED) (l : List Nat) : Prop := ∀ s, Sol E s → ∀ i, gN l i ≤ s i
def Ans (E : List ED) (n : Nat) : Option (List Nat) → Prop
  | none => ¬ ∃ s, Sol E s ∧ ∀ i, s i ≤ n
  | some l => l.length = n ∧ Sol E (gN l) ∧ (∀ i, gN l i ≤ n) ∧ Low E l
theorem gN_lt {l : List Nat} {i : Nat} (h : i < l.length) : gN l i = l[i] := by unfold gN; rw [List.getElem?_eq_getElem h]; rfl
theorem gN_ge {l : List Nat} {i : Nat} (h : l.length ≤ i) : gN l i = 0 := by unfold gN; rw [List.getElem?_eq_none h]; rfl
theorem gN_set {l : List Nat} {i v : Nat} (h : i < l.length) (j : Nat) : gN (l.set i v) j = if j = i then v else gN l j := by
  unfold gN
  by_cases e : j = i
  · subst e; simp [h]
  · rw [if_neg e, List.getElem?_set_ne (Ne.symm e)]
theorem gN_ext {a b : List Nat} (hl : a.length = b.length) (h : ∀ i, gN a i = gN b i) : a = b := by
  apply List.ext_getElem hl
  intro i h1 h2
  have := h i
  rw [gN_lt h1, gN_lt h2] at this
  exact this
theorem Ans.unique {E : List ED} {n : Nat} {a b : Option (List Nat)} (ha : Ans E n a) (hb : Ans E n b) : a = b := by
  cases a with
  | none =>
    cases b with
    | none => rfl
    | some l => exact absurd ⟨gN l, hb.2.1, hb.2.2.1⟩ ha
  | some k =>
    cases b with
    | none => exact absurd ⟨gN k, ha.2.1, ha.2.2.1⟩ hb
    | some l =>
      congr 1
      exact gN_ext (ha.1.trans hb.1.symm) fun i => Nat.le_antisymm (ha.2.2.2 _ hb.2.1 i) (hb.2.2.2 _ ha.2.1 i)
theorem Ans.congr {E F : List ED} {n : Nat} {o : Option (List Nat)} (h : ∀ e, e ∈ E ↔ e ∈ F) (ha : Ans E n o) : Ans F n o := by
  have hs : ∀ s, Sol E s ↔ Sol F s := fun s => ⟨fun h1 e he => h1 e ((h e).2 he), fun h1 e he => h1 e ((h e).1 he)⟩
  cases o with
  | none => exact fun ⟨s, h1, h2⟩ => ha ⟨s, (hs s).2 h1, h2⟩
  | some l => exact ⟨ha.1, (hs _).1 ha.2.1, ha.2.2.1, fun s h1 => ha.2.2.2 s ((hs s).2 h1)⟩
theorem Ans.less {E F : List ED} {n : Nat} {o : Option (List Nat)} {l : List Nat} (h : ∀ e ∈ F, e ∈ E) (ha : Ans E n (some l)) (hb : Ans F n o) : ∃ t, o = some t ∧ ∀ i, gN t i ≤ gN l i := by
  have hs : Sol F (gN l) := fun e he => ha.2.1 e (h e he)
  cases o with
  | none => exact absurd ⟨_, hs, ha.2.2.1⟩ hb
  | some t => exact ⟨t, rfl, hb.2.2.2 _ hs⟩
theorem Ans.zero {E : List ED} {n : Nat} {l : List Nat} (h : ∀ e ∈ E, e.up = 0) (ha : Ans E n (some l)) (i : Nat) : gN l i = 0 := by
  have := ha.2.2.2 (fun _ => 0) (fun e he => by simp [h e he]) i
  omega
theorem low_zero (E : List ED) (n : Nat) : Low E (List.replicate n 0) := by
  intro s _ i
  unfold gN
  by_cases h : i < n
  · simp [h]
  · rw [List.getElem?_eq_none (by simp; omega)]; simp
theorem low_set {E : List ED} {l : List Nat} (h : Low E l) {e : ED} (he : e ∈ E) (hl : e.head < l.length) : Low E (l.set e.head (gN l e.on + e.up)) := by
  intro s hs i
  rw [gN_set hl]
  split
  · rename_i e1; subst e1
    have := hs e he
    have := h s hs e.on
    omega
  · exact h s hs i
theorem low_fail {E : List ED} {l : List Nat} {n : Nat} (h : Low E l) {e : ED} (he : e ∈ E) (hn : n < gN l e.on + e.up) : Ans E n none := by
  rintro ⟨s, hs, hb⟩
  have := hs e he
  have := h s hs e.on
  have := hb e.head
  omega
def left (n : Nat) (l : List Nat) : Nat := (l.map (n - ·)).sum
theorem left_set {n : Nat} : ∀ {l : List Nat} {i v : Nat}, i < l.length → gN l i < v → v ≤ n → left n (l.set i v) < left n l
  | [], i, v, h, _, _ => by cases h
  | x :: l, 0, v, _, h2, h3 => by
    have : x < v := h2
    simp only [left, List.set_cons_zero, List.map_cons, List.sum_cons]
    omega
  | x :: l, i + 1, v, h, h2, h3 => by
    have := left_set (n := n) (l := l) (i := i) (v := v) (by simpa using h) h2 h3
    simp only [left, List.set_cons_succ, List.map_cons, List.sum_cons] at this ⊢
    omega
abbrev Mx := Nat → Nat → Bool
def upM (A : Mx) (i j : Nat) (b : Bool) : Mx := fun x y => if x = i ∧ y = j then b else A x y
structure MM where
  any : Mx
  str : Mx
def stepM (k i j : Nat) (M : MM) : MM := if (M.any i k && M.any k j) = true then ⟨upM M.any i j true, upM M.str i j (M.str i j || M.str i k || M.str k j)⟩ else M
def stepS (k i j : Nat) (M : MM) : MM := if (M.any i k && M.any k j) = true then ⟨M.any, upM M.str i j (M.str i j || M.str i k || M.str k j)⟩ else M
def rowF (st : Nat → Nat → Nat → MM → MM) (k i n : Nat) (M : MM) : MM := (List.range n).foldl (fun M j => st k i j M) M
def matF (st : Nat → Nat → Nat → MM → MM) (k n : Nat) (M : MM) : MM := (List.range n).foldl (fun M i => rowF st k i 6 M) M
def allF (st : Nat → Nat → Nat → MM → MM) (n : Nat) (M : MM) : MM := (List.range n).foldl (fun M k => matF st k 6 M) M
theorem rowF_succ (st : Nat → Nat → Nat → MM → MM) (k i n : Nat) (M : MM) : rowF st k i (n + 1) M = st k i n (rowF st k i n M) := by unfold rowF; rw [List.range_succ, List.foldl_append]; rfl
theorem matF_succ (st : Nat → Nat → Nat → MM → MM) (k n : Nat) (M : MM) : matF st k (n + 1) M = rowF st k n 6 (matF st k n M) := by unfold matF; rw [List.range_succ, List.foldl_append]; rfl
theorem allF_succ (st : Nat → Nat → Nat → MM → MM) (n : Nat) (M : MM) : allF st (n + 1) M = matF st n 6 (allF st n M) := by unfold allF; rw [List.range_succ, List.foldl_append]; rfl
theorem allF_ind {st : Nat → Nat → Nat → MM → MM} {P : MM → Prop} (h : ∀ k i j M, k < 6 → i < 6 → j < 6 → P M → P (st k i j M)) {M : MM} (h0 : P M) : ∀ n, n ≤ 6 → P (allF st n M) := by
  have row : ∀ k i M, k < 6 → i < 6 → P M → ∀ n, n ≤ 6 → P (rowF st k i n M) := by
    intro k i M hk hi h0 n
    induction n with
    | zero => exact fun _ => h0
    | succ n ih => intro hn; rw [rowF_succ]; exact h _ _ _ _ hk hi (by omega) (ih (by omega))
  have mat : ∀ k M, k < 6 → P M → ∀ n, n ≤ 6 → P (matF st k n M) := by
    intro k M hk h0 n
    induction n with
    | zero => exact fun _ => h0
    | succ n ih => intro hn; rw [matF_succ]; exact row _ _ _ hk (by omega) (ih (by omega)) 6 (by omega)
  intro n
  induction n with
  | zero => exact fun _ => h0
  | succ n ih => intro hn; rw [allF_succ]; exact mat _ _ (by omega) (ih (by omega)) 6 (by omega)
theorem stepM_any (k i j : Nat) (M : MM) (x y : Nat) : (stepM k i j M).any x y = if x = i ∧ y = j then (M.any i j || (M.any i k && M.any k j)) else M.any x y := by
  unfold stepM
  split
  · rename_i h
    simp only [upM]
    split
    · rw [h]; simp
    · rfl
  · rename_i h
    split
    · rename_i e
      obtain ⟨rfl, rfl⟩ := e
      have : (M.any x k && M.any k y) = false := by simpa using h
      rw [this]; simp
    · rfl
theorem stepM_str (k i j : Nat) (M : MM) (x y : Nat) : (stepM k i j M).str x y = if x = i ∧ y = j ∧ (M.any i k && M.any k j) = true then (M.str i j || M.str i k || M.str k j) else M.str x y := by
  unfold stepM
  split
  · rename_i h
    simp only [upM]
    by_cases e : x = i ∧ y = j
    · rw [if_pos e, if_pos ⟨e.1, e.2, h⟩]
    · rw [if_neg e, if_neg (fun q => e ⟨q.1, q.2.1⟩)]
  · rename_i h
    rw [if_neg (fun q => h q.2.2)]
theorem stepS_any (k i j : Nat) (M : MM) : (stepS k i j M).any = M.any := by unfold stepS; split <;> rfl
theorem stepS_str (k i j : Nat) (M : MM) (x y : Nat) : (stepS k i j M).str x y = if x = i ∧ y = j ∧ (M.any i k && M.any k j) = true then (M.str i j || M.str i k || M.str k j) else M.str x y := by
  unfold stepS
  split
  · rename_i h
    simp only [upM]
    by_cases e : x = i ∧ y = j
    · rw [if_pos e, if_pos ⟨e.1, e.2, h⟩]
    · rw [if_neg e, if_neg (fun q => e ⟨q.1, q.2.1⟩)]
  · rename_i h
    rw [if_neg (fun q => h q.2.2)]
theorem mat_any (k : Nat) (hk : k < 6) (M : MM) : ∀ n, n ≤ 6 → ∀ x y, x < 6 → y < 6 → (matF stepM k n M).any x y = if x < n then (M.any x y || (M.any x k && M.any k y)) else M.any x y := by
  intro n
  induction n with
  | zero => intro _ x y _ _; simp [matF]
  | succ n ih =>
    intro hn x y hx hy
    rw [matF_succ]
    have ih := ih (by omega)
    generalize matF stepM k n M = N at ih
    have key : ∀ m, m ≤ 6 → ∀ x y, x < 6 → y < 6 → (rowF stepM k n m N).any x y = if x < n ∨ (x = n ∧ y < m) then (M.any x y || (M.any x k && M.any k y)) else M.any x y := by
      intro m
      induction m with
      | zero => intro _ x y hx hy; simp [rowF, ih x y hx hy]
      | succ m ihm =>
        intro hm x y hx hy
        have ihm := ihm (by omega)
        rw [rowF_succ, stepM_any]
        have e1 := ihm n m (by omega) (by omega)
        have e2 := ihm n k (by omega) hk
        have e3 := ihm k m hk (by omega)
        have e4 := ihm x y hx hy
        by_cases h : x = n ∧ y = m
        · obtain ⟨rfl, rfl⟩ := h
          rw [if_pos ⟨rfl, rfl⟩, if_pos (.inr ⟨rfl, by omega⟩), e1, e2, e3]
          have h1 : (if x < x ∨ x = x ∧ y < y then (M.any x y || (M.any x k && M.any k y)) else M.any x y) = M.any x y := by rw [if_neg (by omega)]
          have h2 : (if x < x ∨ x = x ∧ k < y then (M.any x k || (M.any x k && M.any k k)) else M.any x k) = M.any x k := by split <;> cases M.any x k <;> simp
          have h3 : (if k < x ∨ k = x ∧ y < y then (M.any k y || (M.any k k && M.any k y)) else M.any k y) = M.any k y := by split <;> cases M.any k y <;> simp
          rw [h1, h2, h3]
        · rw [if_neg h, e4]
          by_cases h5 : x < n ∨ (x = n ∧ y < m)
          · rw [if_pos h5, if_pos (by omega)]
          · rw [if_neg h5, if_neg (by omega)]
    rw [key 6 (by omega) x y hx hy]
    by_cases h5 : x < n ∨ (x = n ∧ y < 6)
    · rw [if_pos h5, if_pos (by omega)]
    · rw [if_neg h5, if_neg (by omega)]
theorem all_trans (M : MM) : ∀ n, n ≤ 6 → ∀ m, m < n → ∀ x y, x < 6 → y < 6 → (allF stepM n M).any x m = true → (allF stepM n M).any m y = true → (allF stepM n M).any x y = true := by
  intro n
  induction n with
  | zero => intro _ m hm; omega
  | succ n ih =>
    intro hn m hm x y hx hy h1 h2
    have ih := ih (by omega)
    rw [allF_succ] at h1 h2 ⊢
    generalize allF stepM n M = N at *
    have hm6 : m < 6 := by omega
    rw [mat_any n (by omega) N 6 (by omega) _ _ hx hm6, if_pos hx] at h1
    rw [mat_any n (by omega) N 6 (by omega) _ _ hm6 hy, if_pos hm6] at h2
    rw [mat_any n (by omega) N 6 (by omega) _ _ hx hy, if_pos hx]
    simp only [Bool.or_eq_true, Bool.and_eq_true] at h1 h2 ⊢
    by_cases e : m = n
    · subst e
      have a1 : N.any x m = true := by rcases h1 with h | h; exact h; exact h.1
      have a2 : N.any m y = true := by rcases h2 with h | h; exact h; exact h.2
      exact .inr ⟨a1, a2⟩
    · have hlt : m < n := by omega
      rcases h1 with h1 | ⟨h1, h1'⟩ <;> rcases h2 with h2 | ⟨h2, h2'⟩
      · exact .inl (ih m hlt x y hx hy h1 h2)
      · exact .inr ⟨ih m hlt x n hx (by omega) h1 h2, h2'⟩
      · exact .inr ⟨h1, ih m hlt n y (by omega) hy h1' h2⟩
      · exact .inr ⟨h1, h2'⟩
def MM.le (M N : MM) : Prop := (∀ x y, M.any x y = true → N.any x y = true) ∧ ∀ x y, M.str x y = true → N.str x y = true
theorem MM.le.refl (M : MM) : M.le M := ⟨fun _ _ h => h, fun _ _ h => h⟩
theorem MM.le.trans {A B C : MM} (h : A.le B) (k : B.le C) : A.le C := ⟨fun _ _ x => k.1 _ _ (h.1 _ _ x), fun _ _ x => k.2 _ _ (h.2 _ _ x)⟩
theorem stepM_le (k i j : Nat) (M : MM) : M.le (stepM k i j M) := by
  refine ⟨fun x y h => ?_, fun x y h => ?_⟩
  · rw [stepM_any]; split
    · rename_i e; obtain ⟨rfl, rfl⟩ := e; rw [h]; rfl
    · exact h
  · rw [stepM_str]; split
    · rename_i e; obtain ⟨rfl, rfl, _⟩ := e; rw [h]; rfl
    · exact h
theorem stepS_le (k i j : Nat) (M : MM) : M.le (stepS k i j M) := by
  refine ⟨fun x y h => by rw [stepS_any]; exact h, fun x y h => ?_⟩
  rw [stepS_str]; split
  · rename_i e; obtain ⟨rfl, rfl, _⟩ := e; rw [h]; rfl
  · exact h
theorem rowF_le {st : Nat → Nat → Nat → MM → MM} (hs : ∀ (k i j : Nat) (M : MM), M.le (st k i j M)) (k i : Nat) (M : MM) : ∀ n, M.le (rowF st k i n M)
  | 0 => .refl M
  | n + 1 => by rw [rowF_succ]; exact (rowF_le hs k i M n).trans (hs _ _ _ _)
theorem matF_le {st : Nat → Nat → Nat → MM → MM} (hs : ∀ (k i j : Nat) (M : MM), M.le (st k i j M)) (k : Nat) (M : MM) : ∀ n, M.le (matF st k n M)
  | 0 => .refl M
  | n + 1 => by rw [matF_succ]; exact (matF_le hs k M n).trans (rowF_le hs _ _ _ _)
theorem allF_le {st : Nat → Nat → Nat → MM → MM} (hs : ∀ (k i j : Nat) (M : MM), M.le (st k i j M)) (M : MM) : ∀ n, M.le (allF st n M)
  | 0 => .refl M
  | n + 1 => by rw [allF_succ]; exact (allF_le hs M n).trans (matF_le hs _ _ _)
theorem matS_str (k : Nat) (hk : k < 6) (M : MM) (x y : Nat) (hx : x < 6) (hy : y < 6) (h1 : M.any x k = true) (h2 : M.any k y = true) (h3 : M.str x k = true ∨ M.str k y = true) : (matF stepS k 6 M).str x y = true := by
  have hrow : ∀ n, n ≤ 6 → x < n → (matF stepS k n M).str x y = true := by
    intro n
    induction n with
    | zero => intro _ h; omega
    | succ n ih =>
      intro hn hxn
      rw [matF_succ]
      by_cases e : x = n
      · subst e
        have hle := matF_le stepS_le k M x
        generalize matF stepS k x M = N at hle
        have hcol : ∀ m, m ≤ 6 → y < m → (rowF stepS k x m N).str x y = true := by
          intro m
          induction m with
          | zero => intro _ h; omega
          | succ m ihm =>
            intro hm hym
            rw [rowF_succ]
            by_cases e : y = m
            · subst e
              have hle2 := hle.trans (rowF_le stepS_le k x N y)
              rw [stepS_str, if_pos ⟨rfl, rfl, by rw [hle2.1 _ _ h1, hle2.1 _ _ h2]; rfl⟩]
              rcases h3 with h3 | h3
              · rw [hle2.2 _ _ h3]; simp
              · rw [hle2.2 _ _ h3]; simp
            · exact (stepS_le _ _ _ _).2 _ _ (ihm (by omega) (by omega))
        exact hcol 6 (by omega) hy
      · exact (rowF_le stepS_le _ _ _ _).2 _ _ (ih (by omega) (by omega))
  exact hrow 6 (by omega) hx
def hangN (w : Nat) (M : MM) : MM := allF stepS w (allF stepM w M)
def hangM (M : MM) : MM := hangN 6 M
def StM (A S0 : Mx) (x y : Nat) : Prop := ∃ u v, u < 6 ∧ v < 6 ∧ S0 u v = true ∧ (x = u ∨ A x u = true) ∧ (v = y ∨ A v y = true)
structure HgOk (E : List ED) (M : MM) : Prop where
  low : ∀ s, Sol E s → ∀ x y, (M.any x y = true → s y ≤ s x) ∧ (M.str x y = true → s y < s x)
  edge : ∀ e ∈ E, M.any e.head e.on = true ∧ (e.up = 1 → M.str e.head e.on = true)
  sub : ∀ x y, x < 6 → y < 6 → M.str x y = true → M.any x y = true
  clos : (∀ x, x < 6 → M.str x x = false) → ∀ x y z, x < 6 → y < 6 → z < 6 → M.any x y = true → M.str y z = true → M.str x z = true
theorem hang_okN (w : Nat) (hw : w = 6) {E : List ED} {M : MM} (low : ∀ s, Sol E s → ∀ x y, (M.any x y = true → s y ≤ s x) ∧ (M.str x y = true → s y < s x))
    (edge : ∀ e ∈ E, M.any e.head e.on = true ∧ (e.up = 1 → M.str e.head e.on = true)) (sub : ∀ x y, x < 6 → y < 6 → M.str x y = true → M.any x y = true) : HgOk E (hangN w M) := by
  have hle1 := allF_le stepM_le M w
  have hle2 := allF_le stepS_le (allF stepM w M) w
  have hle : M.le (hangN w M) := hle1.trans hle2
  refine ⟨fun s hs => ?_, fun e he => ⟨hle.1 _ _ (edge e he).1, fun h => hle.2 _ _ ((edge e he).2 h)⟩, ?_, ?_⟩
  · refine allF_ind (st := stepS) (P := fun M => ∀ x y, (M.any x y = true → s y ≤ s x) ∧ (M.str x y = true → s y < s x)) ?_ (allF_ind (st := stepM) (P := fun M => ∀ x y, (M.any x y = true → s y ≤ s x) ∧ (M.str x y = true → s y < s x)) ?_ (low s hs) w (by omega)) w (by omega)
    · intro k i j M _ _ _ h x y
      refine ⟨fun h1 => (h x y).1 (by rwa [stepS_any] at h1), fun h1 => ?_⟩
      rw [stepS_str] at h1
      split at h1
      · rename_i e; obtain ⟨rfl, rfl, e⟩ := e
        simp only [Bool.and_eq_true, Bool.or_eq_true] at e h1
        have a1 := (h x k).1 e.1
        have a2 := (h k y).1 e.2
        rcases h1 with (h1 | h1) | h1
        · exact (h x y).2 h1
        · have := (h x k).2 h1; omega
        · have := (h k y).2 h1; omega
      · exact (h x y).2 h1
    · intro k i j M _ _ _ h x y
      refine ⟨fun h1 => ?_, fun h1 => ?_⟩
      · rw [stepM_any] at h1
        split at h1
        · rename_i e; obtain ⟨rfl, rfl⟩ := e
          simp only [Bool.and_eq_true, Bool.or_eq_true] at h1
          rcases h1 with h1 | ⟨h1, h2⟩
          · exact (h x y).1 h1
          · have a1 := (h x k).1 h1
            have a2 := (h k y).1 h2
            omega
        · exact (h x y).1 h1
      · rw [stepM_str] at h1
        split at h1
        · rename_i e; obtain ⟨rfl, rfl, e⟩ := e
          simp only [Bool.and_eq_true, Bool.or_eq_true] at e h1
          have a1 := (h x k).1 e.1
          have a2 := (h k y).1 e.2
          rcases h1 with (h1 | h1) | h1
          · exact (h x y).2 h1
          · have := (h x k).2 h1; omega
          · have := (h k y).2 h1; omega
        · exact (h x y).2 h1
  · have p1 : ∀ x y, x < 6 → y < 6 → (allF stepM w M).str x y = true → (allF stepM w M).any x y = true :=
      allF_ind (st := stepM) (P := fun M => ∀ x y, x < 6 → y < 6 → M.str x y = true → M.any x y = true) (fun k i j M hk hi hj h x y hx hy h1 => by
        rw [stepM_str] at h1
        rw [stepM_any]
        split at h1
        · rename_i e; obtain ⟨rfl, rfl, e⟩ := e
          rw [if_pos ⟨rfl, rfl⟩, e]; simp
        · split
          · rename_i e; obtain ⟨rfl, rfl⟩ := e; rw [h x y hx hy h1]; simp
          · exact h x y hx hy h1) sub w (by omega)
    have hany : (hangN w M).any = (allF stepM w M).any := by
      refine allF_ind (st := stepS) (P := fun N => N.any = (allF stepM w M).any) (fun k i j N _ _ _ h => by rw [stepS_any, h]) rfl w (by omega)
    have p2 : ∀ N : MM, N.any = (allF stepM w M).any ∧ (∀ x y, x < 6 → y < 6 → N.str x y = true → N.any x y = true) → True := fun _ _ => trivial
    have tr : ∀ m, m < 6 → ∀ x y, x < 6 → y < 6 → (allF stepM w M).any x m = true → (allF stepM w M).any m y = true → (allF stepM w M).any x y = true := fun m hm => all_trans M w (by omega) m (by omega)
    refine (allF_ind (st := stepS) (P := fun N => N.any = (allF stepM w M).any ∧ ∀ x y, x < 6 → y < 6 → N.str x y = true → N.any x y = true) (fun k i j N hk hi hj h => ⟨by rw [stepS_any, h.1], fun x y hx hy h1 => ?_⟩) ⟨rfl, p1⟩ w (by omega)).2
    rw [stepS_str] at h1
    rw [stepS_any]
    split at h1
    · rename_i e; obtain ⟨rfl, rfl, e⟩ := e
      simp only [Bool.and_eq_true] at e
      rw [h.1] at e ⊢
      exact tr k hk x y hx hy e.1 e.2
    · exact h.2 x y hx hy h1
  · intro hirr
    have hany : (hangN w M).any = (allF stepM w M).any := by
      refine allF_ind (st := stepS) (P := fun N => N.any = (allF stepM w M).any) (fun k i j N _ _ _ h => by rw [stepS_any, h]) rfl w (by omega)
    have tr : ∀ m, m < 6 → ∀ x y, x < 6 → y < 6 → (hangN w M).any x m = true → (hangN w M).any m y = true → (hangN w M).any x y = true := by rw [hany]; exact fun m hm => all_trans M w (by omega) m (by omega)
    have snd : ∀ x y, x < 6 → y < 6 → (hangN w M).str x y = true → StM (hangN w M).any M.str x y := by
      have base : ∀ x y, x < 6 → y < 6 → M.str x y = true → StM (hangN w M).any M.str x y := fun x y hx hy h => ⟨x, y, hx, hy, h, .inl rfl, .inl rfl⟩
      have go : ∀ (N : MM) k i j, k < 6 → i < 6 → j < 6 → (∀ x y, N.any x y = true → (hangN w M).any x y = true) → (∀ x y, x < 6 → y < 6 → N.str x y = true → StM (hangN w M).any M.str x y) → (N.any i k && N.any k j) = true → (N.str i j || N.str i k || N.str k j) = true → StM (hangN w M).any M.str i j := by
        intro N k i j hk hi hj ha hs e h1
        simp only [Bool.and_eq_true, Bool.or_eq_true] at e h1
        have a1 := ha _ _ e.1
        have a2 := ha _ _ e.2
        rcases h1 with (h1 | h1) | h1
        · exact hs i j hi hj h1
        · obtain ⟨u, v, hu, hv, h0, hx, hy⟩ := hs i k hi hk h1
          refine ⟨u, v, hu, hv, h0, hx, .inr ?_⟩
          rcases hy with rfl | hy
          · exact a2
          · exact tr k hk v j hv hj hy a2
        · obtain ⟨u, v, hu, hv, h0, hx, hy⟩ := hs k j hk hj h1
          refine ⟨u, v, hu, hv, h0, .inr ?_, hy⟩
          rcases hx with rfl | hx
          · exact a1
          · exact tr k hk i u hi hu a1 hx
      have q1 : (∀ x y, (allF stepM w M).any x y = true → (hangN w M).any x y = true) := fun x y h => by rw [hany]; exact h
      have s1 : ∀ n, n ≤ 6 → (∀ x y, (allF stepM n M).any x y = true → (hangN w M).any x y = true) → ∀ x y, x < 6 → y < 6 → (allF stepM n M).str x y = true → StM (hangN w M).any M.str x y := by
        intro n hn hq
        exact (allF_ind (st := stepM) (P := fun N => (∀ x y, N.any x y = true → (hangN w M).any x y = true) → ∀ x y, x < 6 → y < 6 → N.str x y = true → StM (hangN w M).any M.str x y) (fun k i j N hk hi hj h hq x y hx hy h1 => by
          have hq' : ∀ x y, N.any x y = true → (hangN w M).any x y = true := fun x y h => hq x y ((stepM_le k i j N).1 x y h)
          rw [stepM_str] at h1
          split at h1
          · rename_i e; obtain ⟨rfl, rfl, e⟩ := e
            exact go N k x y hk hx hy hq' (h hq') e h1
          · exact h hq' x y hx hy h1) (fun _ => base) n hn) hq
      have s1 := s1 w (by omega) q1
      exact (allF_ind (st := stepS) (P := fun N => N.any = (allF stepM w M).any ∧ ∀ x y, x < 6 → y < 6 → N.str x y = true → StM (hangN w M).any M.str x y) (fun k i j N hk hi hj h => ⟨by rw [stepS_any, h.1], fun x y hx hy h1 => by
          rw [stepS_str] at h1
          split at h1
          · rename_i e; obtain ⟨rfl, rfl, e⟩ := e
            exact go N k x y hk hx hy (fun a b hab => by rw [hany, ← h.1]; exact hab) h.2 e h1
          · exact h.2 x y hx hy h1⟩) ⟨rfl, s1⟩ w (by omega)).2
    have cmp : ∀ x y, x < 6 → y < 6 → StM (hangN w M).any M.str x y → (hangN w M).str x y = true := by
      rintro x y hx hy ⟨u, v, hu, hv, h0, hxu, hvy⟩
      have huv : u ≠ v := by
        rintro rfl
        have := hle.2 _ _ h0
        rw [hirr u hu] at this; cases this
      have hA1 : ∀ n, (allF stepS n (allF stepM w M)).any = (hangN w M).any := by
        intro n
        rw [hany]
        induction n with
        | zero => rfl
        | succ n ih =>
          rw [allF_succ]
          have hm : ∀ k n (N : MM), (matF stepS k n N).any = N.any := by
            intro k n N
            induction n with
            | zero => rfl
            | succ n ih2 =>
              rw [matF_succ]
              have hr : ∀ i n (N : MM), (rowF stepS k i n N).any = N.any := by
                intro i n N
                induction n with
                | zero => rfl
                | succ n ih3 => rw [rowF_succ, stepS_any, ih3]
              rw [hr, ih2]
          rw [hm, ih]
      have hS : ∀ n, ∀ a b, M.str a b = true → (allF stepS n (allF stepM w M)).str a b = true := fun n a b h => (allF_le stepS_le _ n).2 _ _ (hle1.2 _ _ h)
      have hMono : ∀ d n a b, (allF stepS n (allF stepM w M)).str a b = true → (allF stepS (n + d) (allF stepM w M)).str a b = true := by
        intro d
        induction d with
        | zero => exact fun n a b h => h
        | succ d ih => intro n a b h; rw [← Nat.add_assoc, allF_succ]; exact (matF_le stepS_le _ _ _).2 _ _ (ih n a b h)
      have hsub : ∀ a b, a < 6 → b < 6 → M.str a b = true → (hangN w M).any a b = true := fun a b ha hb h => hle.1 _ _ (sub a b ha hb h)
      have auv := hsub u v hu hv h0
      have over : ∀ k, k < 6 → ∀ a b, a < 6 → b < 6 → (hangN w M).any a k = true → (hangN w M).any k b = true → ((allF stepS k (allF stepM w M)).str a k = true ∨ (allF stepS k (allF stepM w M)).str k b = true) → (allF stepS (k + 1) (allF stepM w M)).str a b = true := by
        intro k hk a b ha hb h1 h2 h3
        rw [allF_succ]
        exact matS_str k hk _ a b ha hb (by rw [hA1]; exact h1) (by rw [hA1]; exact h2) h3
      have hau : x ≠ u → (hangN w M).any x u = true := fun h => hxu.resolve_left h
      have hvb : v ≠ y → (hangN w M).any v y = true := fun h => hvy.resolve_left h
      have fin : ∀ n, n ≤ 6 → (allF stepS n (allF stepM w M)).str x y = true → (hangN w M).str x y = true := by
        intro n hn h
        have := hMono (w - n) n x y h
        rw [show n + (w - n) = w by omega] at this
        exact this
      rcases Nat.lt_or_gt_of_ne huv with hlt | hgt
      · 
        have s1 : (allF stepS (u + 1) (allF stepM w M)).str x v = true := by
          by_cases e : x = u
          · rw [e]; exact hS _ _ _ h0
          · exact over u hu x v hx hv (hau e) auv (.inr (hS _ _ _ h0))
        by_cases e : v = y
        · subst e; exact fin (u + 1) (by omega) s1
        · have s2 : (allF stepS v (allF stepM w M)).str x v = true := by
            have := hMono (v - (u + 1)) (u + 1) x v s1
            rw [show u + 1 + (v - (u + 1)) = v by omega] at this
            exact this
          have axv : (hangN w M).any x v = true := by
            by_cases e : x = u
            · rw [e]; exact auv
            · exact tr u hu x v hx hv (hau e) auv
          exact fin (v + 1) (by omega) (over v hv x y hx hy axv (hvb e) (.inl s2))
      · have s1 : (allF stepS (v + 1) (allF stepM w M)).str u y = true := by
          by_cases e : v = y
          · subst e; exact hS _ _ _ h0
          · exact over v hv u y hu hy auv (hvb e) (.inl (hS _ _ _ h0))
        by_cases e : x = u
        · subst e; exact fin (v + 1) (by omega) s1
        · have s2 : (allF stepS u (allF stepM w M)).str u y = true := by
            have := hMono (u - (v + 1)) (v + 1) u y s1
            rw [show v + 1 + (u - (v + 1)) = u by omega] at this
            exact this
          have auy : (hangN w M).any u y = true := by
            by_cases e : v = y
            · subst e; exact auv
            · exact tr v hv u y hu hy auv (hvb e)
          exact fin (u + 1) (by omega) (over u hu x y hx hy (hau e) auy (.inr s2))
    intro x y z hx hy hz h1 h2
    obtain ⟨u, v, hu, hv, h0, hyu, hvz⟩ := snd y z hy hz h2
    refine cmp x z hx hz ⟨u, v, hu, hv, h0, .inr ?_, hvz⟩
    rcases hyu with rfl | hyu
    · exact h1
    · exact tr y hy x u hx hu h1 hyu
theorem hang_ok {E : List ED} {M : MM} (low : ∀ s, Sol E s → ∀ x y, (M.any x y = true → s y ≤ s x) ∧ (M.str x y = true → s y < s x))
    (edge : ∀ e ∈ E, M.any e.head e.on = true ∧ (e.up = 1 → M.str e.head e.on = true)) (sub : ∀ x y, x < 6 → y < 6 → M.str x y = true → M.any x y = true) : HgOk E (hangM M) := hang_okN 6 rfl low edge sub
theorem ans_round {E : List ED} {M : MM} (h : HgOk E M) (hE : ∀ e ∈ E, e.head < 6 ∧ e.on < 6 ∧ e.up ≤ 1) {o : Option (List Nat)} (ha : Ans E 6 o) : o = none ↔ ∃ x, x < 6 ∧ M.str x x = true := by
  constructor
  · intro e; subst e
    by_cases hr : ∃ x, x < 6 ∧ M.str x x = true
    · exact hr
    · exfalso
      have hirr : ∀ x, x < 6 → M.str x x = false := fun x hx => by
        cases hb : M.str x x with
        | false => rfl
        | true => exact absurd ⟨x, hx, hb⟩ hr
      have clos := h.clos hirr
      let t : Nat → Nat := fun i => ((List.range 6).filter fun j => M.str i j).length
      refine ha ⟨t, fun e he => ?_, fun i => ?_⟩
      · obtain ⟨h1, h2, h3⟩ := hE e he
        obtain ⟨h4, h5⟩ := h.edge e he
        have hsub : ∀ j, j < 6 → M.str e.on j = true → M.str e.head j = true := fun j hj hs => clos _ _ _ h1 h2 hj h4 hs
        by_cases hu : e.up = 1
        · rw [hu]
          have hs := h5 hu
          show ((List.range 6).filter fun j => M.str e.on j).length + 1 ≤ ((List.range 6).filter fun j => M.str e.head j).length
          have : ∀ l : List Nat, (∀ j ∈ l, j < 6) → (l.filter fun j => M.str e.on j).length + (if e.on ∈ l then 1 else 0) ≤ (l.filter fun j => M.str e.head j).length := by
            intro l
            induction l with
            | nil => intro _; simp
            | cons x l ih =>
              intro hl
              have ih := ih fun j hj => hl j (by simp [hj])
              have hx := hl x (by simp)
              by_cases e1 : e.on = x
              · subst e1
                rw [List.filter_cons, List.filter_cons, hirr _ hx, hs]
                simp only [Bool.false_eq_true, if_false, if_true, List.length_cons, List.mem_cons, true_or]
                split at ih <;> omega
              · have hmem : (e.on ∈ x :: l) ↔ e.on ∈ l := by simp [e1]
                simp only [hmem, List.filter_cons]
                cases hq : M.str e.on x with
                | true => rw [hsub x hx hq]; simp only [if_true, List.length_cons]; omega
                | false =>
                  cases M.str e.head x <;> simp only [if_true, Bool.false_eq_true, if_false, List.length_cons] <;> omega
          have := this (List.range 6) (fun j hj => List.mem_range.1 hj)
          rw [if_pos (List.mem_range.2 h2)] at this
          exact this
        · have hu0 : e.up = 0 := by omega
          rw [hu0]
          show ((List.range 6).filter fun j => M.str e.on j).length + 0 ≤ ((List.range 6).filter fun j => M.str e.head j).length
          have : ∀ l : List Nat, (∀ j ∈ l, j < 6) → (l.filter fun j => M.str e.on j).length ≤ (l.filter fun j => M.str e.head j).length := by
            intro l
            induction l with
            | nil => intro _; simp
            | cons x l ih =>
              intro hl
              have ih := ih fun j hj => hl j (by simp [hj])
              have hx := hl x (by simp)
              simp only [List.filter_cons]
              cases hq : M.str e.on x with
              | true => rw [hsub x hx hq]; simp only [if_true, List.length_cons]; omega
              | false => cases M.str e.head x <;> simp only [if_true, Bool.false_eq_true, if_false, List.length_cons] <;> omega
          exact this _ (fun j hj => List.mem_range.1 hj)
      · have := List.length_filter_le (fun j => M.str i j) (List.range 6)
        simpa using this
  · rintro ⟨x, hx, hs⟩
    cases o with
    | none => rfl
    | some l => have := (h.low (gN l) ha.2.1 x x).2 hs; omega
def bestM (M : MM) (l : List Nat) (i : Nat) : Nat → Nat
  | 0 => 0
  | n + 1 => if M.str i n = true then max (bestM M l i n) (gN l n + 1) else bestM M l i n
theorem best_le (M : MM) (l : List Nat) (i b : Nat) : ∀ n, (bestM M l i n ≤ b ↔ ∀ j, j < n → M.str i j = true → gN l j + 1 ≤ b)
  | 0 => by simp [bestM]
  | n + 1 => by
    unfold bestM
    split
    · rename_i h
      rw [Nat.max_le, best_le M l i b n]
      constructor
      · rintro ⟨h1, h2⟩ j hj hs
        by_cases e : j = n
        · subst e; exact h2
        · exact h1 j (by omega) hs
      · exact fun h1 => ⟨fun j hj => h1 j (by omega), h1 n (by omega) h⟩
    · rename_i h
      rw [best_le M l i b n]
      constructor
      · intro h1 j hj hs
        by_cases e : j = n
        · subst e; exact absurd hs h
        · exact h1 j (by omega) hs
      · exact fun h1 j hj => h1 j (by omega)
theorem ans_best {E : List ED} {M : MM} (h : HgOk E M) (hE : ∀ e ∈ E, e.head < 6 ∧ e.on < 6 ∧ e.up ≤ 1) {l : List Nat} (ha : Ans E 6 (some l)) (i : Nat) (hi : i < 6) : gN l i = bestM M l i 6 := by
  have low := h.low (gN l) ha.2.1
  have hirr : ∀ x, x < 6 → M.str x x = false := fun x hx => by
    cases hb : M.str x x with
    | false => rfl
    | true => have := (low x x).2 hb; omega
  have clos := h.clos hirr
  apply Nat.le_antisymm
  · have : Sol E (fun i => bestM M l i 6) := fun e he => by
      obtain ⟨h1, h2, h3⟩ := hE e he
      obtain ⟨h4, h5⟩ := h.edge e he
      show bestM M l e.on 6 + e.up ≤ bestM M l e.head 6
      have hb := (best_le M l e.head (bestM M l e.head 6) 6).1 (Nat.le_refl _)
      by_cases hu : e.up = 1
      · have hs := h5 hu
        have := hb e.on h2 hs
        have : bestM M l e.on 6 ≤ gN l e.on := (best_le M l e.on _ 6).2 fun j hj hsj => (low e.on j).2 hsj
        omega
      · have hu0 : e.up = 0 := by omega
        rw [hu0, Nat.add_zero]
        exact (best_le M l e.on _ 6).2 fun j hj hsj => hb j hj (clos _ _ _ h1 h2 hj h4 hsj)
    exact ha.2.2.2 _ this i
  · exact (best_le M l i _ 6).2 fun j hj hs => (low i j).2 hs
end Go.Proofs.Ytpgakkhfjjhpdaa
end
section
namespace Go.Proofs.Ytpgakkhfjjhpdaa
open Go.Mach
def atP (ds : List GD) (n : ByteArray) : Nat := ds.findIdx fun d => decide (d.name = n)
def upL (r : GR) (l : GL) : Option Nat := if l.kind = 2 ∨ (l.kind = 1 ∧ r.agg ≠ ⟨#[]⟩) then some 1 else if l.kind = 1 then some 0 else none
def edgeL (ds : List GD) (r : GR) (l : GL) : Option ED := (upL r l).map fun u => ⟨atP ds r.head, atP ds l.name, u⟩
def edgesR (ds : List GD) (r : GR) : List ED := r.body.filterMap (edgeL ds r)
def edgesP (p : GP) : List ED := p.rules.flatMap (edgesR p.decls)
theorem upL_some {r : GR} {l : GL} : (upL r l).isSome = true ↔ l.kind = 1 ∨ l.kind = 2 := by
  unfold upL
  split
  · rename_i h; simp; rcases h with h | h
    · exact .inr h
    · exact .inl h.1
  · split
    · rename_i h; simp [h]
    · rename_i h1 h2; simp; exact ⟨h2, fun h => h1 (.inl h)⟩
theorem upL_le {r : GR} {l : GL} {u : Nat} (h : upL r l = some u) : u ≤ 1 := by
  unfold upL at h
  split at h
  · injection h with h; omega
  · split at h
    · injection h with h; omega
    · cases h
theorem mem_edges {p : GP} {e : ED} : e ∈ edgesP p ↔ ∃ r ∈ p.rules, ∃ l ∈ r.body, edgeL p.decls r l = some e := by
  unfold edgesP edgesR
  simp only [List.mem_flatMap, List.mem_filterMap]
theorem first_zero {p : GP} : ∀ (rs : List GR) (i : Nat), (firstP p rs i).1 = 0 → ∀ r ∈ rs, ruleP p r = 0
  | [], _, _, r, h => by cases h
  | r :: rs, i, h, x, hx => by
    simp only [firstP] at h
    by_cases hz : ruleP p r = 0
    · rw [if_neg (by simpa using hz)] at h
      rcases List.mem_cons.1 hx with rfl | hx
      · exact hz
      · exact first_zero rs (i + 1) h x hx
    · rw [if_pos hz] at h; exact absurd h hz
theorem arity_at {p : GP} {n : ByteArray} (h : arityP p n ≠ 0) : atP p.decls n < p.decls.length := by
  unfold arityP at h
  cases hf : p.decls.find? (fun d => decide (d.name = n)) with
  | none => rw [hf] at h; exact absurd rfl h
  | some d =>
    have h1 := List.find?_some hf
    exact List.findIdx_lt_length_of_exists ⟨d, List.mem_of_find?_eq_some hf, h1⟩
structure ChkOk (p : GP) : Prop where
  prog : progB p = true
  dup : dupD [] p.decls = false
  head : ∀ r ∈ p.rules, atP p.decls r.head < p.decls.length
  on : ∀ r ∈ p.rules, ∀ l ∈ r.body, l.kind = 1 ∨ l.kind = 2 → atP p.decls l.name < p.decls.length
theorem chk_ok {p : GP} (h : (checkP p).1 = 0) : ChkOk p := by
  unfold checkP at h
  cases hp : progB p with
  | false => rw [hp] at h; simp at h
  | true =>
    cases hd : dupD [] p.decls with
    | true => rw [hp, hd] at h; simp at h
    | false =>
      rw [hp, hd] at h
      simp only [Bool.true_eq_false, if_false, Bool.false_eq_true] at h
      by_cases hb : p.facts.any (badF p) = true
      · rw [if_pos hb] at h; simp at h
      · rw [if_neg hb] at h
        have hz := first_zero _ _ h
        have hrules : ∀ r ∈ p.rules, ruleB r = true := by
          unfold progB at hp
          simp only [Bool.and_eq_true, List.all_eq_true] at hp
          exact hp.1.2
        have hrel : ∀ r ∈ p.rules, relsB p r = true := fun r hr => by
          have := hz r hr
          unfold ruleP at this
          cases hq : relsB p r with
          | true => rfl
          | false => rw [hq] at this; simp at this
        refine ⟨hp, hd, fun r hr => arity_at ?_, fun r hr l hl hk => arity_at ?_⟩
        · have h1 := hrel r hr
          have h2 := hrules r hr
          unfold relsB at h1
          unfold ruleB argsB at h2
          simp only [Bool.and_eq_true, decide_eq_true_eq] at h1 h2
          omega
        · have h1 := hrel r hr
          have h2 := hrules r hr
          unfold relsB at h1
          unfold ruleB at h2
          simp only [Bool.and_eq_true, decide_eq_true_eq, Bool.not_eq_true', List.any_eq_false] at h1 h2
          have h3 := h1.2 l hl
          have h4 := List.all_eq_true.1 h2.1.2 l hl
          unfold badL at h3
          have h5 : arityP p l.name = (l.args.length : Int) := by
            rcases hk with hk | hk <;> simpa [hk] using h3
          have h6 : 1 ≤ l.args.length := by
            unfold litB at h4
            rcases hk with hk | hk
            · simp [hk, argsB] at h4
              omega
            · simp [hk, argsB] at h4
              omega
          omega
theorem edge_lt {p : GP} (h : ChkOk p) {e : ED} (he : e ∈ edgesP p) : e.head < p.decls.length ∧ e.on < p.decls.length ∧ e.up ≤ 1 := by
  obtain ⟨r, hr, l, hl, h1⟩ := mem_edges.1 he
  unfold edgeL at h1
  obtain ⟨u, hu, rfl⟩ := Option.map_eq_some_iff.1 h1
  exact ⟨h.head r hr, h.on r hr l hl (upL_some.1 (by rw [hu]; rfl)), upL_le hu⟩
end Go.Proofs.Ytpgakkhfjjhpdaa
end
section
namespace Go.Proofs.Ytpgakkhfjjhpdaa
open Go.Mach
def encI (m : List (ByteArray × Nat)) : List (AV × AV) := m.map fun p => (.str p.1, .int .i64 (p.2 : Int))
def lookI (m : List (ByteArray × Nat)) (a : ByteArray) : Option Nat := (m.find? fun p => decide (p.1 = a)).map (·.2)
def idxI8 (a : ByteArray) : List (ByteArray × Nat) → Nat
  | [] => 0
  | p :: m => if a = p.1 then 0 else idxI8 a m + 1
theorem mfind_i (a : ByteArray) : ∀ (m : List (ByteArray × Nat)) (i : Nat), mfind false [2] [.str a] i (encI m) = some ((lookI m a).map fun v => (i + idxI8 a m, .int .i64 (v : Int)))
  | [], i => rfl
  | p :: m, i => by
    have ih := mfind_i a m (i + 1)
    simp only [encI, List.map_cons, mfind, keyC, Bool.false_eq_true, if_false, Option.bind_some, eqcs_str, eqcs_nil, Option.map_some, Bool.and_true] at ih ⊢
    by_cases h : a = p.1
    · simp [lookI, List.find?_cons, idxI8, h]
    · have hl : lookI (p :: m) a = lookI m a := by
        unfold lookI
        rw [List.find?_cons]
        have : decide (p.1 = a) = false := decide_eq_false fun e => h e.symm
        rw [this]
      rw [decide_eq_false h, hl]
      simp only [ih, idxI8, if_neg h]
      congr 2
      funext v
      congr 1
      omega
theorem mlook_i {σ : Heap} {id : Nat} {m : List (ByteArray × Nat)} (h : σ[id]? = some (.mp (encI m))) (a : ByteArray) : mlookA σ false [2] (.int .i64 0) false (.map id) (.str a) = some (.int .i64 ((lookI m a).getD 0 : Nat)) := by
  simp only [mlookA, keyC, Bool.false_eq_true, if_false, Option.bind_some, eqcs_str, eqcs_nil, Option.map_some, Option.isSome_some, if_true, mapOf, h, mfind_i]
  cases lookI m a <;> simp [lookV]
theorem mset_i {σ : Heap} {id : Nat} {m : List (ByteArray × Nat)} (h : σ[id]? = some (.mp (encI m))) (a : ByteArray) (i : Nat) (hn : lookI m a = none) : msetA σ false [2] (.map id) (.str a) (.int .i64 (i : Int)) = some (σ.set id (.mp (encI (m ++ [(a, i)])))) := by
  have hcl : closeA σ (.int .i64 (i : Int)) = some (.int .i64 (i : Int), σ) := by simp
  simp only [msetA, keyC, Bool.false_eq_true, if_false, Option.bind_some, eqcs_str, eqcs_nil, Option.map_some, Option.isSome_some, true_and, hcl, h, mfind_i, hn, Option.map_none]
  simp [encI, AV.clo, AV.clo1]
def numP (ds : List GD) : List (ByteArray × Nat) := ds.zipIdx.map fun p => (p.1.name, p.2)
theorem look_none {m : List (ByteArray × Nat)} {a : ByteArray} (h : ∀ p ∈ m, p.1 ≠ a) : lookI m a = none := by
  unfold lookI
  have : m.find? (fun p => decide (p.1 = a)) = none := by
    rw [List.find?_eq_none]
    exact fun p hp => by simpa using h p hp
  rw [this]; rfl
theorem num_take (ds : List GD) (i : Nat) (h : i < ds.length) : numP (ds.take (i + 1)) = numP (ds.take i) ++ [(ds[i].name, i)] := by
  unfold numP
  rw [List.take_succ_eq_append_getElem h, List.zipIdx_append]
  have : (ds.take i).length = i := by simp; omega
  simp [this]
theorem num_mem {ds : List GD} {p : ByteArray × Nat} (h : p ∈ numP ds) : ∃ hi : p.2 < ds.length, ds[p.2].name = p.1 := by
  unfold numP at h
  obtain ⟨⟨d, i⟩, hd, rfl⟩ := List.mem_map.1 h
  have := List.mem_zipIdx_iff_getElem?.1 hd
  simp only at this
  obtain ⟨hi, e⟩ := List.getElem?_eq_some_iff.1 this
  exact ⟨hi, by simp [e]⟩
theorem look_num (n : ByteArray) : ∀ (ds : List GD) (k : Nat), lookI ((ds.zipIdx k).map fun p => (p.1.name, p.2)) n = if atP ds n < ds.length then some (k + atP ds n) else none
  | [], k => by simp [lookI, atP]
  | d :: ds, k => by
    have ih := look_num n ds (k + 1)
    unfold lookI atP at *
    simp only [List.zipIdx_cons, List.map_cons, List.find?_cons, List.findIdx_cons]
    by_cases h : d.name = n
    · simp [h]
    · simp only [decide_eq_false h, cond_false, List.length_cons, Nat.add_lt_add_iff_right]
      rw [ih]
      split
      · congr 1; omega
      · rfl
theorem look_at {ds : List GD} {n : ByteArray} (h : atP ds n < ds.length) : (lookI (numP ds) n).getD 0 = atP ds n := by
  have := look_num n ds 0
  unfold numP
  rw [this, if_pos h]; simp
theorem dup_names : ∀ (ds : List GD) (b : List ByteArray), dupD b ds = false → (∀ d ∈ ds, d.name ∉ b) ∧ (ds.map GD.name).Nodup
  | [], b, _ => by simp
  | d :: ds, b, h => by
    simp only [dupD, Bool.or_eq_false_iff] at h
    obtain ⟨h1, h2⟩ := dup_names ds _ h.2
    have hd : d.name ∉ b := fun e => by rw [(memB_iff _ _).2 e] at h; cases h.1
    have hmem : ∀ m, m ∈ addB b d.name ↔ m ∈ b ∨ m = d.name := by
      intro m
      unfold addB
      rw [h.1]
      simp
    refine ⟨fun x hx => ?_, ?_⟩
    · rcases List.mem_cons.1 hx with rfl | hx
      · exact hd
      · exact fun e => h1 x hx ((hmem _).2 (.inl e))
    · rw [List.map_cons, List.nodup_cons]
      refine ⟨fun e => ?_, h2⟩
      obtain ⟨x, hx, e⟩ := List.mem_map.1 e
      exact h1 x hx ((hmem _).2 (.inr e))
theorem num_new {ds : List GD} (h : dupD [] ds = false) {i : Nat} (hi : i < ds.length) : lookI (numP (ds.take i)) ds[i].name = none := by
  apply look_none
  intro p hp e
  obtain ⟨hlt, hn⟩ := num_mem hp
  have hpi : p.2 < i := by simp at hlt; omega
  have hnd := (dup_names ds [] h).2
  have := (List.getElem_inj (h₀ := by simp; omega) (h₁ := by simpa using hi) hnd (i := p.2) (j := i)).1 (by simp at hn ⊢; rw [hn, e])
  omega
end Go.Proofs.Ytpgakkhfjjhpdaa
end
section
set_option maxRecDepth 100000
namespace Go.Proofs.Ytpgakkhfjjhpdaa
open Go.Mach
theorem numbers_call (p : GP) (hd : dupD [] p.decls = false) (hl : p.decls.length ≤ 1000000000) (bs : Nat) (σ : Heap) (hbs : bs ≤ σ.length) :
    ∃ r, callT T 23 [p.enc] bs σ = some r ∧ (r.1 = .map (σ.length + 1) ∧ σ.length + 2 ≤ r.2.length ∧ (∀ i, i < σ.length → r.2[i]? = σ[i]?) ∧ r.2[σ.length + 1]? = some (.mp (encI (numP p.decls)))) := by
  refine heap_enterE (args' := [p.enc]) (σ1 := σ) (af := c23) rfl rfl (by simp [c23]) (by simp [c23]) (by simp [closeArgs, c23]) ?_
  have hbs1 : bs ≤ σ.length + 1 := by omega
  simp [c23, baseA, hbs, hbs1]
  refine W_for T bs 21 p.decls.length (fun i f τ => f 3 = .map (σ.length + 1) ∧ f 8 = .isl (p.decls.map GD.enc) false ∧ f 9 = .int .i64 (p.decls.length : Int) ∧ f 10 = .int .i64 (i : Int) ∧ σ.length + 2 ≤ τ.length ∧ (∀ i, i < σ.length → τ[i]? = σ[i]?) ∧ τ[σ.length + 1]? = some (.mp (encI (numP (p.decls.take i))))) ?_ _ _ ?_
  · rintro i f τ hi ⟨h3, h8, h9, h10, hN, hk, hm⟩
    by_cases hlt : i < p.decls.length
    · have hw : IntKind.i64.wrap ((i : Int) + 1) = (i : Int) + 1 := wr64 (by omega) (by omega)
      have e0 : p.decls[i]? = some p.decls[i] := List.getElem?_eq_getElem hlt
      have hnew := num_new hd hlt
      have htk := num_take p.decls i hlt
      have hm2 : ∀ o, (τ ++ [o])[σ.length + 1]? = some (.mp (encI (numP (p.decls.take i)))) := fun o => by rw [List.getElem?_append_left (by omega)]; exact hm
      have hset := fun o => mset_i (hm2 o) p.decls[i].name i hnew
      rw [htk]
      have hbt : bs ≤ τ.length := by omega
      simp [-getElem?_pos, List.getElem?_append_left, List.getElem?_append_right, List.getElem?_cons_zero, List.getElem?_cons_succ, list_set_at, h3, h8, h9, h10, hlt, e0, hw, hset, hbt, setRun]
      refine ⟨by omega, fun j hj => ?_, ?_⟩
      rotate_left 1
      · rw [list_set_at (by simp; omega)]
      rw [List.getElem?_set_ne (by omega), List.getElem?_append_left (by omega)]
      exact hk j hj
    · have he : i = p.decls.length := by omega
      subst he
      rw [List.take_length] at hm
      simp [h3, h8, h9, h10]
      exact ⟨hN, hk, hm⟩
  · simp [numP, encI]
    exact fun j hj => by rw [List.getElem?_append_left (by omega)]
section
open Go.Mach
variable {T : Tab} {bs n : Nat}
theorem stW_app2T {σ0 : Heap} {o : AObj} {sz bytes fj N : Nat} {ej : Bool} {ds : List AV} {es : List AV} {x : AV} {d : Option Nat} {os : List AOper} {k : List Fr} {f : FR} {τ : Heap} {Q : AExit → FR → Heap → Prop}
    (hx : LX N sz σ0 es x) (hd : ds.length = sz) (hdc : ds.all AV.clo1 = true) (h0 : 0 < sz) (hb : bytes ≤ 1000) (hN : N ≤ σ0.length) (hl : es.length ≤ 1000000000)
    (h : ∀ x' σ', LO N sz true σ' (es ++ [.agg (ds.map AV.nrm)]) x' → σ0.length + 2 ≤ σ'.length → (∀ i o, σ0[i]? = some o → (i < N ∨ ((∀ n, o ≠ .tok n sz) ∧ ∀ cs fz, o = .cells cs fz false → cs.length ≠ sz)) → σ'[i]? = some o) → wpK T bs n (.ops os :: k) (updO f d x') σ' Q) :
    stW T bs n (appendC (σ0 ++ [o, .cells ds fj ej]) sz true bytes false x (.sl (σ0.length + 1) 0 1 sz true)) d [] os k f τ Q := by
  have hj : (σ0 ++ [o, .cells ds fj ej])[σ0.length + 1]? = some (.cells ds fj ej) := by simp
  obtain ⟨x', σ', h1, h2, h3, h4⟩ := app_any0 (bytes := bytes) (closeX_idem hj hdc) hj hd hdc h0 hb hx (fun i hi => List.getElem?_append_left hi) (by omega) hN hl
  rw [h1]
  exact ⟨rfl, h x' σ' h2 (by simpa using h3) h4⟩
end
theorem LX_closeR {N sz : Nat} {σ : Heap} {es : List AV} {x : AV} (h : LX N sz σ es x) : ∃ σ', Go.Mach.closeR σ x = some (.isl es false, σ') := by
  obtain ⟨σ', hcl, _⟩ := h.closeA
  rcases h with ⟨_, e⟩ | ⟨_, _, _, e, _⟩ | ⟨_, e, _⟩ <;> (rw [e] at hcl ⊢; exact ⟨σ', hcl⟩)
def encE (e : ED) : AV := .agg [.int .i64 (e.head : Int), .int .i64 (e.on : Int), .int .i64 (e.up : Int)]
def rCells8 (r : GR) : AObj := .cells [.str r.label, .str r.head, .isl (GT.encs r.args) false, .str r.agg, .int .i64 r.pos, .isl (r.body.map GL.enc) false] 0 false
def accE (p : GP) (i : Nat) (r : GR) (k : Nat) : List ED := (p.rules.take i).flatMap (edgesR p.decls) ++ (r.body.take k).filterMap (edgeL p.decls r)
theorem accE_len {p : GP} (hb : ∀ r ∈ p.rules, r.body.length ≤ 8) (i : Nat) (r : GR) (k : Nat) (hr : r.body.length ≤ 8) : (accE p i r k).length ≤ p.rules.length * 8 + 8 := by
  have h1 : ∀ l : List GR, (∀ r ∈ l, r.body.length ≤ 8) → (l.flatMap (edgesR p.decls)).length ≤ l.length * 8 := by
    intro l
    induction l with
    | nil => intro _; simp
    | cons x l ih =>
      intro h
      have := ih fun y hy => h y (by simp [hy])
      have hx := h x (by simp)
      have h2 : (edgesR p.decls x).length ≤ x.body.length := List.length_filterMap_le ..
      rw [List.flatMap_cons, List.length_append, List.length_cons]
      omega
  have h2 := h1 (p.rules.take i) fun r hr => hb r (List.mem_of_mem_take hr)
  have h3 : ((r.body.take k).filterMap (edgeL p.decls r)).length ≤ (r.body.take k).length := List.length_filterMap_le ..
  have h4 : (r.body.take k).length ≤ r.body.length := by simp; omega
  have h5 : (p.rules.take i).length ≤ p.rules.length := by simp; omega
  unfold accE
  rw [List.length_append]
  have : (p.rules.take i).length * 8 ≤ p.rules.length * 8 := Nat.mul_le_mul_right _ h5
  omega
theorem accE_step (p : GP) (i : Nat) (r : GR) (k : Nat) (hk : k < r.body.length) : accE p i r (k + 1) = accE p i r k ++ (edgeL p.decls r r.body[k]).toList := by
  have h : ([r.body[k]] : List GL).filterMap (edgeL p.decls r) = (edgeL p.decls r r.body[k]).toList := by
    simp only [List.filterMap_cons, List.filterMap_nil]
    cases edgeL p.decls r r.body[k] <;> rfl
  unfold accE
  rw [List.take_succ_eq_append_getElem hk, List.filterMap_append, h, List.append_assoc]
theorem accE_next (p : GP) (i : Nat) (hi : i < p.rules.length) (r' : GR) : accE p (i + 1) r' 0 = accE p i p.rules[i] p.rules[i].body.length := by
  unfold accE
  rw [List.take_succ_eq_append_getElem hi, List.flatMap_append, List.take_length]
  simp [edgesR]
theorem edges_ok (p : GP) (hc : ChkOk p) (hp : p.size ≤ 1000000000) : pureT T c21 [p.enc] = some (.isl ((edgesP p).map encE) false) := by
  have hlr := GP.rules_len p
  have hld := GP.decls_len p
  have hlens : p.rules.length ≤ 64 ∧ ∀ r ∈ p.rules, r.body.length ≤ 8 := by
    have h := hc.prog
    unfold progB at h
    simp only [Bool.and_eq_true, decide_eq_true_eq, List.all_eq_true] at h
    refine ⟨h.1.1.1.2.2, fun r hr => ?_⟩
    have := h.1.2 r hr
    unfold ruleB at this
    simp only [Bool.and_eq_true, decide_eq_true_eq] at this
    omega
  obtain ⟨⟨v, σ1⟩, hcall, hv, hl1, hk1, hm1⟩ := numbers_call p hc.dup (by omega) 0 [.cells [.isl (p.decls.map GD.enc) false, .isl (p.facts.map GU.enc) false, .isl (p.rules.map GR.enc) false] 0 false] (by simp)
  simp only [List.length_singleton] at hv hl1 hk1 hm1
  subst hv
  have h01 := hk1 0 (by omega)
  apply pure_enter (by simp [c21])
  simp only [GP.enc_eq] at hcall
  simp [c21, hcall, GP.enc_eq, h01]
  refine W_for T 0 58 p.rules.length (fun i f τ => f 3 = .map 2 ∧ f 12 = .isl (p.rules.map GR.enc) false ∧ f 13 = .int .i64 (p.rules.length : Int) ∧ f 14 = .int .i64 (i : Int) ∧ 3 ≤ τ.length ∧ τ[2]? = some (.mp (encI (numP p.decls))) ∧ LX 3 3 τ ((accE p i default 0).map encE) (f 2)) ?_ _ _ ?_
  · rintro i f τ hi ⟨h3, h12, h13, h14, hN, hm, hX⟩
    by_cases hlt : i < p.rules.length
    · have hw : IntKind.i64.wrap ((i : Int) + 1) = (i : Int) + 1 := wr64 (by omega) (by omega)
      have e0 : p.rules[i]? = some p.rules[i] := List.getElem?_eq_getElem hlt
      have hrm := List.getElem_mem hlt
      have hb8 := hlens.2 _ hrm
      have hnext := fun r' => accE_next p i hlt r'
      have hst : accE p i default 0 = accE p i p.rules[i] 0 := by unfold accE; simp
      rw [hst] at hX
      have hhd := look_at (hc.head _ hrm)
      have hon := fun l hl hk => look_at (hc.on _ hrm l hl hk)
      generalize p.rules[i] = r at *
      simp [-getElem?_pos, List.getElem?_append_left, List.getElem?_append_right, List.getElem?_cons_zero, List.getElem?_cons_succ, list_set_at, h3, h12, h13, h14, hlt, e0, GR.enc_eq, setRun]
      refine W_for T 0 58 r.body.length (fun k g τ' => g 3 = .map 2 ∧ g 5 = .ptr τ.length 0 ∧ g 12 = .isl (p.rules.map GR.enc) false ∧ g 13 = .int .i64 (p.rules.length : Int) ∧ g 14 = .int .i64 (i : Int) ∧ g 19 = .isl (r.body.map GL.enc) false ∧ g 20 = .int .i64 (r.body.length : Int) ∧ g 21 = .int .i64 (k : Int) ∧ τ.length + 1 ≤ τ'.length ∧ τ'[2]? = some (.mp (encI (numP p.decls))) ∧ τ'[τ.length]? = some (rCells8 r) ∧ LX 3 3 τ' ((accE p i r k).map encE) (g 2)) ?_ _ _ ?_
      · clear hX hm h3 h12 h13 h14
        rintro k g τ' hki ⟨g3, g5, g12, g13, g14, g19, g20, g21, gN, gm, gr, gX⟩
        by_cases hkl : k < r.body.length
        · have hwk : IntKind.i64.wrap ((k : Int) + 1) = (k : Int) + 1 := wr64 (by omega) (by omega)
          have e1 : r.body[k]? = some r.body[k] := List.getElem?_eq_getElem hkl
          have hstep := accE_step p i r k hkl
          have hlen := accE_len hlens.2 i r k hb8
          have hlm := List.getElem_mem hkl
          rw [hstep]
          generalize hl' : r.body[k] = l at *
          have gr2 := gr
          unfold rCells8 at gr
          have q3 : 3 ≤ τ'.length := by omega
          have n2 : 2 < τ'.length := by omega
          have nt : τ.length < τ'.length := by omega
          have hlk : ∀ o a, mlookA (τ' ++ [o]) false [2] (.int .i64 0) false (.map 2) (.str a) = some (.int .i64 ((lookI (numP p.decls) a).getD 0 : Nat)) := fun o a => mlook_i (by rw [List.getElem?_append_left n2]; exact gm) a
          by_cases k2 : l.kind = 2
          · have hon' := hon l hlm (.inr k2)
            have hed : edgeL p.decls r l = some ⟨atP p.decls r.head, atP p.decls l.name, 1⟩ := by unfold edgeL upL; simp [k2]
            rw [hed]
            simp [-getElem?_pos, -appendA_ag, List.getElem?_append_left, List.getElem?_append_right, List.getElem?_cons_zero, List.getElem?_cons_succ, list_set_at, g3, g5, g12, g13, g14, g19, g20, g21, hkl, e1, GL.enc_eq, setRun, gr, n2, nt, hlk, k2, hhd, hon']
            refine stW_app2T (N := 3) gX rfl rfl (by omega) (by omega) q3 (by simp; omega) fun x1 τ1 hO1 l1 q4 => ?_
            have r2 := q4 2 _ gm (.inl (by omega))
            have r5 := q4 τ.length _ gr2 (.inr ⟨fun n h => (by unfold rCells8 at h; cases h), fun cs fz h => (by unfold rCells8 at h; injection h with h; subst h; simp)⟩)
            simp [g3, g5, g12, g13, g14, g19, g20, g21, hwk, r2, r5]
            exact ⟨by omega, by simpa [encE] using hO1.toLX⟩
          · by_cases k1 : l.kind = 1
            · have hon' := hon l hlm (.inl k1)
              by_cases ka : r.agg = ⟨#[]⟩
              · have ka' := eq_true ka
                have hed : edgeL p.decls r l = some ⟨atP p.decls r.head, atP p.decls l.name, 0⟩ := by unfold edgeL upL; simp [k1, k2, ka']
                rw [hed]
                simp [-getElem?_pos, -appendA_ag, List.getElem?_append_left, List.getElem?_append_right, List.getElem?_cons_zero, List.getElem?_cons_succ, list_set_at, g3, g5, g12, g13, g14, g19, g20, g21, hkl, e1, GL.enc_eq, setRun, gr, n2, nt, hlk, k1, k2, ka', hhd, hon']
                refine stW_app2T (N := 3) gX rfl rfl (by omega) (by omega) q3 (by simp; omega) fun x1 τ1 hO1 l1 q4 => ?_
                have r2 := q4 2 _ gm (.inl (by omega))
                have r5 := q4 τ.length _ gr2 (.inr ⟨fun n h => (by unfold rCells8 at h; cases h), fun cs fz h => (by unfold rCells8 at h; injection h with h; subst h; simp)⟩)
                simp [g3, g5, g12, g13, g14, g19, g20, g21, hwk, r2, r5]
                exact ⟨by omega, by simpa [encE] using hO1.toLX⟩
              · have hed : edgeL p.decls r l = some ⟨atP p.decls r.head, atP p.decls l.name, 1⟩ := by unfold edgeL upL; simp [k1, k2, ka]
                rw [hed]
                simp [-getElem?_pos, -appendA_ag, List.getElem?_append_left, List.getElem?_append_right, List.getElem?_cons_zero, List.getElem?_cons_succ, list_set_at, g3, g5, g12, g13, g14, g19, g20, g21, hkl, e1, GL.enc_eq, setRun, gr, n2, nt, hlk, k1, k2, ka, hhd, hon']
                refine stW_app2T (N := 3) gX rfl rfl (by omega) (by omega) q3 (by simp; omega) fun x1 τ1 hO1 l1 q4 => ?_
                have r2 := q4 2 _ gm (.inl (by omega))
                have r5 := q4 τ.length _ gr2 (.inr ⟨fun n h => (by unfold rCells8 at h; cases h), fun cs fz h => (by unfold rCells8 at h; injection h with h; subst h; simp)⟩)
                simp [g3, g5, g12, g13, g14, g19, g20, g21, hwk, r2, r5]
                exact ⟨by omega, by simpa [encE] using hO1.toLX⟩
            · have hed : edgeL p.decls r l = none := by unfold edgeL upL; simp [k1, k2]
              rw [hed]
              simp [-getElem?_pos, -appendA_ag, List.getElem?_append_left, List.getElem?_append_right, List.getElem?_cons_zero, List.getElem?_cons_succ, list_set_at, g3, g5, g12, g13, g14, g19, g20, g21, hkl, e1, GL.enc_eq, setRun, gr, n2, nt, hlk, k1, k2, hwk]
              exact ⟨by omega, gm, rfl, gX.app _⟩
        · have hke : k = r.body.length := by omega
          subst hke
          rw [hnext default]
          simp [g3, g5, g12, g13, g14, g19, g20, g21, hw, gm]
          exact ⟨by omega, gX⟩
      · simp [hm]
        exact ⟨h3, h12, h13, h14, by rw [List.getElem?_append_left (by omega)]; exact hm, rfl, hX.app _⟩
    · have he : i = p.rules.length := by omega
      have hall : accE p i default 0 = edgesP p := by unfold accE edgesP; rw [he, List.take_length]; simp
      rw [hall] at hX
      obtain ⟨σ2, hcl⟩ := LX_closeR hX
      simp [h3, h12, h13, h14, he, hcl]
  · simp
    exact ⟨by omega, hm1, .inl ⟨by simp [accE], rfl⟩⟩
end Go.Proofs.Ytpgakkhfjjhpdaa
end
