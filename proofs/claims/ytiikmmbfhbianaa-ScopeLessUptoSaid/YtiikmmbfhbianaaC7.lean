import Derived.Test.YtiikmmbfhbianaaC6
import Derived.Test.YtiikmmbfhbianaaC4
section
set_option linter.unusedVariables false
set_option linter.unusedSimpArgs false
set_option linter.unnecessarySimpa false
namespace Go.Proofs.Ytiikmmbfhbianaa
open Go.Mach
def arityP (p : GP) (n : ByteArray) : Int := match p.decls.find? (fun d => decide (d.name = n)) with
  | some d => d.arity
  | none => 0
theorem idxG_find {α : Type} (q : α → Bool) (l : List α) : (idxG q l < 0 ∧ l.find? q = none) ∨ ∃ i, ∃ h : i < l.length, idxG q l = (i : Int) ∧ l.find? q = some l[i] := by
  unfold idxG
  cases h : l.findIdx? q with
  | none =>
    refine .inl ⟨by simp, ?_⟩
    rw [List.findIdx?_eq_none_iff] at h
    rw [List.find?_eq_none]
    exact fun x hx => by simp [h x hx]
  | some i =>
    obtain ⟨hi, hp, hall⟩ := List.findIdx?_eq_some_iff_getElem.1 h
    refine .inr ⟨i, hi, rfl, ?_⟩
    rw [List.find?_eq_some_iff_append]
    refine ⟨hp, l.take i, l.drop (i + 1), by rw [List.getElem_cons_drop, List.take_append_drop], fun x hx => ?_⟩
    obtain ⟨j, hj, rfl⟩ := List.getElem_of_mem hx
    have := hall j (by simp at hj; omega)
    simpa using this
theorem arity1_call (d : GD) (n : ByteArray) {k : Nat} (bs : Nat) (σ : Heap) (h : σ[k]? = some (.cells [.str n] 0 false)) : callT T 32 [d.enc, .ptr k 0] bs σ = some (.bool (decide (d.name = n)), σ) := by
  have hk : k < σ.length := (List.getElem?_eq_some_iff.1 h).1
  have hk2 : ∀ o, (σ ++ [o])[k]? = some (.cells [.str n] 0 false) := fun o => by rw [List.getElem?_append_left hk]; exact h
  refine heap_enter (af := c32) (args' := [d.enc, .ptr k 0]) (σ1 := σ) rfl rfl (by simp [c32]) (by simp [c32]) rfl ?_
  simp [c32, baseA, hk2, dropA_gc, refLt, res1, refLt2_bool, refLt2_int, take_1]
theorem arity_ok (p : GP) (n : ByteArray) (hl : p.decls.length ≤ 100000000000) : pureT T c20 [p.enc, .str n] = some (.int .i64 (arityP p n)) := by
  have hi := fun σ (h : σ[1]? = some (AObj.cells [.str n] 0 false)) bs => idxDecl (fun d => decide (d.name = n)) p.decls 32 [.ptr 1 0] hl σ (fun x _ bs => arity1_call x n bs σ h) bs
  apply pure_enter (by simp [c20])
  rcases idxG_find (fun d : GD => decide (d.name = n)) p.decls with ⟨h1, h2⟩ | ⟨i, hlt, h1, h2⟩
  · have h3 : arityP p n = 0 := by simp only [arityP, h2]
    simp [c20, hi, h1, h3]
  · have h3 : arityP p n = p.decls[i].arity := by simp only [arityP, h2]
    rw [h1] at hi
    have h4 : ¬ ((i : Int) < 0) := by omega
    simp [c20, hi, h4, h3, hlt]
theorem callArity (p : GP) (n : ByteArray) (hl : p.decls.length ≤ 100000000000) (bs : Nat) (σ : Heap) : callT T 20 [p.enc, .str n] bs σ = some (.int .i64 (arityP p n), σ) := call_clean rfl rfl rfl (by simp) (arity_ok p n hl)
theorem rd44 : rds (rcOf Try.f44) = some r44 := by
  have hne : rcOf Try.f44 ≠ rcOf Try.f14 := fun h => by
    have h1 : (rcOf Try.f44).params = #[8] := by kernel_rfl
    have h2 := ps14
    rw [h, h2] at h1
    exact absurd h1 (by decide)
  unfold rds; rw [if_neg hne, if_pos rfl]
theorem ps44 : (rcOf Try.f44).params = #[8] := by kernel_rfl
def stepA (b : List ByteArray) (s : Nat) (m : ByteArray) : Nat × Bool := (s + 1, memB m b)
theorem run_all (b : List ByteArray) : ∀ (ns : List ByteArray) (s : Nat), (runS (stepA b) s ns).2 = ns.all (fun m => memB m b)
  | [], s => rfl
  | n :: ns, s => by
    simp only [runS, List.all_cons]
    have e : (stepA b s n).2 = memB n b := rfl
    by_cases h : (stepA b s n).2 = true
    · rw [if_pos h, run_all b ns]; rw [e] at h; simp [h]
    · rw [if_neg h]; rw [e] at h; simp [h]
def JA (σ : Heap) (k : Nat) (b : List ByteArray) (f : FR) (τ : Heap) : Prop :=
  σ.length + 4 ≤ τ.length ∧ τ[σ.length]? = some (.cells [.map k] 0 false) ∧ τ[σ.length + 1]? = some (.cells [.bool false] 0 false) ∧ τ[σ.length + 3]? = some (.lp (rcOf Try.f44) (lst 13 f) .ready none) ∧ ∀ j, j < σ.length → τ[j]? = σ[j]?
def XA (σ : Heap) (f : FR) (τ : Heap) : Prop :=
  σ.length + 4 ≤ τ.length ∧ τ[σ.length + 1]? = some (.cells [.bool false] 0 false) ∧ τ[σ.length + 3]? = some (.lp (rcOf Try.f44) (lst 13 f) .done (some .ret)) ∧ ∀ j, j < σ.length → τ[j]? = σ[j]?
theorem endRd_r {H : Heap} {i : Nat} {rc : RCode} {tm ρ : Regs} {st : LoopState} {pd : Option Go.Code} (h : H[i]? = some (.lp rc tm st pd)) : endRd i (.ret, ρ, H) = some (.bool false, H.set i (.lp rc tm .done (some .ret))) := by simp [endRd, h]
theorem roundA_ok {σ : Heap} {k : Nat} {b : List ByteArray} {f : FR} (hk : σ[k]? = some (mpN b)) (h2 : f 2 = .ptr σ.length 0) (h4 : f 4 = .ptr (σ.length + 1) 0) (τ : Heap) (m : ByteArray) (hJ : JA σ k b f τ) :
    ∃ τ', callT T yno [.yld (σ.length + 3), .str m] σ.length τ = some (.bool (memB m b), τ') ∧ (memB m b = true → JA σ k b f τ') ∧ (memB m b = false → XA σ f τ') ∧ τ.length ≤ τ'.length ∧ ∀ j cs, σ.length + 4 ≤ j → τ[j]? = some (.cells cs 0 false) → τ'[j]? = some (.cells cs 0 false) := by
  obtain ⟨hN, hm, hc, hlp, hall⟩ := hJ
  have hkl : k < σ.length := (List.getElem?_eq_some_iff.1 hk).1
  have n1 : ¬ σ.length + 3 = σ.length := by omega
  have n2 : ¬ σ.length + 3 = k := by omega
  have n3 : ¬ σ.length + 3 = σ.length + 1 := by omega
  have g1 : ∀ o, (τ.set (σ.length + 3) o)[σ.length]? = some (.cells [.map k] 0 false) := fun o => by rw [List.getElem?_set_ne n1]; exact hm
  have g2 : ∀ o, (τ.set (σ.length + 3) o)[k]? = some (mpN b) := fun o => by rw [List.getElem?_set_ne n2, hall k hkl]; exact hk
  have g3 : ∀ o, (τ.set (σ.length + 3) o)[σ.length + 1]? = some (.cells [.bool false] 0 false) := fun o => by rw [List.getElem?_set_ne n3]; exact hc
  cases hin : memB m b
  · refine ⟨_, round_call (f1 := upF f 8 (.str m)) hlp rd44 (Nat.le_refl _) (by rw [ps44]; rfl) (by rw [ps44]; exact put1 8 (.str m) (by decide)) (wpC_sound T σ.length 13 (by
      simp [r44]
      refine ⟨_, by simp [begLp, hlp]; rfl, wpC_sound T σ.length 13 ?_⟩
      simp [h2, h4, g1, g3, mlook_n (g2 _), hin]
      refine endRd_r (rc := rcOf Try.f44) (tm := lst 13 f) (st := .busy) (pd := none) ?_
      rw [List.getElem?_set_ne (by omega)]; exact list_set_at (by omega))), (fun e => by cases e), fun _ => ⟨by simp; omega, ?_, ?_, fun j hj => ?_⟩, by simp, fun j cs hj hcj => ?_⟩
    · rw [List.getElem?_set_ne (by omega)]; exact list_set_at (by simp; omega)
    · exact list_set_at (by simp; omega)
    · rw [List.getElem?_set_ne (by omega), List.getElem?_set_ne (by omega), List.getElem?_set_ne (by omega)]; exact hall j hj
    · rw [List.getElem?_set_ne (by omega), List.getElem?_set_ne (by omega), List.getElem?_set_ne (by omega)]; exact hcj
  · refine ⟨τ, round_call (f1 := upF f 8 (.str m)) hlp rd44 (Nat.le_refl _) (by rw [ps44]; rfl) (by rw [ps44]; exact put1 8 (.str m) (by decide)) (wpC_sound T σ.length 13 ?_), fun _ => ⟨hN, hm, hc, hlp, hall⟩, (fun e => by cases e), Nat.le_refl _, fun _ _ _ h => h⟩
    simp [r44]
    refine ⟨_, by simp [begLp, hlp]; rfl, wpC_sound T σ.length 13 ?_⟩
    simp [h2, h4, g1, g3, mlook_n (g2 _), hin]
    rw [endRd_n (list_set_at (by omega)), List.set_set, set_same hlp]
theorem take_of {σ τ : Heap} (hl : σ.length ≤ τ.length) (h : ∀ j, j < σ.length → τ[j]? = σ[j]?) : τ.take σ.length = σ := by
  apply List.ext_getElem?
  intro j
  rw [List.getElem?_take]
  split
  · rename_i hj; exact h j hj
  · rename_i hj; rw [List.getElem?_eq_none (by omega)]
def allB (b : List ByteArray) (l : List GT) : Bool := (vsL l).all fun m => memB m b
theorem callAllB (b : List ByteArray) (l : List GT) (hl : GT.sizes l ≤ 1000000000) {k : Nat} (bs : Nat) (σ : Heap) (hk : σ[k]? = some (mpN b)) : callT T 44 [.map k, .isl (GT.encs l) false] bs σ = some (.bool (allB b l), σ) := by
  refine heap_enter (af := c44) (args' := [.map k, .isl (GT.encs l) false]) (σ1 := σ) rfl rfl (by simp [c44]) (by simp [c44]) (by simp [closeArgs, c44]) ?_
  have hv := fun bs τ => variables_isl l bs τ
  simp [c44, baseA, hv]
  generalize hf : upF _ _ _ = f
  have h2 : f 2 = .ptr σ.length 0 := by rw [← hf]; simp
  have h4 : f 4 = .ptr (σ.length + 1) 0 := by rw [← hf]; simp
  have h7 : f 7 = .func 47 [.ptr (σ.length + 2) 0] := by rw [← hf]; simp
  have R : Rounds1 (fun _ => JA σ k b f) (fun _ => XA σ f) (stepA b) (fun s => s) 2000000000 σ.length (σ.length + 3) (σ.length + 4) := by
    refine ⟨?_, fun s τ h => h.1, fun s m _ => rfl, fun s τ m h hc hb => ?_⟩
    · rintro s τ o ⟨a1, a2, a3, a4, a5⟩
      refine ⟨by simp; omega, ?_, ?_, ?_, fun j hj => ?_⟩
      · rw [List.getElem?_append_left (by omega)]; exact a2
      · rw [List.getElem?_append_left (by omega)]; exact a3
      · rw [List.getElem?_append_left (by omega)]; exact a4
      · rw [List.getElem?_append_left (by omega)]; exact a5 j hj
    · exact roundA_ok hk h2 h4 τ m h
  have e0 : σ ++ [AObj.cells [AV.map k] 0 false, AObj.cells [AV.bool false] 0 false, AObj.cells [AV.isl (GT.encs l) false] 0 false] ++ [.lp (rcOf Try.f44) (lst 13 f) .ready none] = σ ++ [AObj.cells [AV.map k] 0 false, AObj.cells [AV.bool false] 0 false, AObj.cells [AV.isl (GT.encs l) false] 0 false, .lp (rcOf Try.f44) (lst 13 f) .ready none] := by simp
  have hvs := vsL_len l
  obtain ⟨σ', hc, hH, hX, hlen⟩ := iter_ok (fun _ => JA σ k b f) (fun _ => XA σ f) (stepA b) (fun s => s) 2000000000 R l 0 (il := σ.length + 2) (fz := 0) (ext := false) (σ ++ [AObj.cells [AV.map k] 0 false, AObj.cells [AV.bool false] 0 false, AObj.cells [AV.isl (GT.encs l) false] 0 false] ++ [.lp (rcOf Try.f44) (lst 13 f) .ready none])
    (by omega) (by rw [e0]; exact ⟨by simp, by simp, by simp, by simp, fun j hj => List.getElem?_append_left hj⟩) (by omega) (by simp) (by rw [e0]; simp)
  rw [run_all] at hH hX
  have hlen3 : (σ ++ [AObj.cells [AV.map k] 0 false, AObj.cells [AV.bool false] 0 false, AObj.cells [AV.isl (GT.encs l) false] 0 false]).length = σ.length + 3 := by simp
  by_cases hb : allB b l = true
  · obtain ⟨b1, b2, b3, b4, b5⟩ := hH hb
    refine W_rfn (g := 47) (caps := [.ptr (σ.length + 2) 0]) (by decide) (by simp [h7]) (by rw [hlen3]; exact hc) (e := .normal) (σ2 := σ'.set (σ.length + 3) (.lp (rcOf Try.f44) (lst 13 f) .exhausted none)) (by rw [hlen3]; simp [endLp, b4, pdX]) ?_
    refine wpK_sound T σ.length 13 _ _ _ _ ?_
    have c3 : ∀ o, (σ'.set (σ.length + 3) o)[σ.length + 1]? = some (.cells [.bool false] 0 false) := fun o => by rw [List.getElem?_set_ne (by omega)]; exact b3
    have c4 : ∀ o o', ((σ'.set (σ.length + 3) o).set (σ.length + 1) o').take σ.length = σ := fun o o' => take_of (by simp; omega) fun j hj => by rw [List.getElem?_set_ne (by omega), List.getElem?_set_ne (by omega)]; exact b5 j hj
    have c5 : ∀ o o', ((σ'.set (σ.length + 3) o).set (σ.length + 1) o')[σ.length + 1]? = some o' := fun o o' => list_set_at (by simp; omega)
    simp [h4, c3, c4, c5, hb, dropA_gc, refLt, res1, refLt2_bool]
  · have hb' : allB b l = false := by simpa using hb
    obtain ⟨b1, b3, b4, b5⟩ := hX hb'
    refine W_rfn (g := 47) (caps := [.ptr (σ.length + 2) 0]) (by decide) (by simp [h7]) (by rw [hlen3]; exact hc) (e := .ret) (σ2 := σ'.set (σ.length + 3) (.lp (rcOf Try.f44) (lst 13 f) .exhausted (some .ret))) (by rw [hlen3]; simp [endLp, b4, pdX]) ?_
    refine contQ_ret T σ.length 13 ?_
    have c3 : ∀ o, (σ'.set (σ.length + 3) o)[σ.length + 1]? = some (.cells [.bool false] 0 false) := fun o => by rw [List.getElem?_set_ne (by omega)]; exact b3
    have c4 : ∀ o, (σ'.set (σ.length + 3) o).take σ.length = σ := fun o => take_of (by simp; omega) fun j hj => by rw [List.getElem?_set_ne (by omega)]; exact b5 j hj
    simp [h4, c3, c4, hb', dropA_gc, refLt, res1, refLt2_bool]
def tops (l : List GT) : List ByteArray := (l.filter fun t => decide (t.kind = 1)).map GT.name
def takesB (b : List ByteArray) (x : GL) : List ByteArray := if x.kind = 1 then (tops x.args).foldl addB b else b
def takesP (b : List ByteArray) (x : GL) : Int × List ByteArray :=
  if allB (takesB b x) x.args = false then (61, takesB b x) else if x.kind ≠ 4 then (0, takesB b x) else if memB x.name (takesB b x) = true then (62, takesB b x) else (0, addB (takesB b x) x.name)
theorem take_set {σ τ : Heap} {k : Nat} {o : AObj} (hl : σ.length ≤ τ.length) (hk : k < σ.length) (h : ∀ j, j < σ.length → j ≠ k → τ[j]? = σ[j]?) (hk2 : τ[k]? = some o) : τ.take σ.length = σ.set k o := by
  apply List.ext_getElem?
  intro j
  rw [List.getElem?_take, List.getElem?_set]
  split
  · rename_i hj
    by_cases e : k = j
    · subst e; rw [if_pos rfl]; simp [hk, hk2]
    · rw [if_neg e]; exact h j hj fun e' => e e'.symm
  · rename_i hj
    rw [if_neg (by omega), List.getElem?_eq_none (by omega)]
def fstC : ACode → ACode
  | .seq a _ => a
  | c => c
def sndC : ACode → ACode
  | .seq _ b => b
  | c => c
theorem takes_tail {σ : Heap} {k : Nat} {b1 : List ByteArray} (x : GL) (hl : x.size ≤ 1000000000) (hkl : k < σ.length) (f : FR) (τ : Heap) (h0 : f 0 = .map k) (h3 : f 3 = .ptr σ.length 0) (hN : σ.length + 1 ≤ τ.length)
    (hx : τ[σ.length]? = some (.cells [.int .i64 x.kind, .str x.name, .isl (GT.encs x.args) false] 0 false)) (hk : τ[k]? = some (mpN b1)) (hall : ∀ j, j < σ.length → j ≠ k → τ[j]? = σ[j]?)
    {r : Int × List ByteArray} (hr : r = if allB b1 x.args = false then (61, b1) else if x.kind ≠ 4 then (0, b1) else if memB x.name b1 = true then (62, b1) else (0, addB b1 x.name)) :
    wpK T σ.length 42 [.code (sndC (sndC c43.body))] f τ (endR 42 [.tmp 4] true .gc σ.length (.int .i64 r.1, σ.set k (mpN r.2))) := by
  have hsz : GT.sizes x.args ≤ 1000000000 := by have := GL.args_le x; omega
  have hc := fun bs => callAllB b1 x.args hsz bs τ hk
  have ht := take_set (by omega) hkl hall hk
  simp [c43, sndC, h0, h3, hx, hc]
  by_cases ha : allB b1 x.args = true
  · by_cases h4 : x.kind = 4
    · by_cases hm : memB x.name b1 = true
      · simp [ha] at hr
        simp [h4, hm] at hr
        subst hr
        simp [h0, h3, hx, ha, h4, mlook_n hk, hm, dropA_gc, refLt, res1, refLt2_int, ht]
      · have hm' : memB x.name b1 = false := by simpa using hm
        simp [ha] at hr
        simp [h4, hm'] at hr
        subst hr
        have ht2 : (τ.set k (mpN (addB b1 x.name))).take σ.length = σ.set k (mpN (addB b1 x.name)) := take_set (by simp; omega) hkl (fun j hj hne => by rw [List.getElem?_set_ne (fun e => hne e.symm)]; exact hall j hj hne) (list_set_at (by omega))
        simp [h0, h3, hx, ha, h4, mlook_n hk, mset_n hk, hm', dropA_gc, refLt, res1, refLt2_int, ht2]
    · simp [ha] at hr
      simp [h4] at hr
      subst hr
      simp [h0, h3, hx, ha, h4, dropA_gc, refLt, res1, refLt2_int, ht]
  · have ha' : allB b1 x.args = false := by simpa using ha
    simp [ha'] at hr
    subst hr
    simp [ha', dropA_gc, refLt, res1, refLt2_int, ht]
theorem callTakes (b : List ByteArray) (x : GL) (hl : x.size ≤ 1000000000) {k : Nat} (bs : Nat) (σ : Heap) (hk : σ[k]? = some (mpN b)) : callT T 43 [.map k, x.enc] bs σ = some (.int .i64 (takesP b x).1, σ.set k (mpN (takesP b x).2)) := by
  have hkl : k < σ.length := (List.getElem?_eq_some_iff.1 hk).1
  have hsz : GT.sizes x.args ≤ 1000000000 := by have := GL.args_le x; omega
  have hlen := GT.len_sizes x.args
  have tail := fun b1 => takes_tail (σ := σ) (k := k) (b1 := b1) x hl hkl
  refine heap_enter (af := c43) (args' := [.map k, x.enc]) (σ1 := σ) rfl rfl (by simp [c43]) (by simp [c43]) (by simp [closeArgs, c43]) ?_
  show wpK T σ.length 42 [.code c43.body] _ σ (endR 42 [.tmp 4] true .gc σ.length _)
  have hb : c43.body = .seq (fstC c43.body) (.seq (fstC (sndC c43.body)) (sndC (sndC c43.body))) := rfl
  rw [hb]
  generalize sndC (sndC c43.body) = K at tail
  by_cases h1 : x.kind = 1
  · simp [c43, fstC, sndC, h1]
    refine W_for T σ.length 42 x.args.length (fun i f τ => f 0 = .map k ∧ f 3 = .ptr σ.length 0 ∧ f 11 = .isl (GT.encs x.args) false ∧ f 12 = .int .i64 (x.args.length : Int) ∧ f 13 = .int .i64 (i : Int) ∧ σ.length + 1 ≤ τ.length ∧
      τ[σ.length]? = some (.cells [.int .i64 x.kind, .str x.name, .isl (GT.encs x.args) false] 0 false) ∧ τ[k]? = some (mpN ((tops (x.args.take i)).foldl addB b)) ∧ ∀ j, j < σ.length → j ≠ k → τ[j]? = σ[j]?) ?_ _ _ ?_
    · rintro i f τ hi ⟨h0, h3, h11, h12, h13, hN, hx, hm, hall⟩
      by_cases hlt : i < x.args.length
      · have hw : IntKind.i64.wrap ((i : Int) + 1) = (i : Int) + 1 := wr64 (by omega) (by omega)
        have htk : tops (x.args.take (i + 1)) = tops (x.args.take i) ++ tops [x.args[i]] := by
          unfold tops; rw [List.take_succ_eq_append_getElem hlt, List.filter_append, List.map_append]
        rw [htk, List.foldl_append]
        have hm2 : ∀ o, (τ ++ [o])[k]? = some (mpN ((tops (x.args.take i)).foldl addB b)) := fun o => by rw [List.getElem?_append_left (by omega)]; exact hm
        generalize (tops (x.args.take i)).foldl addB b = b1 at *
        by_cases hk1 : x.args[i].kind = 1
        · simp [h0, h3, h11, h12, h13, hlt, hw, hk1, mset_n (hm2 _)]
          refine ⟨by omega, ?_, ?_, fun j hj hne => ?_⟩
          · rw [List.getElem?_set_ne (by omega), List.getElem?_append_left (by omega)]; exact hx
          · have : tops [x.args[i]] = [x.args[i].name] := by simp [tops, hk1]
            rw [this]; exact list_set_at (by simp; omega)
          · rw [List.getElem?_set_ne (fun e => hne e.symm), List.getElem?_append_left (by omega)]; exact hall j hj hne
        · have : tops [x.args[i]] = [] := by simp [tops, hk1]
          simp [h0, h3, h11, h12, h13, hlt, hw, hk1, this]
          refine ⟨by omega, ?_, hm2 _, fun j hj hne => ?_⟩
          · rw [List.getElem?_append_left (by omega)]; exact hx
          · rw [List.getElem?_append_left (by omega)]; exact hall j hj hne
      · have he : i = x.args.length := by omega
        subst he
        simp [h0, h3, h11, h12, h13]
        rw [List.take_length] at hm
        refine tail _ _ τ (by simp [h0]) (by simp [h3]) hN hx hm hall ?_
        simp [takesP, takesB, h1]
    · simp [h1, hk]
      exact ⟨by rw [List.getElem?_append_left hkl]; simpa [tops] using hk, fun j hj _ => List.getElem?_append_left hj⟩
  · simp [c43, fstC, sndC, h1]
    refine tail b _ _ (by simp) (by simp) (by simp) (by simp) (by rw [List.getElem?_append_left hkl]; exact hk) (fun j hj _ => List.getElem?_append_left hj) ?_
    simp [takesP, takesB, h1]
def badL (p : GP) (l : GL) : Bool := (decide (l.kind = 1) || decide (l.kind = 2)) && decide (arityP p l.name ≠ (l.args.length : Int))
def relsB (p : GP) (r : GR) : Bool := decide (arityP p r.head = (r.args.length : Int)) && !(r.body.any (badL p))
theorem rel1_call (p : GP) (hl : p.decls.length ≤ 100000000000) (l : GL) {k : Nat} (bs : Nat) (σ : Heap) (h : σ[k]? = some (.cells p.enc.cells 0 false)) : callT T 63 [l.enc, .ptr k 0] bs σ = some (.bool (badL p l), σ) := by
  have hk : k < σ.length := (List.getElem?_eq_some_iff.1 h).1
  have hk2 : ∀ o, (σ ++ [o])[k]? = some (.cells [.isl (p.decls.map GD.enc) false, .isl (p.facts.map GU.enc) false, .isl (p.rules.map GR.enc) false] 0 false) := fun o => by rw [List.getElem?_append_left hk]; exact h
  have hA := callArity p l.name hl
  refine heap_enter (af := c63) (args' := [l.enc, .ptr k 0]) (σ1 := σ) rfl rfl (by simp [c63]) (by simp [c63]) rfl ?_
  by_cases h1 : l.kind = 1
  · simp [c63, baseA, hk2, h1, hA, ← GP.enc_eq, dropA_gc, refLt, res1, refLt2_bool, refLt2_int, take_1, badL]
  · by_cases h2 : l.kind = 2
    · simp [c63, baseA, hk2, h1, h2, hA, ← GP.enc_eq, dropA_gc, refLt, res1, refLt2_bool, refLt2_int, take_1, badL]
    · simp [c63, baseA, hk2, h1, h2, hA, ← GP.enc_eq, dropA_gc, refLt, res1, refLt2_bool, refLt2_int, take_1, badL]
theorem rels_ok (p : GP) (hl : p.decls.length ≤ 100000000000) (r : GR) (hb : r.body.length ≤ 100000000000) : pureT T c42 [p.enc, r.enc] = some (.bool (relsB p r)) := by
  have hA := callArity p r.head hl
  have hC := fun σ (h : σ[0]? = some (AObj.cells [.isl (p.decls.map GD.enc) false, .isl (p.facts.map GU.enc) false, .isl (p.rules.map GR.enc) false] 0 false)) bs => conLiteral (badL p) r.body 63 [.ptr 0 0] hb σ (fun x _ bs => rel1_call p hl x bs σ h) bs
  apply pure_enter (by simp [c42])
  by_cases h1 : arityP p r.head = (r.args.length : Int)
  · simp [c42, h1, hA, hC, ← GP.enc_eq, relsB, sym]
  · simp [c42, h1, hA, hC, ← GP.enc_eq, relsB]
theorem callRels (p : GP) (hl : p.decls.length ≤ 100000000000) (r : GR) (hb : r.body.length ≤ 100000000000) (bs : Nat) (σ : Heap) : callT T 42 [p.enc, r.enc] bs σ = some (.bool (relsB p r), σ) := call_clean rfl rfl rfl (by simp) (rels_ok p hl r hb)
def goB : List ByteArray → List GL → Int × List ByteArray
  | b, [] => (0, b)
  | b, l :: ls => if (takesP b l).1 ≠ 0 then takesP b l else goB (takesP b l).2 ls
def ruleP (p : GP) (r : GR) : Int := if relsB p r = false then 60 else if (goB [] r.body).1 ≠ 0 then (goB [] r.body).1 else if allB (goB [] r.body).2 r.args = false then 61 else 0
theorem goB_stop : ∀ (a c : List GL) (b : List ByteArray), (goB b a).1 ≠ 0 → goB b (a ++ c) = goB b a
  | [], c, b, h => absurd rfl h
  | l :: a, c, b, h => by
    by_cases h1 : (takesP b l).1 ≠ 0
    · simp only [List.cons_append, goB, if_pos h1]
    · have e : goB b (l :: a) = goB (takesP b l).2 a := by simp only [goB, if_neg h1]
      rw [e] at h ⊢
      rw [← goB_stop a c _ h]
      simp only [List.cons_append, goB, if_neg h1]
theorem goB_on : ∀ (a c : List GL) (b : List ByteArray), (goB b a).1 = 0 → goB b (a ++ c) = goB (goB b a).2 c
  | [], c, b, h => rfl
  | l :: a, c, b, h => by
    by_cases h1 : (takesP b l).1 ≠ 0
    · have e : goB b (l :: a) = takesP b l := by simp only [goB, if_pos h1]
      rw [e] at h; exact absurd h h1
    · have e : goB b (l :: a) = goB (takesP b l).2 a := by simp only [goB, if_neg h1]
      rw [e] at h ⊢
      rw [← goB_on a c _ h]
      simp only [List.cons_append, goB, if_neg h1]
theorem rule_ok (p : GP) (hl : p.decls.length ≤ 100000000000) (r : GR) (hr : r.size ≤ 1000000000) : pureT T c23 [p.enc, r.enc] = some (.int .i64 (ruleP p r)) := by
  have hbl := GR.body_len r
  have hsz : GT.sizes r.args ≤ 1000000000 := by have := GR.args_le r; omega
  have hR := callRels p hl r (by omega)
  apply pure_enter (by simp [c23])
  by_cases h1 : relsB p r = true
  · simp [c23, hR, h1, ← GP.enc_eq, ← GR.enc_eq]
    refine W_for T 0 33 r.body.length (fun i f τ => f 3 = .ptr 1 0 ∧ f 5 = .map 2 ∧ f 15 = .isl (r.body.map GL.enc) false ∧ f 16 = .int .i64 (r.body.length : Int) ∧ f 17 = .int .i64 (i : Int) ∧ 3 ≤ τ.length ∧ (goB [] (r.body.take i)).1 = 0 ∧
      τ[1]? = some (.cells [.str r.label, .str r.head, .isl (GT.encs r.args) false, .str r.agg, .int .i64 r.pos, .isl (r.body.map GL.enc) false] 0 false) ∧ τ[2]? = some (mpN (goB [] (r.body.take i)).2)) ?_ _ _ ?_
    · rintro i f τ hi ⟨h3, h5, h15, h16, h17, hN, hgo, hr1, hm⟩
      by_cases hlt : i < r.body.length
      · have hw : IntKind.i64.wrap ((i : Int) + 1) = (i : Int) + 1 := wr64 (by omega) (by omega)
        have e0 : r.body[i]? = some r.body[i] := List.getElem?_eq_getElem hlt
        have htk : r.body.take (i + 1) = r.body.take i ++ [r.body[i]] := List.take_succ_eq_append_getElem hlt
        have hdr : r.body = r.body.take (i + 1) ++ r.body.drop (i + 1) := (List.take_append_drop _ _).symm
        have hxs := GR.body_mem r (List.getElem_mem hlt)
        have hm2 : ∀ o, (τ ++ [o])[2]? = some (mpN (goB [] (r.body.take i)).2) := fun o => by rw [List.getElem?_append_left (by omega)]; exact hm
        have hr2 : ∀ o o', ((τ ++ [o]).set 2 o')[1]? = some (.cells [.str r.label, .str r.head, .isl (GT.encs r.args) false, .str r.agg, .int .i64 r.pos, .isl (r.body.map GL.enc) false] 0 false) := fun o o' => by rw [List.getElem?_set_ne (by decide), List.getElem?_append_left (by omega)]; exact hr1
        have hT := callTakes (goB [] (r.body.take i)).2 r.body[i] (by omega) (k := 2) 0 (τ ++ [.cells [.int .i64 r.body[i].kind, .str r.body[i].name, .isl (GT.encs r.body[i].args) false] 0 false]) (hm2 _)
        have e1 : goB [] (r.body.take (i + 1)) = if (takesP (goB [] (r.body.take i)).2 r.body[i]).1 ≠ 0 then takesP (goB [] (r.body.take i)).2 r.body[i] else (0, (takesP (goB [] (r.body.take i)).2 r.body[i]).2) := by
          rw [htk, goB_on _ _ _ hgo]; rfl
        by_cases hz : (takesP (goB [] (r.body.take i)).2 r.body[i]).1 = 0
        · rw [hz] at hT
          have e2 : goB [] (r.body.take (i + 1)) = (0, (takesP (goB [] (r.body.take i)).2 r.body[i]).2) := by rw [e1]; simp [hz]
          rw [e2]
          simp [h3, h5, h15, h16, h17, hlt, e0, hw, hT, ← GL.enc_eq]
          exact ⟨by omega, by rw [List.getElem?_append_left (by omega)]; exact hr1, list_set_at (by simp; omega)⟩
        · have e2 : goB [] (r.body.take (i + 1)) = takesP (goB [] (r.body.take i)).2 r.body[i] := by rw [e1]; simp [hz]
          have e3 : goB [] r.body = takesP (goB [] (r.body.take i)).2 r.body[i] := by
            rw [← e2]; conv => lhs; rw [hdr]
            exact goB_stop _ _ _ (by rw [e2]; exact hz)
          simp [h3, h5, h15, h16, h17, hlt, e0, hw, hT, hz, ← GL.enc_eq, ruleP, h1, e3]
          done
      · have he : i = r.body.length := by omega
        subst he
        rw [List.take_length] at hgo hm
        have hA := fun bs => callAllB (goB [] r.body).2 r.args hsz (k := 2) bs τ hm
        by_cases ha : allB (goB [] r.body).2 r.args = true
        · simp [h3, h5, h15, h16, h17, hr1, hA, ha, ruleP, h1, hgo]
          done
        · have ha' : allB (goB [] r.body).2 r.args = false := by simpa using ha
          simp [h3, h5, h15, h16, h17, hr1, hA, ha', ruleP, h1, hgo]
          done
    · simp [goB, mpN]
  · have h1' : relsB p r = false := by simpa using h1
    simp [c23, hR, h1', ← GP.enc_eq, ← GR.enc_eq, ruleP]
theorem callRule6 (p : GP) (hl : p.decls.length ≤ 100000000000) (r : GR) (hr : r.size ≤ 1000000000) (bs : Nat) (σ : Heap) : callT T 23 [p.enc, r.enc] bs σ = some (.int .i64 (ruleP p r), σ) := call_clean rfl rfl rfl (by simp) (rule_ok p hl r hr)
end Go.Proofs.Ytiikmmbfhbianaa
end
section
set_option linter.unusedVariables false
set_option linter.unusedSimpArgs false
set_option linter.unnecessarySimpa false
namespace Go.Proofs.Ytiikmmbfhbianaa
open Go.Mach
def firstP (p : GP) : List GR → Nat → Int × Int
  | [], _ => (0, -1)
  | r :: rs, i => if ruleP p r ≠ 0 then (ruleP p r, (i : Int)) else firstP p rs (i + 1)
def badF (p : GP) (t : GU) : Bool := decide (arityP p t.name ≠ (t.args.length : Int))
def dupD : List ByteArray → List GD → Bool
  | _, [] => false
  | b, d :: ds => memB d.name b || dupD (addB b d.name) ds
def checkP (p : GP) : Int × Int := if progB p = false then (40, -1) else if dupD [] p.decls = true then (60, -1) else if p.facts.any (badF p) = true then (60, -1) else firstP p p.rules 0
def pCells (p : GP) : AObj := .cells [.isl (p.decls.map GD.enc) false, .isl (p.facts.map GU.enc) false, .isl (p.rules.map GR.enc) false] 0 false
abbrev res2 (r : Int × Int) : AV := .tup [.int .i64 r.1, .int .i64 r.2]
abbrev T2 : ACode := sndC (sndC (sndC (sndC c10.body)))
theorem check_rules (p : GP) (hp : p.size ≤ 1000000000) (f : FR) (τ : Heap) (h1 : f 1 = .ptr 0 0) (h0 : τ[0]? = some (pCells p)) : wpK T 0 63 [.code (sndC T2)] f τ (endP 63 [.tmp 2, .tmp 3] (res2 (firstP p p.rules 0))) := by
  have hl := GP.rules_len p
  have hdl := GP.decls_len p
  unfold pCells at h0
  simp [T2, c10, sndC, h1, h0]
  refine W_for T 0 63 p.rules.length (fun i f τ => f 1 = .ptr 0 0 ∧ f 48 = .isl (p.rules.map GR.enc) false ∧ f 49 = .int .i64 (p.rules.length : Int) ∧ f 50 = .int .i64 (i : Int) ∧ 1 ≤ τ.length ∧ τ[0]? = some (.cells [.isl (p.decls.map GD.enc) false, .isl (p.facts.map GU.enc) false, .isl (p.rules.map GR.enc) false] 0 false) ∧ firstP p p.rules 0 = firstP p (p.rules.drop i) i) ?_ _ _ ?_
  · rintro i f τ hi ⟨h1, h48, h49, h50, hN, h0, hf⟩
    by_cases hlt : i < p.rules.length
    · have hw : IntKind.i64.wrap ((i : Int) + 1) = (i : Int) + 1 := wr64 (by omega) (by omega)
      have e0 : p.rules[i]? = some p.rules[i] := List.getElem?_eq_getElem hlt
      have hrs := GP.rules_mem p (List.getElem_mem hlt)
      have hR := callRule6 p (by omega) p.rules[i] (by omega)
      have h02 : ∀ o, (τ ++ [o])[0]? = some (.cells [.isl (p.decls.map GD.enc) false, .isl (p.facts.map GU.enc) false, .isl (p.rules.map GR.enc) false] 0 false) := fun o => by rw [List.getElem?_append_left (by omega)]; exact h0
      have h03 : ∀ o (h : 0 < (τ ++ [o]).length), (τ ++ [o])[0]'h = .cells [.isl (p.decls.map GD.enc) false, .isl (p.facts.map GU.enc) false, .isl (p.rules.map GR.enc) false] 0 false := fun o h => Option.some_inj.1 ((List.getElem?_eq_getElem h).symm.trans (h02 o))
      rw [List.drop_eq_getElem_cons hlt] at hf
      simp only [firstP] at hf
      by_cases hz : ruleP p p.rules[i] = 0
      · rw [if_neg (by simpa using hz)] at hf
        rw [hz] at hR
        simp [h1, h48, h49, h50, hlt, e0, hw, h02, h03, hR, ← GP.enc_eq, ← GR.enc_eq, hf]
      · rw [if_pos hz] at hf
        simp [h1, h48, h49, h50, hlt, e0, hw, h02, h03, hR, ← GP.enc_eq, ← GR.enc_eq, hf, hz, endP, res1]
    · have he : i = p.rules.length := by omega
      subst he
      rw [List.drop_length] at hf
      simp [h1, h48, h49, h50, hf, firstP, endP, res1]
  · simp [h1, h0]
    exact (List.getElem?_eq_some_iff.1 h0).1
theorem check_facts (p : GP) (hp : p.size ≤ 1000000000) (f : FR) (τ : Heap) (h1 : f 1 = .ptr 0 0) (h0 : τ[0]? = some (pCells p)) : wpK T 0 63 [.code T2] f τ (endP 63 [.tmp 2, .tmp 3] (res2 (if p.facts.any (badF p) = true then (60, -1) else firstP p p.rules 0))) := by
  have hl := GP.facts_len p
  have hdl := GP.decls_len p
  have tail := check_rules p hp
  obtain ⟨B, hB⟩ : ∃ B, p.facts.any (badF p) = B := ⟨_, rfl⟩
  rw [hB]
  have hb : T2 = .seq (fstC T2) (sndC T2) := rfl
  rw [hb]
  generalize sndC T2 = K at tail
  unfold pCells at h0
  simp [T2, c10, sndC, fstC, h1, h0]
  refine W_for T 0 63 p.facts.length (fun i f τ => f 1 = .ptr 0 0 ∧ f 32 = .isl (p.facts.map GU.enc) false ∧ f 33 = .int .i64 (p.facts.length : Int) ∧ f 34 = .int .i64 (i : Int) ∧ 1 ≤ τ.length ∧ τ[0]? = some (.cells [.isl (p.decls.map GD.enc) false, .isl (p.facts.map GU.enc) false, .isl (p.rules.map GR.enc) false] 0 false) ∧ B = (p.facts.drop i).any (badF p)) ?_ _ _ ?_
  · rintro i f τ hi ⟨h1, h48, h49, h50, hN, h0, hf⟩
    by_cases hlt : i < p.facts.length
    · have hw : IntKind.i64.wrap ((i : Int) + 1) = (i : Int) + 1 := wr64 (by omega) (by omega)
      have e0 : p.facts[i]? = some p.facts[i] := List.getElem?_eq_getElem hlt
      have hA := callArity p p.facts[i].name (by omega)
      have h02 : ∀ o, (τ ++ [o])[0]? = some (.cells [.isl (p.decls.map GD.enc) false, .isl (p.facts.map GU.enc) false, .isl (p.rules.map GR.enc) false] 0 false) := fun o => by rw [List.getElem?_append_left (by omega)]; exact h0
      have h03 : ∀ o (h : 0 < (τ ++ [o]).length), (τ ++ [o])[0]'h = .cells [.isl (p.decls.map GD.enc) false, .isl (p.facts.map GU.enc) false, .isl (p.rules.map GR.enc) false] 0 false := fun o h => Option.some_inj.1 ((List.getElem?_eq_getElem h).symm.trans (h02 o))
      rw [List.drop_eq_getElem_cons hlt] at hf
      simp only [List.any_cons] at hf
      by_cases hz : arityP p p.facts[i].name = (p.facts[i].args.length : Int)
      · have hbf : badF p p.facts[i] = false := by simp [badF, hz]
        rw [hbf, Bool.false_or] at hf
        simp [h1, h48, h49, h50, hlt, e0, hw, h02, h03, hA, hz, ← GP.enc_eq, hf]
      · have hbf : badF p p.facts[i] = true := by simp [badF, hz]
        rw [hbf, Bool.true_or] at hf
        simp [h1, h48, h49, h50, hlt, e0, hw, h02, h03, hA, hz, ← GP.enc_eq, hf, endP, res1]
    · have he : i = p.facts.length := by omega
      subst he
      rw [List.drop_length, List.any_nil] at hf
      simp [h1, h48, h49, h50, hf]
      exact tail (upF f 35 (.bool false)) τ (by simp [h1]) h0
  · simp only [List.drop_zero, hB]
    simp [h1, h0]
    exact (List.getElem?_eq_some_iff.1 h0).1
theorem check_ok (p : GP) (hp : p.size ≤ 1000000000) : pureT T c10 [p.enc] = some (res2 (checkP p)) := by
  have hl := GP.decls_len p
  have tail := check_facts p hp
  have hR := callPRight p (by omega)
  apply pure_enter (by simp [c10])
  show wpK T 0 63 [.code c10.body] _ [] (endP 63 [.tmp 2, .tmp 3] _)
  have hb : c10.body = .seq (fstC c10.body) (.seq (fstC (sndC c10.body)) (.seq (fstC (sndC (sndC c10.body))) (.seq (fstC (sndC (sndC (sndC c10.body)))) T2))) := rfl
  rw [hb]
  generalize T2 = K at tail
  by_cases hr : progB p = true
  · simp [c10, sndC, fstC, hR, hr, ← GP.enc_eq, sym]
    refine W_for T 0 63 p.decls.length (fun i f τ => f 1 = .ptr 0 0 ∧ f 4 = .map 1 ∧ f 17 = .isl (p.decls.map GD.enc) false ∧ f 18 = .int .i64 (p.decls.length : Int) ∧ f 19 = .int .i64 (i : Int) ∧ 2 ≤ τ.length ∧ τ[0]? = some (pCells p) ∧ ∃ b, τ[1]? = some (mpN b) ∧ dupD [] p.decls = dupD b (p.decls.drop i)) ?_ _ _ ?_
    · rintro i f τ hi ⟨h1, h4, h48, h49, h50, hN, h0, b, hm, hf⟩
      by_cases hlt : i < p.decls.length
      · have hw : IntKind.i64.wrap ((i : Int) + 1) = (i : Int) + 1 := wr64 (by omega) (by omega)
        have e0 : p.decls[i]? = some p.decls[i] := List.getElem?_eq_getElem hlt
        have hm2 : ∀ o, (τ ++ [o])[1]? = some (mpN b) := fun o => by rw [List.getElem?_append_left (by omega)]; exact hm
        have h03 : ∀ o (h : 0 < (τ ++ [o]).length), (τ ++ [o])[0]'h = pCells p := fun o h => Option.some_inj.1 ((List.getElem?_eq_getElem h).symm.trans (by rw [List.getElem?_append_left (by omega)]; exact h0))
        rw [List.drop_eq_getElem_cons hlt] at hf
        simp only [dupD] at hf
        cases hin : memB p.decls[i].name b
        · rw [hin, Bool.false_or] at hf
          simp [h1, h4, h48, h49, h50, hlt, e0, hw, mlook_n (hm2 _), mset_n (hm2 _), hin]
          refine ⟨by omega, ?_, addB b p.decls[i].name, ?_, hf⟩
          · first | exact h03 _ _ | (rw [List.getElem?_append_left (by omega)]; exact h0)
          · first | exact list_set_at (by simp; omega) | (simp; omega)
        · rw [hin, Bool.true_or] at hf
          simp [h1, h4, h48, h49, h50, hlt, e0, hw, mlook_n (hm2 _), hin, endP, res1, checkP, hr, hf]
      · have he : i = p.decls.length := by omega
        subst he
        rw [List.drop_length] at hf
        have hf2 : dupD [] p.decls = false := hf
        simp [h1, h4, h48, h49, h50]
        have ht := tail (upF f 20 (.bool false)) τ (by simp [h1]) h0
        simpa [checkP, hr, hf2] using ht
    · simp [pCells]
      exact ⟨[], rfl, rfl⟩
  · have hr' : progB p = false := by simpa using hr
    simp [c10, sndC, fstC, hR, hr', ← GP.enc_eq, sym, endP, res1, checkP]
theorem callCheck (p : GP) (hp : p.size ≤ 1000000000) (bs : Nat) (σ : Heap) : callT T 10 [p.enc] bs σ = some (res2 (checkP p), σ) := call_clean rfl rfl rfl (by simp) (check_ok p hp)
end Go.Proofs.Ytiikmmbfhbianaa
end
section
set_option linter.unusedVariables false
set_option linter.unusedSimpArgs false
set_option linter.unnecessarySimpa false
namespace Go.Proofs.Ytiikmmbfhbianaa
open Go.Mach
def txs (l : List ByteArray) : AV := .isl (l.map .str) false
theorem texts_ok (a b : List ByteArray) (ha : a.length ≤ 100000000000) (hb : b.length ≤ 100000000000) : pureT T c15 [txs a, txs b] = some (.bool (decide (a = b))) := by
  apply pure_enter (by simp [c15])
  by_cases hlen : a.length = b.length
  · simp [c15, txs, hlen]
    refine W_for T 0 26 a.length (fun i f σ => f 0 = .isl (a.map .str) false ∧ f 1 = .isl (b.map .str) false ∧ f 5 = .int .i64 (i : Int) ∧ ∀ j, (h1 : j < a.length) → (h2 : j < b.length) → j < i → a[j] = b[j]) ?_ _ _ ?_
    · rintro i f σ hi ⟨h0, h1, h5, hall⟩
      by_cases hlt : i < a.length
      · have hlt2 : i < b.length := by omega
        have hw : IntKind.i64.wrap ((i : Int) + 1) = (i : Int) + 1 := wr64 (by omega) (by omega)
        have e1 : a[i]? = some a[i] := List.getElem?_eq_getElem hlt
        have e2 : b[i]? = some b[i] := List.getElem?_eq_getElem hlt2
        by_cases he : a[i] = b[i]
        · simp [h0, h1, h5, hlt, hlt2, hw, e1, e2, he]
          intro j h1 h2 hj
          by_cases e : j = i
          · subst e; exact he
          · exact hall j h1 h2 (by omega)
        · have hne : ¬ a = b := fun e => he (by subst e; rfl)
          simp [h0, h1, h5, hlt, hlt2, hw, e1, e2, he, hne]
      · have he : i = a.length := by omega
        subst he
        have : a = b := List.ext_getElem hlen fun j h1 h2 => hall j h1 h2 h1
        simp [h0, h1, h5, this]
    · simp
  · have hne : ¬ a = b := fun e => hlen (by rw [e])
    have hlen' : ¬ (a.length : Int) = (b.length : Int) := by omega
    simp [c15, txs, hlen', hne]
def relsD : List GD := [⟨⟨#[108, 105, 110, 107]⟩, 3⟩, ⟨⟨#[112]⟩, 2⟩, ⟨⟨#[113]⟩, 2⟩, ⟨⟨#[114]⟩, 1⟩, ⟨⟨#[115]⟩, 3⟩, ⟨⟨#[116]⟩, 2⟩]
theorem relations6_ok : pureT T c19 [] = some (.isl (relsD.map GD.enc) false) := by
  apply pure_enter (by simp [c19])
  simp [c19, setRun, endP, res1, relsD, GD.enc]
  exact ⟨_, rfl⟩
def numT (n : Int) : GT := .mk 2 ⟨#[]⟩ (.mk 1 n ⟨#[]⟩ []) []
theorem num6_ok (n : Int) : pureT T c16 [.int .i64 n] = some (numT n).enc := by
  apply pure_enter (by simp [c16])
  simp [c16, setRun, endP, res1, numT, GT.enc, GV.kind, GV.num, GV.text, GV.items, GV.encs]
theorem callRelations6 (bs : Nat) (σ : Heap) : callT T 19 [] bs σ = some (.isl (relsD.map GD.enc) false, σ) := call_clean rfl rfl rfl rfl relations6_ok
theorem callNum6 (n : Int) (bs : Nat) (σ : Heap) : callT T 16 [.int .i64 n] bs σ = some ((numT n).enc, σ) := call_clean rfl rfl rfl rfl (num6_ok n)
theorem pick6_ok (c n : Int) (h : n ≠ 0) : pureT T c11 [.int .i64 c, .int .i64 n] = some (.int .i64 ((if c < 0 then IntKind.i64.wrap (0 - IntKind.i64.wrap (c + 1)) else c).tmod n)) := by
  apply pure_enter (by simp [c11])
  by_cases hc : c < 0
  · simp [c11, hc, h]
  · simp [c11, hc, h]
theorem pick6 (c : Int) (n : Nat) (h : 0 < n) (h1 : GV.i64ok c) (bs : Nat) (σ : Heap) :
    callT T 11 [.int .i64 c, .int .i64 (n : Int)] bs σ = some (.int .i64 (pickN c n : Int), σ) := by
  refine call_clean rfl rfl rfl rfl ?_
  rw [pick6_ok c n (by omega), pick_eq c n h h1.1 h1.2]
def vName (n : Nat) : ByteArray := [⟨#[83]⟩, ⟨#[68]⟩, ⟨#[88]⟩, ⟨#[89]⟩, ⟨#[90]⟩, ⟨#[67]⟩].getD n ⟨#[]⟩
def vT (c : Int) : GT := .mk 1 (vName (pickN c 6)) (.mk 0 0 ⟨#[]⟩ []) []
theorem v6_ok (c : Int) (hc : GV.i64ok c) : pureT T c18 [.int .i64 c] = some (vT c).enc := by
  have hp := fun bs σ => pick6 c 6 (by omega) hc bs σ
  have hlt : pickN c 6 < 6 := pickN_lt (by omega)
  apply pure_enter (by simp [c18])
  unfold vT
  simp only [Int.cast_ofNat_Int] at hp
  generalize pickN c 6 = n at *
  match n, hlt with
  | 0, _ => simp [c18, setRun, hp, endP, res1, GT.enc, GV.kind, GV.num, GV.text, GV.items, GV.encs, vName]
  | 1, _ => simp [c18, setRun, hp, endP, res1, GT.enc, GV.kind, GV.num, GV.text, GV.items, GV.encs, vName]
  | 2, _ => simp [c18, setRun, hp, endP, res1, GT.enc, GV.kind, GV.num, GV.text, GV.items, GV.encs, vName]
  | 3, _ => simp [c18, setRun, hp, endP, res1, GT.enc, GV.kind, GV.num, GV.text, GV.items, GV.encs, vName]
  | 4, _ => simp [c18, setRun, hp, endP, res1, GT.enc, GV.kind, GV.num, GV.text, GV.items, GV.encs, vName]
  | 5, _ => simp [c18, setRun, hp, endP, res1, GT.enc, GV.kind, GV.num, GV.text, GV.items, GV.encs, vName]
theorem callV6 (c : Int) (hc : GV.i64ok c) (bs : Nat) (σ : Heap) : callT T 18 [.int .i64 c] bs σ = some ((vT c).enc, σ) := call_clean rfl rfl rfl rfl (v6_ok c hc)
end Go.Proofs.Ytiikmmbfhbianaa
end
section
set_option linter.unusedVariables false
set_option linter.unusedSimpArgs false
set_option linter.unnecessarySimpa false
set_option maxRecDepth 100000
namespace Go.Proofs.Ytiikmmbfhbianaa
open Go.Mach
def awS : GT := .mk 1 ⟨#[83]⟩ (.mk 0 0 ⟨#[]⟩ []) []
def awX : GT := .mk 1 ⟨#[88]⟩ (.mk 0 0 ⟨#[]⟩ []) []
def awP : GP := ⟨relsD, [], [⟨⟨#[114, 49]⟩, ⟨#[112]⟩, [awS, awX], ⟨#[]⟩, 0, [⟨1, ⟨#[114]⟩, [awS]⟩]⟩]⟩
def awQ : GP := ⟨relsD, [], []⟩
theorem awP_check : checkP awP = (61, 0) := by decide +kernel
theorem awQ_check : checkP awQ = (0, -1) := by decide +kernel
theorem aw_arity : arityP awP ⟨#[108, 105, 110, 107]⟩ = 3 := by decide +kernel
theorem aw_vars : nub (vs1 awS) = [⟨#[83]⟩] := by decide +kernel
theorem v0 : vT 0 = awS := by rfl
theorem v2 : vT 2 = awX := by rfl
def awO : AObj := .cells [.int .i64 1, .str ⟨#[83]⟩, .int .i64 0, .int .i64 0, .str ⟨#[]⟩, .isl [] false, .isl [] false] 0 false
def awH : Heap := [awO, awO, .cells [.int .i64 1, .str ⟨#[114]⟩, .sl 1 0 1 7 true] 0 false, .cells [.isl (relsD.map GD.enc) false, .isl [] true, .sl 5 0 1 6 true] 0 false,
  .cells [.int .i64 1, .str ⟨#[83]⟩, .int .i64 0, .int .i64 0, .str ⟨#[]⟩, .isl [] false, .isl [] false, .int .i64 1, .str ⟨#[88]⟩, .int .i64 0, .int .i64 0, .str ⟨#[]⟩, .isl [] false, .isl [] false] 0 false,
  .cells [.str ⟨#[114, 49]⟩, .str ⟨#[112]⟩, .sl 4 0 2 7 true, .str ⟨#[]⟩, .int .i64 0, .sl 2 0 1 3 true] 0 false]
abbrev awA : AV := .agg [.isl (relsD.map GD.enc) false, .isl [] true, .sl 5 0 1 6 true]
theorem aw_close : ∃ σ, closeT awH [awA] = some ([awP.enc], σ) := ⟨_, rfl⟩
theorem aw_close2 : ∃ σ, closeT awH [awA, .str ⟨#[108, 105, 110, 107]⟩] = some ([awP.enc, .str ⟨#[108, 105, 110, 107]⟩], σ) := ⟨_, rfl⟩
theorem aw_c1 : callT T 10 [awA] 0 awH = some (.tup [.int .i64 61, .int .i64 0], awH) := by
  obtain ⟨σ, h⟩ := aw_close
  have := call_pure (T := T) (f := 10) (bs := 0) rfl rfl rfl h (by simp) (check_ok awP (by decide +kernel))
  rw [awP_check] at this
  exact this
theorem aw_c2 (σ : Heap) : callT T 10 [.agg [.isl (relsD.map GD.enc) false, .isl [] true, .isl [] true]] 0 σ = some (.tup [.int .i64 0, .int .i64 (-1)], σ) := by
  have := call_pure (T := T) (f := 10) (bs := 0) (σ := σ) (σ' := σ) rfl rfl rfl (show closeT σ [.agg [.isl (relsD.map GD.enc) false, .isl [] true, .isl [] true]] = some ([awQ.enc], σ) from rfl) (by simp) (check_ok awQ (by decide +kernel))
  rw [awQ_check] at this
  exact this
theorem aw_c3 : callT T 20 [awA, .str ⟨#[108, 105, 110, 107]⟩] 0 awH = some (.int .i64 3, awH) := by
  obtain ⟨σ, h⟩ := aw_close2
  have := call_pure (T := T) (f := 20) (bs := 0) rfl rfl rfl h (by simp) (arity_ok awP ⟨#[108, 105, 110, 107]⟩ (by decide +kernel))
  rw [aw_arity] at this
  exact this
theorem aw_c4 (σ : Heap) : callT T 14 [.agg [.int .i64 1, .str ⟨#[83]⟩, .int .i64 0, .int .i64 0, .str ⟨#[]⟩, .isl [] false, .isl [] false]] 0 σ = some (.isl [.str ⟨#[83]⟩] false, σ) := by
  have := call_clean (T := T) (f := 14) (bs := 0) (σ := σ) rfl rfl rfl (by simp) (vars_ok awS (by decide +kernel))
  rw [aw_vars] at this
  exact this
theorem aw_c5 : callT T 15 [.isl [.str ⟨#[83]⟩] false, .sl 6 0 1 1 false] 0 (awH ++ [.cells [.str ⟨#[83]⟩] 0 false]) = some (.bool true, awH ++ [.cells [.str ⟨#[83]⟩] 0 false]) := by
  have h : ∃ σ, closeT (awH ++ [.cells [.str ⟨#[83]⟩] 0 false]) [.isl [.str ⟨#[83]⟩] false, .sl 6 0 1 1 false] = some ([txs [⟨#[83]⟩], txs [⟨#[83]⟩]], σ) := ⟨_, rfl⟩
  obtain ⟨σ, h⟩ := h
  have := call_pure (T := T) (f := 15) (bs := 0) rfl rfl rfl h (by simp [txs]) (texts_ok [⟨#[83]⟩] [⟨#[83]⟩] (by decide) (by decide))
  exact this
theorem awake6_ok : pureT T c8 [] = some (.bool true) := by
  have h0 := callV6 0 (by unfold GV.i64ok; omega)
  have h2 := callV6 2 (by unfold GV.i64ok; omega)
  rw [v0] at h0
  rw [v2] at h2
  apply pure_enter (by simp [c8])
  simp [c8, h0, h2, callRelations6, setRun, awS, awX, GT.enc, GT.kind, GT.name, GT.value, GT.args, GV.kind, GV.num, GV.text, GV.items, GV.encs]
  have c1 := aw_c1
  have c3 := aw_c3
  have c5 := aw_c5
  simp only [awH, awO, List.cons_append, List.nil_append] at c1 c3 c5
  simp [c1, aw_c2, callRelations6, setRun, c3, aw_c4, c5, endP, res1]
theorem callAwake6 (bs : Nat) (σ : Heap) : callT T 8 [] bs σ = some (.bool true, σ) := call_clean rfl rfl rfl rfl awake6_ok
end Go.Proofs.Ytiikmmbfhbianaa
end
section
set_option linter.unusedVariables false
set_option linter.unusedSimpArgs false
set_option linter.unnecessarySimpa false
namespace Go.Proofs.Ytiikmmbfhbianaa
open Go.Mach
structure GRaw where
  kind : Int
  name : Int
  n0 : Int
  n1 : Int
  n2 : Int
  n3 : Int
namespace GRaw
def enc (x : GRaw) : AV := .agg [.int .i64 x.kind, .int .i64 x.name, .int .i64 x.n0, .int .i64 x.n1, .int .i64 x.n2, .int .i64 x.n3]
def ok (x : GRaw) : Prop := GV.i64ok x.kind ∧ GV.i64ok x.name ∧ GV.i64ok x.n0 ∧ GV.i64ok x.n1 ∧ GV.i64ok x.n2 ∧ GV.i64ok x.n3
def at' (x : GRaw) (i : Nat) : Int := if i = 0 then x.n0 else if i = 1 then x.n1 else if i = 2 then x.n2 else x.n3
def zero : GRaw := ⟨0, 0, 0, 0, 0, 0⟩
theorem enc_mk (k n a b c d : Int) : AV.agg [.int .i64 k, .int .i64 n, .int .i64 a, .int .i64 b, .int .i64 c, .int .i64 d] = enc ⟨k, n, a, b, c, d⟩ := rfl
@[simp] theorem eta (x : GRaw) : (⟨x.kind, x.name, x.n0, x.n1, x.n2, x.n3⟩ : GRaw) = x := rfl
theorem enc_eq (x : GRaw) : x.enc = .agg [.int .i64 x.kind, .int .i64 x.name, .int .i64 x.n0, .int .i64 x.n1, .int .i64 x.n2, .int .i64 x.n3] := rfl
@[simp] theorem enc_cells (x : GRaw) : x.enc.cells = [.int .i64 x.kind, .int .i64 x.name, .int .i64 x.n0, .int .i64 x.n1, .int .i64 x.n2, .int .i64 x.n3] := rfl
@[simp] theorem enc_solid (x : GRaw) : x.enc.solid = true := rfl
@[simp] theorem enc_head (x : GRaw) (xs : List AV) : headYld (x.enc :: xs) = false := by cases x; rfl
@[simp] theorem enc_clean (x : GRaw) : x.enc.clean = true := rfl
@[simp] theorem enc_datR (x : GRaw) : x.enc.datR = true := rfl
@[simp] theorem enc_dat (x : GRaw) : x.enc.dat = true := rfl
@[simp] theorem enc_clo (x : GRaw) : x.enc.clo = true := rfl
@[simp] theorem enc_clo1 (x : GRaw) : x.enc.clo1 = false := rfl
@[simp] theorem enc_closeA (σ : Heap) (x : GRaw) : closeA σ x.enc = some (x.enc, σ) := (clean_close (by simp)).1
@[simp] theorem enc_closeR (σ : Heap) (x : GRaw) : closeR σ x.enc = some (x.enc, σ) := rfl
theorem zero_ok : zero.ok := by simp [ok, zero, GV.i64ok]
theorem at_ok {x : GRaw} (h : x.ok) (i : Nat) : GV.i64ok (x.at' i) := by
  obtain ⟨h1, h2, h3, h4, h5, h6⟩ := h
  unfold at'
  split
  · exact h3
  split
  · exact h4
  split
  · exact h5
  · exact h6
end GRaw
def RawsOk (rules : List (List GRaw)) : Prop := (∀ l ∈ rules, (∀ x ∈ l, x.ok) ∧ l.length ≤ 100000000000) ∧ rules.length ≤ 100000000000
def FactsOk (facts : List GRaw) : Prop := (∀ x ∈ facts, x.ok) ∧ facts.length ≤ 100000000000
abbrev encRR (rules : List (List GRaw)) : List AV := rules.map fun l => AV.isl (l.map GRaw.enc) false
theorem tdiv_ok {k : Int} (h : GV.i64ok k) (n : Nat) (hn : 2 ≤ n) : GV.i64ok (k.tdiv n) := by
  unfold GV.i64ok at h ⊢
  have h1 : (k.tdiv n).natAbs = k.natAbs / n := by rw [Int.natAbs_tdiv]; rfl
  have h2 : k.natAbs / n * 2 ≤ k.natAbs := Nat.le_trans (Nat.mul_le_mul_left _ hn) (Nat.div_mul_le_self _ _)
  omega
def relR (x : GRaw) : GD := relsD.getD (pickN x.name 6) ⟨⟨#[]⟩, 0⟩
def addrN (n : Nat) : ByteArray := [⟨#[97]⟩, ⟨#[98]⟩, ⟨#[99]⟩, ⟨#[100]⟩].getD n ⟨#[]⟩
def vTn (n : Nat) : GT := .mk 1 (vName n) (.mk 0 0 ⟨#[]⟩ []) []
theorem vT_n (c : Int) : vT c = vTn (pickN c 6) := rfl
def addrT (n : Nat) : GT := .mk 2 ⟨#[]⟩ (.mk 3 0 (addrN n) []) []
def sumT (n : Nat) : GT := .mk 4 ⟨#[43]⟩ (.mk 0 0 ⟨#[]⟩ []) [vTn n, numT 1]
def argR (k : Int) : GT :=
  if pickN k 12 = 9 then numT (pickN (k.tdiv 12) 4) else if pickN k 12 = 10 then addrT (pickN (k.tdiv 12) 3) else if pickN k 12 = 11 then sumT (pickN (k.tdiv 12) 6) else vT k
def argsR (x : GRaw) (n : Nat) : List GT := (List.range n).map fun i => if i = 0 then vT x.n0 else argR (x.at' i)
def atomR (x : GRaw) : List GT := argsR x (relR x).arity.toNat
def tSix : List ByteArray := [⟨#[61, 61]⟩, ⟨#[33, 61]⟩, ⟨#[60]⟩, ⟨#[60, 61]⟩, ⟨#[62]⟩, ⟨#[62, 61]⟩]
def litR (x : GRaw) : GL :=
  if pickN x.kind 8 < 4 then ⟨1, (relR x).name, atomR x⟩
  else if pickN x.kind 8 = 4 then ⟨2, (relR x).name, atomR x⟩
  else if pickN x.kind 8 < 7 then ⟨3, tSix.getD (pickN x.name 6) ⟨#[]⟩, [vT x.n0, if pickN x.n3 2 = 0 then numT (pickN x.n2 4) else vT x.n1]⟩
  else ⟨4, vName (pickN x.n0 6), [.mk 4 (if pickN x.n3 2 = 0 then ⟨#[43]⟩ else ⟨#[45]⟩) (.mk 0 0 ⟨#[]⟩ []) [vT x.n1, if pickN (x.n3.tdiv 2) 2 = 0 then numT 1 else vT x.n2]]⟩
def bodyR (l : List GRaw) : List GL := if l.length ≤ 1 then [litR .zero] else ((l.take 5).drop 1).map litR
def headR (l : List GRaw) : GRaw := l.headD .zero
def aggR (h : GRaw) : Bool := decide (pickN h.kind 5 = 4) && decide (((atomR h)[1]?).map GT.kind = some 1)
def aggN (n : Nat) : ByteArray := if n = 0 then sMin else if n = 1 then sMax else sCount
def ruleR (l : List GRaw) (n : Nat) : GR :=
  ⟨(⟨#[114]⟩ ++ ⟨#[UInt8.ofNat (97 + n)]⟩), (relR (headR l)).name, atomR (headR l), if aggR (headR l) = true then aggN (pickN ((headR l).kind.tdiv 5) 3) else ⟨#[]⟩, if aggR (headR l) = true then 1 else 0, bodyR l⟩
def addrV (n : Nat) : GV := .mk 3 0 (addrN n) []
def numV (n : Int) : GV := .mk 1 n ⟨#[]⟩ []
def fargR (x : GRaw) (i : Nat) : GV := if i = 0 ∨ i = 1 ∧ (pickN x.name 6 = 0 ∨ pickN (x.at' i) 2 = 0) then addrV (pickN ((x.at' i).tdiv 2) 4) else numV (pickN ((x.at' i).tdiv 2) 5)
def factR (x : GRaw) : GU := ⟨(relR x).name, (List.range (relR x).arity.toNat).map (fargR x)⟩
def rulesR (rules : List (List GRaw)) : List GR := ((rules.take 6).zipIdx).map fun p => ruleR p.1 p.2
def progR (rules : List (List GRaw)) (facts : List GRaw) : GP := ⟨relsD, (facts.take 12).map factR, rulesR rules⟩
theorem rel_cases (x : GRaw) : ∃ n, n < 6 ∧ pickN x.name 6 = n ∧ relR x = relsD.getD n ⟨⟨#[]⟩, 0⟩ := ⟨_, pickN_lt (by omega), rfl, rfl⟩
theorem rel_arity (x : GRaw) : 1 ≤ (relR x).arity.toNat ∧ (relR x).arity.toNat ≤ 3 ∧ ((relR x).arity.toNat : Int) = (relR x).arity := by
  obtain ⟨n, hn, _, e⟩ := rel_cases x
  rw [e]
  match n, hn with
  | 0, _ => decide
  | 1, _ => decide
  | 2, _ => decide
  | 3, _ => decide
  | 4, _ => decide
  | 5, _ => decide
theorem rel_OK (x : GRaw) : relOK (relR x).name = true := by
  obtain ⟨n, hn, _, e⟩ := rel_cases x
  rw [e]
  match n, hn with
  | 0, _ => decide +kernel
  | 1, _ => decide +kernel
  | 2, _ => decide +kernel
  | 3, _ => decide +kernel
  | 4, _ => decide +kernel
  | 5, _ => decide +kernel
theorem vTn_R : ∀ n, n < 6 → termR 8 (vTn n) = true := by decide +kernel
theorem vT_R (c : Int) : termR 8 (vT c) = true := vTn_R _ (pickN_lt (by omega))
theorem numT_R : ∀ n : Nat, n < 6 → termR 8 (numT n) = true := by decide +kernel
theorem addrT_R : ∀ n, n < 3 → termR 8 (addrT n) = true := by decide +kernel
theorem sumT_R : ∀ n, n < 6 → termR 8 (sumT n) = true := by decide +kernel
theorem argR_R (k : Int) : termR 8 (argR k) = true := by
  unfold argR
  split
  · exact numT_R _ (Nat.lt_of_lt_of_le (pickN_lt (by omega)) (by omega))
  split
  · exact addrT_R _ (pickN_lt (by omega))
  split
  · exact sumT_R _ (pickN_lt (by omega))
  · exact vT_R k
theorem argsR_R (x : GRaw) (n : Nat) : (argsR x n).all (termR 8) = true := by
  rw [List.all_eq_true]
  intro t ht
  obtain ⟨i, _, rfl⟩ := List.mem_map.1 ht
  split
  · exact vT_R _
  · exact argR_R _
@[simp] theorem argsR_len (x : GRaw) (n : Nat) : (argsR x n).length = n := by simp [argsR]
theorem argsR_succ (x : GRaw) (n : Nat) : argsR x (n + 1) = vT x.n0 :: (List.range' 1 n).map fun i => argR (x.at' i) := by
  unfold argsR
  rw [List.range_eq_range', List.range'_succ, List.map_cons]
  simp only [if_true]
  congr 1
  apply List.map_congr_left
  intro i hi
  rw [List.mem_range'_1] at hi
  rw [if_neg (by omega)]
theorem atom_argsB (x : GRaw) : argsB (atomR x) = true := by
  obtain ⟨h1, h2, _⟩ := rel_arity x
  unfold argsB atomR
  have h3 := argsR_R x (relR x).arity.toNat
  have h4 : headOK (argsR x (relR x).arity.toNat) = true := by
    obtain ⟨m, hm⟩ : ∃ m, (relR x).arity.toNat = m + 1 := ⟨_, (Nat.succ_pred_eq_of_pos h1).symm⟩
    rw [hm, argsR_succ]; rfl
  rw [h3, h4, argsR_len]
  simp; omega
theorem vName_OK : ∀ n, n < 6 → varOK (vName n) = true := by decide +kernel
theorem tSix_OK : ∀ n, n < 6 → tOK (tSix.getD n ⟨#[]⟩) = true := by decide +kernel
theorem opT_R : ∀ a, a < 6 → ∀ b, b < 6 → ∀ o, o < 2 → termR 8 (.mk 4 (if o = 0 then ⟨#[43]⟩ else ⟨#[45]⟩) (.mk 0 0 ⟨#[]⟩ []) [vTn a, vTn b]) = true := by decide +kernel
theorem opN_R : ∀ a, a < 6 → ∀ o, o < 2 → termR 8 (.mk 4 (if o = 0 then ⟨#[43]⟩ else ⟨#[45]⟩) (.mk 0 0 ⟨#[]⟩ []) [vTn a, numT 1]) = true := by decide +kernel
theorem litR_B (x : GRaw) : litB (litR x) = true := by
  unfold litR
  split
  · simp [litB, rel_OK, atom_argsB]
  split
  · simp [litB, rel_OK, atom_argsB]
  split
  · have h1 := tSix_OK _ (pickN_lt (c := x.name) (n := 6) (by omega))
    have h2 := numT_R (pickN x.n2 4) (Nat.lt_of_lt_of_le (pickN_lt (by omega)) (by omega))
    have h3 : termR 8 (if pickN x.n3 2 = 0 then numT (pickN x.n2 4) else vT x.n1) = true := by
      split
      · exact h2
      · exact vT_R _
    generalize tSix.getD (pickN x.name 6) ⟨#[]⟩ = o at *
    simp [litB, h1, vT_R, h3]
  · have h1 := vName_OK _ (pickN_lt (c := x.n0) (n := 6) (by omega))
    have h3 : termR 8 (.mk 4 (if pickN x.n3 2 = 0 then ⟨#[43]⟩ else ⟨#[45]⟩) (.mk 0 0 ⟨#[]⟩ []) [vT x.n1, if pickN (x.n3.tdiv 2) 2 = 0 then numT 1 else vT x.n2]) = true := by
      split
      · rename_i h
        split
        · exact opN_R _ (pickN_lt (c := x.n1) (by omega)) 0 (by omega)
        · exact opT_R _ (pickN_lt (c := x.n1) (by omega)) _ (pickN_lt (c := x.n2) (by omega)) 0 (by omega)
      · split
        · exact opN_R _ (pickN_lt (c := x.n1) (by omega)) 1 (by omega)
        · exact opT_R _ (pickN_lt (c := x.n1) (by omega)) _ (pickN_lt (c := x.n2) (by omega)) 1 (by omega)
    simp [litB, h1, h3]
theorem bodyR_len (l : List GRaw) : 1 ≤ (bodyR l).length ∧ (bodyR l).length ≤ 4 := by
  unfold bodyR
  split
  · simp
  · simp; omega
theorem bodyR_mem (l : List GRaw) {y : GL} (h : y ∈ bodyR l) : ∃ x, y = litR x := by
  unfold bodyR at h
  split at h
  · simp at h; exact ⟨_, h⟩
  · obtain ⟨x, _, rfl⟩ := List.mem_map.1 h; exact ⟨x, rfl⟩
theorem label_OK : ∀ n, n < 26 → relOK (⟨#[114]⟩ ++ ⟨#[UInt8.ofNat (97 + n)]⟩) = true := by decide +kernel
theorem aggN_ne (n : Nat) : aggN n ≠ ⟨#[]⟩ := by
  unfold aggN
  split
  · decide
  split <;> decide
theorem ruleR_B (l : List GRaw) (n : Nat) (hn : n < 26) : ruleB (ruleR l n) = true := by
  have h1 := bodyR_len l
  have h2 : (bodyR l).all litB = true := by
    rw [List.all_eq_true]; intro y hy
    obtain ⟨x, rfl⟩ := bodyR_mem l hy
    exact litR_B x
  have h3 : aggB (ruleR l n) = true := by
    unfold aggB ruleR
    by_cases ha : aggR (headR l) = true
    · simp only [ha, if_true, if_neg (aggN_ne _)]
      have h4 : aggN (pickN ((headR l).kind.tdiv 5) 3) = sMin ∨ aggN (pickN ((headR l).kind.tdiv 5) 3) = sMax ∨ aggN (pickN ((headR l).kind.tdiv 5) 3) = sCount := by
        unfold aggN
        split
        · exact .inl rfl
        split
        · exact .inr (.inl rfl)
        · exact .inr (.inr rfl)
      unfold aggR at ha
      simp only [Bool.and_eq_true, decide_eq_true_eq] at ha
      have h5 : 1 < (atomR (headR l)).length := by
        obtain ⟨x, hx, _⟩ := Option.map_eq_some_iff.1 ha.2
        exact (List.getElem?_eq_some_iff.1 hx).1
      simp only [Bool.and_eq_true, decide_eq_true_eq]
      exact ⟨⟨h4, by omega, by omega⟩, ha.2⟩
    · simp [ha]
  have e1 : (ruleR l n).label = (⟨#[114]⟩ ++ ⟨#[UInt8.ofNat (97 + n)]⟩) := rfl
  have e2 : (ruleR l n).head = (relR (headR l)).name := rfl
  have e3 : (ruleR l n).args = atomR (headR l) := rfl
  have e4 : (ruleR l n).body = bodyR l := rfl
  simp only [ruleB, h3, e1, e2, e3, e4, label_OK n hn, rel_OK, atom_argsB, h2, Bool.and_true, Bool.true_and, decide_eq_true_eq]
  omega
theorem addrV_R : ∀ n, n < 4 → rightT (addrV n) = true := by decide +kernel
theorem numV_R : ∀ n : Nat, n < 6 → rightT (numV n) = true := by decide +kernel
theorem fargR_R (x : GRaw) (i : Nat) : rightT (fargR x i) = true := by
  unfold fargR
  split
  · exact addrV_R _ (pickN_lt (by omega))
  · exact numV_R _ (Nat.lt_of_lt_of_le (pickN_lt (by omega)) (by omega))
theorem fargs_len (x : GRaw) : (factR x).args.length = (relR x).arity.toNat := by simp [factR]
theorem tupB_R (x : GRaw) : tupB (factR x) = true := by
  obtain ⟨h1, h2, _⟩ := rel_arity x
  have h3 : (factR x).args.all rightT = true := by
    rw [List.all_eq_true]; intro v hv
    obtain ⟨i, _, rfl⟩ := List.mem_map.1 hv
    exact fargR_R x i
  have h4 : ∃ v l, (factR x).args = v :: l ∧ v.kind = 3 := by
    obtain ⟨m, hm⟩ : ∃ m, (relR x).arity.toNat = m + 1 := ⟨_, (Nat.succ_pred_eq_of_pos h1).symm⟩
    refine ⟨fargR x 0, (List.range' 1 m).map (fargR x), ?_, ?_⟩
    · simp only [factR, hm, List.range_eq_range', List.range'_succ, List.map_cons]
    · simp [fargR, addrV]
  have h5 := fargs_len x
  obtain ⟨v, l, e, hv⟩ := h4
  have e1 : (factR x).name = (relR x).name := rfl
  unfold tupB
  rw [h3, e1, rel_OK, h5]
  rw [e]
  simp [hv]; omega
theorem relsD_B : relsD.all declB = true := by decide +kernel
theorem relsD_dup : dupD [] relsD = false := by decide +kernel
theorem arity_rel {p : GP} (hp : p.decls = relsD) (x : GRaw) : arityP p (relR x).name = (relR x).arity := by
  obtain ⟨n, hn, _, e⟩ := rel_cases x
  have hd : ∀ m, arityP p m = arityP ⟨relsD, [], []⟩ m := fun m => by unfold arityP; rw [hp]
  rw [e, hd]
  match n, hn with
  | 0, _ => decide +kernel
  | 1, _ => decide +kernel
  | 2, _ => decide +kernel
  | 3, _ => decide +kernel
  | 4, _ => decide +kernel
  | 5, _ => decide +kernel
theorem fact_good {p : GP} (hp : p.decls = relsD) (x : GRaw) : badF p (factR x) = false := by
  have h1 := arity_rel hp x
  have h2 := (rel_arity x).2.2
  have h3 := fargs_len x
  have e1 : (factR x).name = (relR x).name := rfl
  simp [badF, h1, h3, e1, h2]
theorem facts_good {p : GP} (hp : p.decls = relsD) (l : List GRaw) : (l.map factR).any (badF p) = false := by
  rw [List.any_eq_false]; intro v hv
  obtain ⟨x, _, rfl⟩ := List.mem_map.1 hv
  simp [fact_good hp]
theorem rule_congr {p q : GP} (h : p.decls = q.decls) (r : GR) : ruleP p r = ruleP q r := by
  have ha : arityP p = arityP q := by funext n; unfold arityP; rw [h]
  have hb : badL p = badL q := by funext l; unfold badL; rw [ha]
  have hr : relsB p r = relsB q r := by unfold relsB; rw [ha, hb]
  unfold ruleP; rw [hr]
theorem first_congr {p q : GP} (h : p.decls = q.decls) : ∀ (l : List GR) (i : Nat), firstP p l i = firstP q l i
  | [], i => rfl
  | r :: l, i => by simp only [firstP, rule_congr h r, first_congr h l]
theorem check_rawR {p : GP} (hp : p.decls = relsD) (h : progB p = true) (hf : p.facts.any (badF p) = false) : checkP p = firstP p p.rules 0 := by
  unfold checkP
  rw [h, hf, hp, relsD_dup]
  simp
end Go.Proofs.Ytiikmmbfhbianaa
end
section
set_option linter.unusedVariables false
set_option linter.unusedSimpArgs false
set_option linter.unnecessarySimpa false
namespace Go.Mach
def LX (N sz : Nat) (σ : Heap) (es : List AV) (x : AV) : Prop :=
  (es = [] ∧ x = .isl [] true) ∨
  (∃ k cs fz, x = .sl k 0 1 sz true ∧ N ≤ k ∧ σ[k]? = some (.cells cs fz false) ∧ cs.length = sz ∧ cs.all AV.clo1 = true ∧ es = [.agg (cs.map AV.nrm)]) ∨
  (∃ k, x = .own k es ∧ N ≤ k ∧ σ[k]? = some (.tok es.length sz) ∧ es.all (okEl sz true) = true)
theorem closeX_idem {σ : Heap} {j off n sz fj : Nat} {ag ej : Bool} {ds : List AV} (hj : σ[j]? = some (.cells ds fj ej)) (hdc : ds.all AV.clo1 = true) : closeX σ (.sl j off n sz ag) = σ := by
  simp only [closeX, hj, hdc, if_true]
theorem appendC_closeX {σ σ1 : Heap} {sz bytes : Nat} {ag : Bool} {s x : AV} (h : closeX σ x = σ1) (h1 : closeX σ1 x = σ1) : appendC σ sz ag bytes false s x = appendC σ1 sz ag bytes false s x := by
  unfold appendC; simp [h, h1]
theorem LX.closeS_len {σ : Heap} (id sz : Nat) : (closeS σ (.sl id 0 1 sz true)).length = σ.length ∧ ∀ i, i ≠ id → (closeS σ (.sl id 0 1 sz true))[i]? = σ[i]? := by
  simp only [closeS]
  split
  · rename_i cs fz ext h
    split
    · exact ⟨by simp, fun i hi => by rw [List.getElem?_set_ne (Ne.symm hi)]⟩
    · exact ⟨rfl, fun _ _ => rfl⟩
  · exact ⟨rfl, fun _ _ => rfl⟩
def LO (N sz : Nat) (ag : Bool) (σ : Heap) (es : List AV) (x : AV) : Prop :=
  (es = [] ∧ x = .isl [] true) ∨ (∃ k, x = .own k es ∧ N ≤ k ∧ σ[k]? = some (.tok es.length sz) ∧ es.all (okEl sz ag) = true)
theorem LO.nil (N sz : Nat) (ag : Bool) (σ : Heap) : LO N sz ag σ [] (.isl [] true) := .inl ⟨rfl, rfl⟩
theorem LO.toLX {N sz : Nat} {σ : Heap} {es : List AV} {x : AV} (h : LO N sz true σ es x) : LX N sz σ es x := by
  rcases h with h | ⟨k, h⟩
  · exact .inl h
  · exact .inr (.inr ⟨k, h⟩)
theorem LO.closeS {N sz : Nat} {ag : Bool} {σ : Heap} {es : List AV} {x : AV} (h : LO N sz ag σ es x) (τ : Heap) : Go.Mach.closeS τ x = τ := by
  rcases h with ⟨_, rfl⟩ | ⟨k, rfl, _⟩ <;> rfl
theorem LO.len {N sz : Nat} {ag : Bool} {σ : Heap} {es : List AV} {x : AV} (h : LO N sz ag σ es x) : lenV false x = some (.int .i64 (es.length : Int)) := by
  rcases h with ⟨rfl, rfl⟩ | ⟨k, rfl, _⟩ <;> simp
theorem LO.solid {N sz : Nat} {ag : Bool} {σ : Heap} {es : List AV} {x : AV} (h : LO N sz ag σ es x) : x.solid = true := by
  rcases h with ⟨rfl, rfl⟩ | ⟨k, rfl, _⟩ <;> rfl
theorem LO.cells {N sz : Nat} {ag : Bool} {σ : Heap} {es : List AV} {x : AV} (h : LO N sz ag σ es x) : x.cells = [x] := by
  rcases h with ⟨rfl, rfl⟩ | ⟨k, rfl, _⟩ <;> rfl
theorem LO.close {N sz : Nat} {ag : Bool} {σ : Heap} {es : List AV} {x : AV} (h : LO N sz ag σ es x) (τ : Heap) : close0 τ x = some (.isl es false, τ) := by
  rcases h with ⟨rfl, rfl⟩ | ⟨k, rfl, _⟩ <;> rfl
theorem LO.close1 {N sz : Nat} {ag : Bool} {σ : Heap} {es : List AV} {x : AV} (h : LO N sz ag σ es x) (τ : Heap) : Go.Mach.close1 τ x = some (.isl es false, τ) := close1_of0 (h.close τ)
theorem LO.closeA {N sz : Nat} {ag : Bool} {σ : Heap} {es : List AV} {x : AV} (h : LO N sz ag σ es x) (τ : Heap) : Go.Mach.closeA τ x = some (.isl es false, τ) := by
  have hc := h.close1 τ
  rcases h with ⟨rfl, rfl⟩ | ⟨k, rfl, _⟩ <;> exact hc
theorem LO.keep {N sz : Nat} {ag : Bool} {σ τ : Heap} {es : List AV} {x : AV} (h : LO N sz ag σ es x) (hk : ∀ i o, N ≤ i → σ[i]? = some o → τ[i]? = some o) : LO N sz ag τ es x := by
  rcases h with h | ⟨k, h1, h2, h3, h4⟩
  · exact .inl h
  · exact .inr ⟨k, h1, h2, hk _ _ h2 h3, h4⟩
theorem LO.at {N sz : Nat} {ag : Bool} {σ : Heap} {es : List AV} {x : AV} (h : LO N sz ag σ es x) {i : Nat} (hi : i < es.length) (hz : (es[i]).cells.length = sz) : iaddrV sz x (.int .i64 (i : Int)) = some (.iptr (es[i]).cells 0) := by
  rcases h with ⟨rfl, rfl⟩ | ⟨k, rfl, _⟩
  · simp at hi
  · simp [hi, hz]
theorem app_any0 {σ0 σ σ1 : Heap} {j sz bytes fj N : Nat} {ej : Bool} {ds : List AV} {es : List AV} {x : AV}
    (hX : closeX σ (.sl j 0 1 sz true) = σ1) (hj : σ1[j]? = some (.cells ds fj ej)) (hd : ds.length = sz) (hdc : ds.all AV.clo1 = true) (h0 : 0 < sz) (hb : bytes ≤ 1000)
    (hx : LX N sz σ0 es x) (hσ : ∀ i, i < σ0.length → σ1[i]? = σ0[i]?) (hj0 : σ0.length ≤ j) (hN : N ≤ σ0.length) (hl : es.length ≤ 1000000000) :
    ∃ x' σ', appendC σ sz true bytes false x (.sl j 0 1 sz true) = some (x', σ') ∧ LO N sz true σ' (es ++ [.agg (ds.map AV.nrm)]) x' ∧ σ1.length ≤ σ'.length ∧ ∀ i o, σ0[i]? = some o → (i < N ∨ ((∀ n, o ≠ .tok n sz) ∧ ∀ cs fz, o = .cells cs fz false → cs.length ≠ sz)) → σ'[i]? = some o := by
  have hjl : j < σ1.length := (List.getElem?_eq_some_iff.1 hj).1
  rw [appendC_closeX hX (closeX_idem hj hdc)]
  have o2 : okEl sz true (.agg (ds.map AV.nrm)) = true := by simp only [okEl, AV.clo, nrm_all hdc, AV.cells, List.length_map, hd, decide_true, Bool.and_self]
  rcases hx with ⟨rfl, rfl⟩ | ⟨k, cs, fz, rfl, hkN, hk, hcl, hcc, rfl⟩ | ⟨k, rfl, hkN, hk, hes⟩
  · refine ⟨.own σ1.length [.agg (ds.map AV.nrm)], σ1 ++ [.tok 1 sz], by rw [appendC_clo hj hdc]; exact app_ag hj hd hdc h0 hb (app1_nil ..), .inr ⟨σ1.length, rfl, by omega, by simp, by simp [o2]⟩, by simp, fun i o hi h12 => ?_⟩
    have hil := (List.getElem?_eq_some_iff.1 hi).1
    rw [List.getElem?_append_left (by omega), hσ i hil]; exact hi
  · have hkl : k < σ0.length := (List.getElem?_eq_some_iff.1 hk).1
    have hk1 : σ1[k]? = some (.cells cs fz false) := by rw [hσ k hkl]; exact hk
    obtain ⟨c1, c2⟩ := LX.closeS_len (σ := σ1) k sz
    have o1 : okEl sz true (.agg (cs.map AV.nrm)) = true := by simp only [okEl, AV.clo, nrm_all hcc, AV.cells, List.length_map, hcl, decide_true, Bool.and_self]
    refine ⟨_, _, app_slC hk1 hj (by omega) hcl hd hcc hdc h0 hb, .inr ⟨σ1.length, rfl, by omega, ?_, by simp [o1, o2]⟩, by simp [c1], fun i o hi h12 => ?_⟩
    · rw [← c1]; simp
    · have hil := (List.getElem?_eq_some_iff.1 hi).1
      have hne : i ≠ k := by
        rintro rfl
        rw [hk] at hi; injection hi with hi
        rcases h12 with h | ⟨_, h2⟩
        · omega
        · exact h2 cs fz hi.symm hcl
      rw [List.getElem?_append_left (by rw [c1]; omega), c2 i hne, hσ i hil]; exact hi
  · have hkl : k < σ0.length := (List.getElem?_eq_some_iff.1 hk).1
    have hk1 : σ1[k]? = some (.tok es.length sz) := by rw [hσ k hkl]; exact hk
    refine ⟨.own k (es ++ [.agg (ds.map AV.nrm)]), σ1.set k (.tok (es.length + 1) sz), by rw [appendC_clo hj hdc]; exact app_ag hj hd hdc h0 hb (app1_own hes (by omega) hk1), .inr ⟨k, rfl, hkN, ?_, by simp [List.all_append, hes, o2]⟩, by simp, fun i o hi h12 => ?_⟩
    · rw [list_set_at (by omega)]; simp
    · have hil := (List.getElem?_eq_some_iff.1 hi).1
      have hne : i ≠ k := by
        rintro rfl
        rw [hk] at hi; injection hi with hi
        rcases h12 with h | ⟨h1, _⟩
        · omega
        · exact h1 _ hi.symm
      rw [List.getElem?_set_ne (Ne.symm hne), hσ i hil]; exact hi
theorem LX.other {N sz sz2 : Nat} {σ0 σ' : Heap} {es2 : List AV} {y : AV} (hne : sz2 ≠ sz) (h : LX N sz2 σ0 es2 y) (hk : ∀ i o, σ0[i]? = some o → (i < N ∨ ((∀ n, o ≠ .tok n sz) ∧ ∀ cs fz, o = .cells cs fz false → cs.length ≠ sz)) → σ'[i]? = some o) : LX N sz2 σ' es2 y := by
  rcases h with h | ⟨k, cs, fz, h1, h2, h3, h4, h5⟩ | ⟨k, h1, h2, h3, h4⟩
  · exact .inl h
  · exact .inr (.inl ⟨k, cs, fz, h1, h2, hk _ _ h3 (.inr ⟨fun n e => (by cases e), fun cs' fz' e => (by injection e with e1; subst e1; omega)⟩), h4, h5⟩)
  · exact .inr (.inr ⟨k, h1, h2, hk _ _ h3 (.inr ⟨fun n e => (by injection e with e1 e2; exact hne e2), fun cs' fz' e => (by cases e)⟩), h4⟩)
theorem LO.other {N sz sz2 : Nat} {σ0 σ' : Heap} {es2 : List AV} {y : AV} (hne : sz2 ≠ sz) (h : LO N sz2 true σ0 es2 y) (hk : ∀ i o, σ0[i]? = some o → (i < N ∨ ((∀ n, o ≠ .tok n sz) ∧ ∀ cs fz, o = .cells cs fz false → cs.length ≠ sz)) → σ'[i]? = some o) : LO N sz2 true σ' es2 y := by
  rcases h with h | ⟨k, h1, h2, h3, h4⟩
  · exact .inl h
  · exact .inr ⟨k, h1, h2, hk _ _ h3 (.inr ⟨fun n e => (by injection e with e1 e2; exact hne e2), fun cs' fz' e => (by cases e)⟩), h4⟩
theorem app_any {σ0 σ σ1 : Heap} {j sz bytes fj N : Nat} {ej : Bool} {ds : List AV} {es : List AV} {x : AV}
    (hX : closeX σ (.sl j 0 1 sz true) = σ1) (hj : σ1[j]? = some (.cells ds fj ej)) (hd : ds.length = sz) (hdc : ds.all AV.clo1 = true) (h0 : 0 < sz) (hb : bytes ≤ 1000)
    (hx : LX N sz σ0 es x) (hσ : ∀ i, i < σ0.length → σ1[i]? = σ0[i]?) (hj0 : σ0.length ≤ j) (hN : N ≤ σ0.length) (hl : es.length ≤ 1000000000) :
    ∃ x' σ', appendC σ sz true bytes false x (.sl j 0 1 sz true) = some (x', σ') ∧ LX N sz σ' (es ++ [.agg (ds.map AV.nrm)]) x' ∧ σ1.length ≤ σ'.length ∧ (∀ i, i < N → σ'[i]? = σ0[i]?) ∧ ∀ sz2 es2 y, sz2 ≠ sz → LX N sz2 σ0 es2 y → LX N sz2 σ' es2 y := by
  obtain ⟨x', σ', h1, h2, h3, h4⟩ := app_any0 (bytes := bytes) hX hj hd hdc h0 hb hx hσ hj0 hN hl
  exact ⟨x', σ', h1, h2.toLX, h3, fun i hi => by rw [h4 i _ (List.getElem?_eq_getElem (by omega)) (.inl hi), List.getElem?_eq_getElem], fun sz2 es2 y hne hy => hy.other hne h4⟩
theorem LX.len {N sz : Nat} {σ : Heap} {es : List AV} {x : AV} (h : LX N sz σ es x) : lenV false x = some (.int .i64 (es.length : Int)) := by
  rcases h with ⟨rfl, rfl⟩ | ⟨k, cs, fz, rfl, _, _, _, _, rfl⟩ | ⟨k, rfl, _⟩ <;> simp
theorem LX.solid {N sz : Nat} {σ : Heap} {es : List AV} {x : AV} (h : LX N sz σ es x) : x.solid = true := by
  rcases h with ⟨rfl, rfl⟩ | ⟨k, cs, fz, rfl, _⟩ | ⟨k, rfl, _⟩ <;> rfl
theorem LX.cells {N sz : Nat} {σ : Heap} {es : List AV} {x : AV} (h : LX N sz σ es x) : x.cells = [x] := by
  rcases h with ⟨rfl, rfl⟩ | ⟨k, cs, fz, rfl, _⟩ | ⟨k, rfl, _⟩ <;> rfl
theorem LX.keep {N sz : Nat} {σ τ : Heap} {es : List AV} {x : AV} (h : LX N sz σ es x) (hk : ∀ i o, N ≤ i → σ[i]? = some o → τ[i]? = some o) : LX N sz τ es x := by
  rcases h with h | ⟨k, cs, fz, h1, h2, h3, h4⟩ | ⟨k, h1, h2, h3, h4⟩
  · exact .inl h
  · exact .inr (.inl ⟨k, cs, fz, h1, h2, hk _ _ h2 h3, h4⟩)
  · exact .inr (.inr ⟨k, h1, h2, hk _ _ h2 h3, h4⟩)
theorem close0_one {σ : Heap} {k sz fz : Nat} {ext : Bool} {cs : List AV} (hk : σ[k]? = some (.cells cs fz ext)) (hl : cs.length = sz) (hc : cs.all AV.clo1 = true) : close0 σ (.sl k 0 1 sz true) = some (.isl [.agg (cs.map AV.nrm)] false, frz σ k sz) := by
  subst hl
  have hw : window cs 0 cs.length = some cs := window_full rfl
  have hc2 : ¬ (1 : Nat) = 0 := by decide
  simp only [close0, if_neg hc2, hk, Nat.one_mul, Nat.zero_add, hw, Option.bind_some, hc, if_true]
  have ht : List.take cs.length (List.map AV.nrm cs) = List.map AV.nrm cs := List.take_of_length_le (by simp)
  simp [chunk, mk, ht]
theorem LX.frz {N sz k m : Nat} {σ : Heap} {es : List AV} {y : AV} (h : LX N sz σ es y) : LX N sz (Go.Mach.frz σ k m) es y := by
  unfold Go.Mach.frz
  split
  · rename_i cs0 fz0 ext0 h0
    have hk := (List.getElem?_eq_some_iff.1 h0).1
    rcases h with h | ⟨j, cs, fz, h1, h2, h3, h4⟩ | ⟨j, h1, h2, h3, h4⟩
    · exact .inl h
    · by_cases e : k = j
      · subst e
        rw [h0] at h3; injection h3 with h3; injection h3 with e1 e2 e3; subst e1 e3
        exact .inr (.inl ⟨k, cs0, _, h1, h2, list_set_at hk, h4⟩)
      · exact .inr (.inl ⟨j, cs, fz, h1, h2, by rw [List.getElem?_set_ne e]; exact h3, h4⟩)
    · have e : k ≠ j := by rintro rfl; rw [h0] at h3; cases h3
      exact .inr (.inr ⟨j, h1, h2, by rw [List.getElem?_set_ne e]; exact h3, h4⟩)
  · exact h
theorem LX.close {N sz : Nat} {σ : Heap} {es : List AV} {x : AV} (h : LX N sz σ es x) : ∃ σ', close0 σ x = some (.isl es false, σ') ∧ σ'.length = σ.length ∧ (∀ i, i < N → σ'[i]? = σ[i]?) ∧ ∀ N2 sz2 es2 y, LX N2 sz2 σ es2 y → LX N2 sz2 σ' es2 y := by
  rcases h with ⟨rfl, rfl⟩ | ⟨k, cs, fz, rfl, hN, hk, hl, hc, rfl⟩ | ⟨k, rfl, _⟩
  · exact ⟨σ, rfl, rfl, fun _ _ => rfl, fun _ _ _ _ h => h⟩
  · refine ⟨_, close0_one hk hl hc, ?_, fun i hi => ?_, fun _ _ _ _ h => h.frz⟩
    · simp only [Go.Mach.frz, hk, List.length_set]
    · simp only [Go.Mach.frz, hk]; rw [List.getElem?_set_ne (by omega)]
  · exact ⟨σ, rfl, rfl, fun _ _ => rfl, fun _ _ _ _ h => h⟩
theorem LX.closeA {N sz : Nat} {σ : Heap} {es : List AV} {x : AV} (h : LX N sz σ es x) : ∃ σ', Go.Mach.closeA σ x = some (.isl es false, σ') ∧ σ'.length = σ.length ∧ ∀ i, i < N → σ'[i]? = σ[i]? := by
  obtain ⟨σ', h1, h2, h3, _⟩ := h.close
  refine ⟨σ', ?_, h2, h3⟩
  rcases h with ⟨rfl, rfl⟩ | ⟨k, cs, fz, rfl, hN, hk, hl, hc, rfl⟩ | ⟨k, rfl, _⟩ <;> exact close1_of0 h1
theorem chkO_l (ρ : Regs) (σ σ' : Heap) (l : List AX) : (chkO ρ σ σ' l = some ()) = ∀ x ∈ l, objOf σ (ev ρ x) = objOf σ' (ev ρ x) := by
  apply propext
  constructor
  · exact fun h => chkO_some h
  · intro h
    unfold chkO
    rw [if_pos (List.all_eq_true.2 fun x hx => (sameO_iff _ _).2 (h x hx))]
theorem slI_take {sz : Nat} {es : List AV} {c : Bool} {n : Nat} (h : n ≤ es.length) : slSlV sz none (some (.int .i64 (n : Int))) (.isl es c) = some (.isl (es.take n) false) := by
  have h1 : slSlA sz 0 n (.isl es c) = some (.isl (es.take n) false) := by
    have hc : 0 ≤ n ∧ n ≤ es.length ∧ (0 = 0 ∨ es.all (lenIs sz) = true) := ⟨by omega, h, .inl rfl⟩
    unfold slSlA; simp only; rw [if_pos (by simpa using hc)]; simp
  have h2 : bndV es.length es.length (some (.int .i64 (n : Int))) = some n := by
    simp only [bndV]; rw [if_pos ⟨by omega, by omega⟩]; rfl
  have h0 : ¬ isSl (.isl es c) = false := by simp [isSl]
  have hl : lenA (.isl es c) = some es.length := rfl
  unfold slSlV
  rw [if_neg h0, hl]
  simp only [Option.bind_some, bndV_none, h2, h1]
theorem slI_drop {sz : Nat} {es : List AV} {c : Bool} {n : Nat} (h : n ≤ es.length) (hz : es.all (lenIs sz) = true) : slSlV sz (some (.int .i64 (n : Int))) none (.isl es c) = some (.isl (es.drop n) false) := by
  have h1 : slSlA sz n es.length (.isl es c) = some (.isl (es.drop n) false) := by
    have hc : n ≤ es.length ∧ es.length ≤ es.length ∧ (n = 0 ∨ es.all (lenIs sz) = true) := ⟨h, Nat.le_refl _, .inr hz⟩
    simp only [slSlA, if_pos hc, List.take_of_length_le (Nat.le_refl _)]
  have h2 : bndV es.length 0 (some (.int .i64 (n : Int))) = some n := by
    simp only [bndV]; rw [if_pos ⟨by omega, by omega⟩]; rfl
  have h0 : ¬ isSl (.isl es c) = false := by simp [isSl]
  have hl : lenA (.isl es c) = some es.length := rfl
  unfold slSlV
  rw [if_neg h0, hl]
  simp only [Option.bind_some, bndV_none, h2, h1]
theorem lenIs_map {α : Type} (enc : α → AV) (sz : Nat) (h : ∀ x, (enc x).cells.length = sz) (l : List α) : (l.map enc).all (lenIs sz) = true := by
  rw [List.all_eq_true]; intro x hx
  obtain ⟨y, _, rfl⟩ := List.mem_map.1 hx
  simp [lenIs, h y]
theorem LO.isl {N sz bytes : Nat} {ag b : Bool} {σ : Heap} {es : List AV} {x : AV} (h : LO N sz ag σ es x) (ys : List AV) (hok : ys.all (okEl sz ag) = true) (hl : es.length + ys.length ≤ 1000000000) (h0 : 0 < sz) (hb : bytes ≤ 1000) (hN : N ≤ σ.length) :
    ∃ x' σ', appendA σ sz ag bytes false x (.isl ys b) = some (x', σ') ∧ LO N sz ag σ' (es ++ ys) x' ∧ σ.length ≤ σ'.length ∧ ∀ i, i < N → σ'[i]? = σ[i]? := by
  cases ys with
  | nil =>
    refine ⟨x, σ, ?_, by simpa using h, Nat.le_refl _, fun _ _ => rfl⟩
    rcases h with ⟨_, rfl⟩ | ⟨k, rfl, _⟩ <;> simp [appendA, elemsN, elemsA, isSl]
  | cons y ys =>
    have hn : ¬ (sz = 0 ∨ (es.length + (y :: ys).length) * bytes > 70368744177664 ∨ es.length + (y :: ys).length > 70368744177664) := by
      have : (es.length + (y :: ys).length) * bytes ≤ 1000000000 * 1000 := Nat.mul_le_mul hl hb
      omega
    have hne : (y :: ys) ≠ [] := by simp
    have he2 : elemsN σ sz ag (.isl (y :: ys) b) = some (y :: ys) := rfl
    rcases h with ⟨rfl, rfl⟩ | ⟨k, rfl, hkN, ht, hes⟩
    · refine ⟨.own σ.length (y :: ys), σ ++ [.tok (y :: ys).length sz], ?_, .inr ⟨σ.length, by simp, hN, by simp, hok⟩, by simp, fun j hj => by rw [List.getElem?_append_left (by omega)]⟩
      have he1 : elemsA σ sz ag (.isl [] true) = some [] := rfl
      simp only [List.length_nil] at hn
      simp only [appendA, he1, he2, Option.bind_some, isSl, if_neg hne, List.length_nil, if_neg hn, hok, Bool.false_eq_true, if_false]
      simp
    · have hk := (List.getElem?_eq_some_iff.1 ht).1
      refine ⟨.own k (es ++ y :: ys), σ.set k (.tok (es ++ y :: ys).length sz), ?_, .inr ⟨k, rfl, hkN, list_set_at hk, by rw [List.all_append, hes, hok]; rfl⟩, by simp, fun j hj => by rw [List.getElem?_set_ne (by omega)]⟩
      have he1 : elemsA σ sz ag (.own k es) = some es := rfl
      simp only [appendA, he1, he2, Option.bind_some, isSl, if_neg hne, ht, hok, hes, Bool.false_eq_true, if_false]
      rw [if_neg hn]
      simp
section
variable {T : Tab} {bs n : Nat}
theorem stW_appX {σ0 σ σ1 : Heap} {j sz bytes fj N : Nat} {ej : Bool} {ds : List AV} {es : List AV} {x : AV} {d : Option Nat} {os : List AOper} {k : List Fr} {f : FR} {τ : Heap} {Q : AExit → FR → Heap → Prop}
    (hX : closeX σ (.sl j 0 1 sz true) = σ1) (hj : σ1[j]? = some (.cells ds fj ej)) (hd : ds.length = sz) (hdc : ds.all AV.clo1 = true) (h0 : 0 < sz) (hb : bytes ≤ 1000)
    (hx : LX N sz σ0 es x) (hσ : ∀ i, i < σ0.length → σ1[i]? = σ0[i]?) (hj0 : σ0.length ≤ j) (hN : N ≤ σ0.length) (hl : es.length ≤ 1000000000)
    (h : ∀ x' σ', LX N sz σ' (es ++ [.agg (ds.map AV.nrm)]) x' → σ1.length ≤ σ'.length → (∀ i, i < N → σ'[i]? = σ0[i]?) → wpK T bs n (.ops os :: k) (updO f d x') σ' Q) :
    stW T bs n (appendC σ sz true bytes false x (.sl j 0 1 sz true)) d [] os k f τ Q := by
  obtain ⟨x', σ', h1, h2, h3, h4, _⟩ := app_any (bytes := bytes) hX hj hd hdc h0 hb hx hσ hj0 hN hl
  rw [h1]
  exact ⟨rfl, h x' σ' h2 h3 h4⟩
theorem stW_app1 {σ0 : Heap} {sz bytes fj N : Nat} {ej : Bool} {ds : List AV} {es : List AV} {x : AV} {d : Option Nat} {os : List AOper} {k : List Fr} {f : FR} {τ : Heap} {Q : AExit → FR → Heap → Prop}
    (hx : LX N sz σ0 es x) (hd : ds.length = sz) (hdc : ds.all AV.clo1 = true) (h0 : 0 < sz) (hb : bytes ≤ 1000) (hN : N ≤ σ0.length) (hl : es.length ≤ 1000000000)
    (h : ∀ x' σ', LX N sz σ' (es ++ [.agg (ds.map AV.nrm)]) x' → σ0.length + 1 ≤ σ'.length → (∀ i, i < N → σ'[i]? = σ0[i]?) → wpK T bs n (.ops os :: k) (updO f d x') σ' Q) :
    stW T bs n (appendC (σ0 ++ [.cells ds fj ej]) sz true bytes false x (.sl σ0.length 0 1 sz true)) d [] os k f τ Q := by
  have hj : (σ0 ++ [.cells ds fj ej])[σ0.length]? = some (.cells ds fj ej) := List.getElem?_concat_length
  exact stW_appX (closeX_idem hj hdc) hj hd hdc h0 hb hx (fun i hi => List.getElem?_append_left hi) (Nat.le_refl _) hN hl fun x' σ' h1 h2 h3 => h x' σ' h1 (by simpa using h2) h3
theorem stW_appM {σ0 σ σ1 : Heap} {j sz bytes fj N : Nat} {ej : Bool} {ds : List AV} {es : List AV} {x : AV} {d : Option Nat} {os : List AOper} {k : List Fr} {f : FR} {τ : Heap} {Q : AExit → FR → Heap → Prop}
    (hX : closeX σ (.sl j 0 1 sz true) = σ1) (hj : σ1[j]? = some (.cells ds fj ej)) (hd : ds.length = sz) (hdc : ds.all AV.clo1 = true) (h0 : 0 < sz) (hb : bytes ≤ 1000)
    (hx : LX N sz σ0 es x) (hσ : ∀ i, i < σ0.length → σ1[i]? = σ0[i]?) (hj0 : σ0.length ≤ j) (hN : N ≤ σ0.length) (hl : es.length ≤ 1000000000)
    (h : ∀ x' σ', LO N sz true σ' (es ++ [.agg (ds.map AV.nrm)]) x' → σ1.length ≤ σ'.length → (∀ i, i < N → σ'[i]? = σ0[i]?) → (∀ sz2 es2 y, sz2 ≠ sz → LX N sz2 σ0 es2 y → LX N sz2 σ' es2 y) → (∀ sz2 es2 y, sz2 ≠ sz → LO N sz2 true σ0 es2 y → LO N sz2 true σ' es2 y) → wpK T bs n (.ops os :: k) (updO f d x') σ' Q) :
    stW T bs n (appendC σ sz true bytes false x (.sl j 0 1 sz true)) d [] os k f τ Q := by
  obtain ⟨x', σ', h1, h2, h3, h4⟩ := app_any0 (bytes := bytes) hX hj hd hdc h0 hb hx hσ hj0 hN hl
  rw [h1]
  exact ⟨rfl, h x' σ' h2 h3 (fun i hi => by rw [h4 i _ (List.getElem?_eq_getElem (by omega)) (.inl hi), List.getElem?_eq_getElem]) (fun sz2 es2 y hne hy => hy.other hne h4) (fun sz2 es2 y hne hy => hy.other hne h4)⟩
theorem stW_app2M {σ0 : Heap} {o : AObj} {sz bytes fj N : Nat} {ej : Bool} {ds : List AV} {es : List AV} {x : AV} {d : Option Nat} {os : List AOper} {k : List Fr} {f : FR} {τ : Heap} {Q : AExit → FR → Heap → Prop}
    (hx : LX N sz σ0 es x) (hd : ds.length = sz) (hdc : ds.all AV.clo1 = true) (h0 : 0 < sz) (hb : bytes ≤ 1000) (hN : N ≤ σ0.length) (hl : es.length ≤ 1000000000)
    (h : ∀ x' σ', LO N sz true σ' (es ++ [.agg (ds.map AV.nrm)]) x' → σ0.length + 2 ≤ σ'.length → (∀ i, i < N → σ'[i]? = σ0[i]?) → (∀ sz2 es2 y, sz2 ≠ sz → LX N sz2 σ0 es2 y → LX N sz2 σ' es2 y) → (∀ sz2 es2 y, sz2 ≠ sz → LO N sz2 true σ0 es2 y → LO N sz2 true σ' es2 y) → wpK T bs n (.ops os :: k) (updO f d x') σ' Q) :
    stW T bs n (appendC (σ0 ++ [o, .cells ds fj ej]) sz true bytes false x (.sl (σ0.length + 1) 0 1 sz true)) d [] os k f τ Q := by
  have hj : (σ0 ++ [o, .cells ds fj ej])[σ0.length + 1]? = some (.cells ds fj ej) := by simp
  exact stW_appM (closeX_idem hj hdc) hj hd hdc h0 hb hx (fun i hi => List.getElem?_append_left hi) (by omega) hN hl fun x' σ' h1 h2 h3 h4 h5 => h x' σ' h1 (by simpa using h2) h3 h4 h5
theorem closeX_last {N szy sz : Nat} {ag : Bool} {σ' : Heap} {σ : Heap} {pre es : List AV} {y : AV} (hy : LO N szy ag σ' es y) (hpre : pre.all (fun v => match v with | .isl _ true => false | .isl _ _ | .int _ _ | .str _ | .bool _ => true | _ => false) = true) :
    ∃ y', closeX (σ ++ [.cells (pre ++ [y]) 0 false]) (.sl σ.length 0 1 sz true) = σ ++ [.cells (pre ++ [y']) 0 false] ∧ (pre ++ [y']).all AV.clo1 = true ∧ (pre ++ [y']).map AV.nrm = pre ++ [.isl es false] := by
  have hp1 : pre.all AV.clo1 = true := by
    rw [List.all_eq_true] at hpre ⊢
    intro v hv
    have := hpre v hv
    cases v <;> first | rfl | cases this
  have hp2 : pre.map AV.nrm = pre := by
    rw [List.map_congr_left (g := fun y => y) (fun x hx => ?_), List.map_id']
    have := (List.all_eq_true.1 hpre) x hx
    cases x with
    | isl es b => cases b with
      | true => cases this
      | false => rfl
    | _ => rfl
  have hg : (σ ++ [.cells (pre ++ [y]) 0 false])[σ.length]? = some (.cells (pre ++ [y]) 0 false) := List.getElem?_concat_length
  rcases hy with ⟨rfl, rfl⟩ | ⟨k, rfl, _⟩
  · refine ⟨.isl [] true, closeX_idem hg ?_, ?_, ?_⟩
    · simp only [List.all_append, hp1]; rfl
    · simp only [List.all_append, hp1]; rfl
    · simp only [List.map_append, hp2]; rfl
  · refine ⟨.isl es false, ?_, ?_, ?_⟩
    · have h1 : (pre ++ [AV.own k es]).all AV.clo1 = false := by rw [List.all_append]; simp [AV.clo1]
      have hc : ∀ (l : List AV) (τ : Heap), l.all (fun v => match v with | .isl _ true => false | .isl _ _ | .int _ _ | .str _ | .bool _ => true | _ => false) = true → closeL τ (l ++ [AV.own k es]) = some (l ++ [.isl es false], τ) := fun l => by
        induction l with
        | nil => intro τ _; rfl
        | cons v l ih =>
          intro τ hl
          simp only [List.all_cons, Bool.and_eq_true] at hl
          have hv : Go.Mach.close1 τ v = some (v, τ) := by
            have h1 := hl.1
            cases v with
            | isl es b => cases b with
              | true => cases h1
              | false => rfl
            | int _ _ => rfl
            | str _ => rfl
            | bool _ => rfl
            | _ => cases h1
          simp only [List.cons_append, closeL, hv, Option.bind_some, ih τ hl.2, Option.map_some]
      have h3 : (pre ++ [AV.isl es false]).all AV.clo1 = true ∧ (pre ++ [AV.own k es]).length = (pre ++ [AV.isl es false]).length := ⟨by simp only [List.all_append, hp1]; rfl, by simp⟩
      simp only [closeX, hg, h1, hc pre _ hpre, h3, and_self, if_true, Bool.false_eq_true, if_false]
      simp
    · simp only [List.all_append, hp1]; rfl
    · simp only [List.map_append, hp2]; rfl
def LastOk (y z : AV) : Prop := (y.clo1 = true ∧ y.nrm = z) ∨ ∃ k ys, y = .own k ys ∧ z = .isl ys false
theorem LO.last {N sz : Nat} {ag : Bool} {σ : Heap} {es : List AV} {y : AV} (h : LO N sz ag σ es y) : LastOk y (.isl es false) := by
  rcases h with ⟨rfl, rfl⟩ | ⟨k, rfl, _⟩
  · exact .inl ⟨rfl, rfl⟩
  · exact .inr ⟨k, _, rfl, rfl⟩
theorem LastOk.isl (es : List AV) (b : Bool) : LastOk (.isl es b) (.isl es false) := .inl ⟨rfl, rfl⟩
def preOk (pre : List AV) : Bool := pre.all fun v => match v with | .isl _ true => false | .isl _ _ | .int _ _ | .str _ | .bool _ => true | _ => false
theorem preOk_clo {pre : List AV} (h : preOk pre = true) : pre.all AV.clo1 = true ∧ pre.map AV.nrm = pre ∧ ∀ (y z : AV) (τ : Heap), Go.Mach.close1 τ y = some (z, τ) → closeL τ (pre ++ [y]) = some (pre ++ [z], τ) := by
  unfold preOk at h
  refine ⟨?_, ?_, ?_⟩
  · rw [List.all_eq_true] at h ⊢
    intro v hv
    have := h v hv
    cases v <;> first | rfl | cases this
  · rw [List.map_congr_left (g := fun y => y) (fun x hx => ?_), List.map_id']
    have := (List.all_eq_true.1 h) x hx
    cases x with
    | isl es b => cases b with
      | true => cases this
      | false => rfl
    | _ => rfl
  · intro y z τ hy
    induction pre with
    | nil => simp only [List.nil_append, closeL, hy, Option.bind_some, Option.map_some]
    | cons v l ih =>
      simp only [List.all_cons, Bool.and_eq_true] at h
      have hv : Go.Mach.close1 τ v = some (v, τ) := by
        have h1 := h.1
        cases v with
        | isl es b => cases b with
          | true => cases h1
          | false => rfl
        | int _ _ => rfl
        | str _ => rfl
        | bool _ => rfl
        | _ => cases h1
      simp only [List.cons_append, closeL, hv, Option.bind_some, ih h.2, Option.map_some]
theorem list_set_same {σ : Heap} {i : Nat} {o : AObj} (h : σ[i]? = some o) : σ.set i o = σ := by
  apply List.ext_getElem?
  intro j
  by_cases e : i = j
  · subst e
    rw [list_set_at (List.getElem?_eq_some_iff.1 h).1, h]
  · rw [List.getElem?_set_ne e]
theorem closeX_at {j sz : Nat} {σ : Heap} {pre : List AV} {y z : AV} (hj : σ[j]? = some (.cells (pre ++ [y]) 0 false)) (hpre : preOk pre = true) (hy : LastOk y z) :
    ∃ y', closeX σ (.sl j 0 1 sz true) = σ.set j (.cells (pre ++ [y']) 0 false) ∧ (pre ++ [y']).all AV.clo1 = true ∧ (pre ++ [y']).map AV.nrm = pre ++ [z] := by
  obtain ⟨hp1, hp2, hp3⟩ := preOk_clo hpre
  have hjl := (List.getElem?_eq_some_iff.1 hj).1
  rcases hy with ⟨hc, rfl⟩ | ⟨k, ys, rfl, rfl⟩
  · have hall : (pre ++ [y]).all AV.clo1 = true := by rw [List.all_append, hp1]; simp [hc]
    refine ⟨y, ?_, hall, by simp [hp2]⟩
    rw [closeX_idem hj hall, list_set_same hj]
  · have h1 : (pre ++ [AV.own k ys]).all AV.clo1 = false := by rw [List.all_append]; simp [AV.clo1]
    have h3 : (pre ++ [AV.isl ys false]).all AV.clo1 = true ∧ (pre ++ [AV.own k ys]).length = (pre ++ [AV.isl ys false]).length := ⟨by rw [List.all_append, hp1]; rfl, by simp⟩
    refine ⟨.isl ys false, ?_, h3.1, by simp [hp2, AV.nrm]⟩
    simp only [closeX, hj, h1, hp3 (.own k ys) (.isl ys false) σ rfl, h3, and_self, if_true, Bool.false_eq_true, if_false]
def okRef (N : Nat) : AV → Bool
  | .ptr id _ | .map id | .sl id _ _ _ _ => decide (id < N)
  | _ => true
theorem okRef_obj {σ σ' : Heap} {v : AV} (h : okRef σ.length v = true) (hk : ∀ i, i < σ.length → σ'[i]? = σ[i]?) : objOf σ v = objOf σ' v := by
  cases v <;> first | rfl | exact (hk _ (of_decide_eq_true h)).symm
theorem stW_mk {σ : Heap} {A : List AV} {b ag : Bool} {sz bytes : Nat} {d : Option Nat} {chk : List AX} {os : List AOper} {k : List Fr} {f : FR} {Q : AExit → FR → Heap → Prop}
    (hok : A.all (okEl sz ag) = true) (hl : A.length ≤ 1000000000) (h0 : 0 < sz) (hb : bytes ≤ 1000)
    (hchk : ∀ x ∈ chk, okRef σ.length (evF n f x) = true)
    (h : ∀ x' σ', LO σ.length sz ag σ' A x' → σ.length ≤ σ'.length → (∀ i, i < σ.length → σ'[i]? = σ[i]?) → wpK T bs n (.ops os :: k) (updO f d x') σ' Q) :
    stW T bs n (appendA σ sz ag bytes false (.isl [] true) (.isl A b)) d chk os k f σ Q := by
  obtain ⟨x', σ', h1, h2, h3, h4⟩ := (LO.nil σ.length sz ag σ).isl (bytes := bytes) (b := b) A hok (by simpa using hl) h0 hb (Nat.le_refl _)
  rw [h1]
  refine ⟨?_, h x' σ' (by simpa using h2) h3 h4⟩
  rw [chkO_l]
  intro x hx
  rw [ev_lst]
  exact okRef_obj (hchk x hx) h4
theorem stW_rec {σ : Heap} {j N sz bytes : Nat} {pre es : List AV} {x y z : AV} {d : Option Nat} {os : List AOper} {k : List Fr} {f : FR} {τ : Heap} {Q : AExit → FR → Heap → Prop}
    (hx : LO N sz true σ es x) (hj : σ[j]? = some (.cells (pre ++ [y]) 0 false)) (hpre : preOk pre = true) (hy : LastOk y z) (hd : (pre ++ [y]).length = sz) (h0 : 0 < sz) (hb : bytes ≤ 1000) (hN : N ≤ σ.length) (hl : es.length ≤ 1000000000)
    (h : ∀ x' σ', LO N sz true σ' (es ++ [.agg (pre ++ [z])]) x' → σ.length ≤ σ'.length → (∀ i, i < N → i ≠ j → σ'[i]? = σ[i]?) → wpK T bs n (.ops os :: k) (updO f d x') σ' Q) :
    stW T bs n (appendC σ sz true bytes false x (.sl j 0 1 sz true)) d [] os k f τ Q := by
  obtain ⟨y', hX, hcy, hny⟩ := closeX_at (sz := sz) hj hpre hy
  have hjl := (List.getElem?_eq_some_iff.1 hj).1
  have hj1 : (σ.set j (.cells (pre ++ [y']) 0 false))[j]? = some (.cells (pre ++ [y']) 0 false) := list_set_at hjl
  have hlen : (pre ++ [y']).length = sz := by rw [← hd]; simp
  have o2 : okEl sz true (.agg (pre ++ [z])) = true := by
    have := nrm_all hcy
    rw [hny] at this
    have hl2 : (pre ++ [z]).length = sz := by rw [← hd]; simp
    simp only [okEl, AV.clo, this, AV.cells, hl2, decide_true, Bool.and_self]
  rw [appendC_closeX hX (closeX_idem hj1 hcy), appendC_clo hj1 hcy]
  rcases hx with ⟨rfl, rfl⟩ | ⟨m, rfl, hmN, hm, hes⟩
  · have := app_ag (σ := σ.set j (.cells (pre ++ [y']) 0 false)) (bytes := bytes) hj1 hlen hcy h0 hb (app1_nil ..)
    simp only [closeS_isl]
    rw [this, hny]
    refine ⟨rfl, h _ _ (.inr ⟨_, rfl, by simp; omega, by simp, by simp [o2]⟩) (by simp) fun i hi hne => ?_⟩
    rw [List.getElem?_append_left (by simp; omega), List.getElem?_set_ne (Ne.symm hne)]
  · have hmj : j ≠ m := by rintro rfl; rw [hj] at hm; cases hm
    have hm1 : (σ.set j (.cells (pre ++ [y']) 0 false))[m]? = some (.tok es.length sz) := by rw [List.getElem?_set_ne hmj]; exact hm
    have hml := (List.getElem?_eq_some_iff.1 hm).1
    have := app_ag (bytes := bytes) hj1 hlen hcy h0 hb (app1_own hes (by omega) hm1)
    simp only [closeS_own]
    rw [this, hny]
    refine ⟨rfl, h _ _ (.inr ⟨m, rfl, hmN, by rw [list_set_at (by simp; omega)]; simp, by simp [List.all_append, hes, o2]⟩) (by simp) fun i hi hne => ?_⟩
    rw [List.getElem?_set_ne (by omega), List.getElem?_set_ne (Ne.symm hne)]
theorem stW_two {σ : Heap} {A : List AV} {b : Bool} {j sz bytes t4 t5 t6 : Nat} {pre : List AV} {y z : AV} {chk : List AX} {os : List AOper} {k : List Fr} {f : FR} {Q : AExit → FR → Heap → Prop}
    (hf4 : f t4 = .sl j 0 1 sz true) (hj : σ[j]? = some (.cells (pre ++ [y]) 0 false)) (hpre : preOk pre = true) (hy : LastOk y z) (hd : (pre ++ [y]).length = sz)
    (hok : A.all (okEl sz true) = true) (hl : A.length ≤ 100000000) (h0 : 0 < sz) (hb : bytes ≤ 1000) (ht5 : t5 < n) (ht4 : t4 < n) (hne : t4 ≠ t5)
    (hchk : ∀ x ∈ chk, okRef σ.length (evF n f x) = true)
    (h : ∀ x1 x σ', LO σ.length sz true σ' (A ++ [.agg (pre ++ [z])]) x → σ.length ≤ σ'.length → (∀ i, i < σ.length → i ≠ j → σ'[i]? = σ[i]?) → wpK T bs n (.ops os :: k) (upF (upF f t5 x1) t6 x) σ' Q) :
    stW T bs n (appendA σ sz true bytes false (.isl [] true) (.isl A b)) (some t5) chk (⟨some t6, .append sz true bytes false (.t t5) (.t t4), none, []⟩ :: os) k f σ Q := by
  have hjl := (List.getElem?_eq_some_iff.1 hj).1
  refine stW_mk hok (by omega) h0 hb hchk fun x1 σ1 L1 l1 k1 => ?_
  have h4 : evF n (upF f t5 x1) (.t t4) = .sl j 0 1 sz true := by simp [evF, ht4, upF, hne, hf4]
  have h5 : evF n (upF f t5 x1) (.t t5) = x1 := by simp [evF, ht5, upF]
  simp only [updO]
  have e : wpK T bs n (.ops (⟨some t6, .append sz true bytes false (.t t5) (.t t4), none, []⟩ :: os) :: k) (upF f t5 x1) σ1 Q = stW T bs n (appendC σ1 sz true bytes false x1 (.sl j 0 1 sz true)) (some t6) [] os k (upF f t5 x1) σ1 Q := by
    simp only [wpK, stW, stepAll, stepOp, ev_lst, h4, h5]
  rw [e]
  refine stW_rec L1 (by rw [k1 j hjl]; exact hj) hpre hy hd h0 hb (by omega) (by omega) fun x2 σ2 L2 l2 k2 => ?_
  exact h x1 x2 σ2 L2 (by omega) fun i hi hne => by rw [k2 i hi hne, k1 i hi]
theorem stW_app1K {σ0 : Heap} {sz bytes fj N : Nat} {ej : Bool} {ds : List AV} {es : List AV} {x : AV} {d : Option Nat} {os : List AOper} {k : List Fr} {f : FR} {τ : Heap} {Q : AExit → FR → Heap → Prop}
    (hx : LX N sz σ0 es x) (hd : ds.length = sz) (hdc : ds.all AV.clo1 = true) (h0 : 0 < sz) (hb : bytes ≤ 1000) (hN : N ≤ σ0.length) (hl : es.length ≤ 1000000000)
    (h : ∀ x' σ', LX N sz σ' (es ++ [.agg (ds.map AV.nrm)]) x' → σ0.length + 1 ≤ σ'.length → (∀ i, i < N → σ'[i]? = σ0[i]?) → (∀ sz2 es2 y, sz2 ≠ sz → LX N sz2 σ0 es2 y → LX N sz2 σ' es2 y) → wpK T bs n (.ops os :: k) (updO f d x') σ' Q) :
    stW T bs n (appendC (σ0 ++ [.cells ds fj ej]) sz true bytes false x (.sl σ0.length 0 1 sz true)) d [] os k f τ Q := by
  have hj : (σ0 ++ [.cells ds fj ej])[σ0.length]? = some (.cells ds fj ej) := List.getElem?_concat_length
  obtain ⟨x', σ', h1, h2, h3, h4, h5⟩ := app_any (bytes := bytes) (closeX_idem hj hdc) hj hd hdc h0 hb hx (fun i hi => List.getElem?_append_left hi) (Nat.le_refl _) hN hl
  rw [h1]
  exact ⟨rfl, h x' σ' h2 (by simpa using h3) h4 h5⟩
theorem stW_app2 {σ0 : Heap} {o : AObj} {sz bytes fj N : Nat} {ej : Bool} {ds : List AV} {es : List AV} {x : AV} {d : Option Nat} {os : List AOper} {k : List Fr} {f : FR} {τ : Heap} {Q : AExit → FR → Heap → Prop}
    (hx : LX N sz σ0 es x) (hd : ds.length = sz) (hdc : ds.all AV.clo1 = true) (h0 : 0 < sz) (hb : bytes ≤ 1000) (hN : N ≤ σ0.length) (hl : es.length ≤ 1000000000)
    (h : ∀ x' σ', LX N sz σ' (es ++ [.agg (ds.map AV.nrm)]) x' → σ0.length + 2 ≤ σ'.length → (∀ i, i < N → σ'[i]? = σ0[i]?) → wpK T bs n (.ops os :: k) (updO f d x') σ' Q) :
    stW T bs n (appendC (σ0 ++ [o, .cells ds fj ej]) sz true bytes false x (.sl (σ0.length + 1) 0 1 sz true)) d [] os k f τ Q := by
  have hj : (σ0 ++ [o, .cells ds fj ej])[σ0.length + 1]? = some (.cells ds fj ej) := by simp
  exact stW_appX (closeX_idem hj hdc) hj hd hdc h0 hb hx (fun i hi => List.getElem?_append_left hi) (by omega) hN hl fun x' σ' h1 h2 h3 => h x' σ' h1 (by simpa using h2) h3
end
end Go.Mach
end
section
set_option linter.unusedVariables false
set_option linter.unusedSimpArgs false
set_option linter.unnecessarySimpa false
namespace Go.Mach
def apart (x y : AV) : Prop := ∀ k es es2, x = .own k es → y ≠ .own k es2
theorem apart_nil (b : Bool) (es : List AV) (y : AV) : apart (.isl es b) y := fun _ _ _ h => by cases h
theorem apart.symm {x y : AV} (h : apart x y) : apart y x := fun k es es2 h1 h2 => h k es2 es h2 h1
section
variable {T : Tab} {bs n : Nat}
theorem stW_pair {σ0 : Heap} {sz bytes fj N : Nat} {ej : Bool} {ds : List AV} {es es2 : List AV} {x y : AV} {d : Option Nat} {os : List AOper} {k : List Fr} {f : FR} {τ : Heap} {Q : AExit → FR → Heap → Prop}
    (hx : LO N sz true σ0 es x) (hy : LO N sz true σ0 es2 y) (hap : apart x y) (hd : ds.length = sz) (hdc : ds.all AV.clo1 = true) (h0 : 0 < sz) (hb : bytes ≤ 1000) (hN : N ≤ σ0.length) (hl : es.length ≤ 1000000000)
    (h : ∀ x' σ', LO N sz true σ' (es ++ [.agg (ds.map AV.nrm)]) x' → LO N sz true σ' es2 y → apart x' y → σ0.length + 1 ≤ σ'.length → (∀ i, i < N → σ'[i]? = σ0[i]?) → wpK T bs n (.ops os :: k) (updO f d x') σ' Q) :
    stW T bs n (appendC (σ0 ++ [.cells ds fj ej]) sz true bytes false x (.sl σ0.length 0 1 sz true)) d [] os k f τ Q := by
  have hj : (σ0 ++ [.cells ds fj ej])[σ0.length]? = some (.cells ds fj ej) := List.getElem?_concat_length
  have o2 : okEl sz true (.agg (ds.map AV.nrm)) = true := by simp only [okEl, AV.clo, nrm_all hdc, AV.cells, List.length_map, hd, decide_true, Bool.and_self]
  rw [appendC_clo hj hdc]
  rcases hx with ⟨rfl, rfl⟩ | ⟨m, rfl, hmN, hm, hes⟩
  · have := app_ag (bytes := bytes) hj hd hdc h0 hb (app1_nil ..)
    simp only [closeS_isl]
    rw [this]
    refine ⟨rfl, h _ _ (.inr ⟨_, rfl, by simp; omega, by simp, by simp [o2]⟩) (hy.keep fun i o hi ho => by rw [List.getElem?_append_left (by have := (List.getElem?_eq_some_iff.1 ho).1; simp; omega), List.getElem?_append_left (List.getElem?_eq_some_iff.1 ho).1]; exact ho) ?_ (by simp) fun i hi => ?_⟩
    · rcases hy with ⟨rfl, rfl⟩ | ⟨q, rfl, _, hq, _⟩
      · exact (apart_nil _ _ _).symm
      · intro k e1 e2 h1 h2
        injection h1 with h1; injection h2 with h2
        have := (List.getElem?_eq_some_iff.1 hq).1
        simp at h1; omega
    · rw [List.getElem?_append_left (by simp; omega), List.getElem?_append_left (by omega)]
  · have hml := (List.getElem?_eq_some_iff.1 hm).1
    have hm1 : (σ0 ++ [AObj.cells ds fj ej])[m]? = some (.tok es.length sz) := by rw [List.getElem?_append_left hml]; exact hm
    have := app_ag (bytes := bytes) hj hd hdc h0 hb (app1_own hes (by omega) hm1)
    simp only [closeS_own]
    rw [this]
    refine ⟨rfl, h _ _ (.inr ⟨m, rfl, hmN, by rw [list_set_at (by simp; omega)]; simp, by simp [List.all_append, hes, o2]⟩) ?_ ?_ (by simp) fun i hi => ?_⟩
    · rcases hy with hy | ⟨q, rfl, hqN, hq, hq2⟩
      · exact .inl hy
      · have hne : m ≠ q := fun e => hap m es es2 rfl (by rw [e])
        exact .inr ⟨q, rfl, hqN, by rw [List.getElem?_set_ne hne, List.getElem?_append_left (List.getElem?_eq_some_iff.1 hq).1]; exact hq, hq2⟩
    · intro k e1 e2 h1 h2
      injection h1 with h1; subst h1
      exact hap m es e2 rfl h2
    · rw [List.getElem?_set_ne (by omega), List.getElem?_append_left (by omega)]
theorem stW_pair2 {σ0 : Heap} {o : AObj} {sz bytes fj N : Nat} {ej : Bool} {ds : List AV} {es es2 : List AV} {x y : AV} {d : Option Nat} {os : List AOper} {k : List Fr} {f : FR} {τ : Heap} {Q : AExit → FR → Heap → Prop}
    (hx : LO N sz true σ0 es x) (hy : LO N sz true σ0 es2 y) (hap : apart x y) (hd : ds.length = sz) (hdc : ds.all AV.clo1 = true) (h0 : 0 < sz) (hb : bytes ≤ 1000) (hN : N ≤ σ0.length) (hl : es.length ≤ 1000000000)
    (h : ∀ x' σ', LO N sz true σ' (es ++ [.agg (ds.map AV.nrm)]) x' → LO N sz true σ' es2 y → apart x' y → σ0.length + 2 ≤ σ'.length → (∀ i, i < N → σ'[i]? = σ0[i]?) → wpK T bs n (.ops os :: k) (updO f d x') σ' Q) :
    stW T bs n (appendC (σ0 ++ [o, .cells ds fj ej]) sz true bytes false x (.sl (σ0.length + 1) 0 1 sz true)) d [] os k f τ Q := by
  have e1 : σ0 ++ [o, .cells ds fj ej] = (σ0 ++ [o]) ++ [.cells ds fj ej] := by simp
  have e2 : σ0.length + 1 = (σ0 ++ [o]).length := by simp
  have kp : ∀ {es x}, LO N sz true σ0 es x → LO N sz true (σ0 ++ [o]) es x := fun h => h.keep fun i q _ hi => by rw [List.getElem?_append_left (List.getElem?_eq_some_iff.1 hi).1]; exact hi
  rw [e1, e2]
  exact stW_pair (kp hx) (kp hy) hap hd hdc h0 hb (by simp; omega) hl fun x' σ' h1 h2 h3 h4 h5 => h x' σ' h1 h2 h3 (by simp at h4; omega) fun i hi => by rw [h5 i hi, List.getElem?_append_left (by omega)]
end
theorem LO.cat {N M sz bytes : Nat} {ag : Bool} {σ : Heap} {es ys : List AV} {x y : AV} (h : LO N sz ag σ es x) (hy : LO M sz ag σ ys y) (hl : es.length + ys.length ≤ 1000000000) (h0 : 0 < sz) (hb : bytes ≤ 1000) (hN : N ≤ σ.length) :
    ∃ x' σ', appendC σ sz ag bytes false x y = some (x', σ') ∧ LO N sz ag σ' (es ++ ys) x' ∧ σ.length ≤ σ'.length ∧ ∀ i, i < N → σ'[i]? = σ[i]? := by
  have hX : closeX σ y = σ := by rcases hy with ⟨_, rfl⟩ | ⟨k, rfl, _⟩ <;> rfl
  have e1 : appendC σ sz ag bytes false x y = appendA σ sz ag bytes false x y := by
    unfold appendC; simp only [Bool.false_eq_true, if_false]; rw [hX, h.closeS σ]
  have e2 : ∃ b, appendA σ sz ag bytes false x y = appendA σ sz ag bytes false x (.isl ys b) := by
    rcases hy with ⟨rfl, rfl⟩ | ⟨k, rfl, _⟩
    · exact ⟨true, rfl⟩
    · exact ⟨false, rfl⟩
  have hok : ys.all (okEl sz ag) = true := by
    rcases hy with ⟨rfl, rfl⟩ | ⟨k, rfl, _, _, hq⟩
    · rfl
    · exact hq
  obtain ⟨b, e2⟩ := e2
  rw [e1, e2]
  exact h.isl ys hok hl h0 hb hN
def simC : AV → Bool
  | .int _ _ | .str _ | .bool _ | .isl _ _ | .own _ _ => true
  | _ => false
def clz : AV → AV
  | .own _ es => .isl es false
  | .isl es _ => .isl es false
  | v => v
theorem sim_up {v : AV} (h : simC v = true) (c : Heap → AV → Option (AV × Heap)) (τ : Heap) : closeUp c τ v = some (clz v, τ) := by cases v <;> first | rfl | cases h
theorem sim_LW {c : Heap → AV → Option (AV × Heap)} (hc : ∀ v τ, simC v = true → c τ v = some (clz v, τ)) : ∀ (cs : List AV) (τ : Heap), cs.all simC = true → closeLW c τ cs = some (cs.map clz, τ)
  | [], τ, _ => rfl
  | v :: cs, τ, h => by
    simp only [List.all_cons, Bool.and_eq_true] at h
    simp only [closeLW, hc v τ h.1, Option.bind_some, sim_LW hc cs τ h.2, Option.map_some, List.map_cons]
theorem clz_clo1 {v : AV} (h : simC v = true) : (clz v).clo1 = true := by cases v <;> first | rfl | cases h
theorem close1_sl {σ : Heap} {id n sz fz : Nat} {ext : Bool} {cs es : List AV} (h : σ[id]? = some (.cells cs fz ext)) (hlen : cs.length = n * sz) (hsim : cs.all simC = true) (hn : n ≠ 0) (hch : chunk sz true n (cs.map clz) = some es) :
    ∃ τ, Go.Mach.close1 σ (.sl id 0 n sz true) = some (.isl es false, τ) := by
  have hw : window cs 0 (n * sz) = some cs := window_full hlen
  have hclo : (cs.map clz).all AV.clo1 = true := by
    rw [List.all_map, List.all_eq_true]; intro v hv
    exact clz_clo1 (List.all_eq_true.1 hsim v hv)
  by_cases hall : cs.all AV.clo1 = true
  · have hnz : cs.map AV.nrm = cs.map clz := List.map_congr_left fun v hv => by
      have h1 := List.all_eq_true.1 hsim v hv
      have h2 := List.all_eq_true.1 hall v hv
      cases v with
      | isl es b => cases b <;> rfl
      | own k es => cases h2
      | int _ _ => rfl
      | str _ => rfl
      | bool _ => rfl
      | _ => cases h1
    refine ⟨_, close1_of0 (r := (.isl es false, frz σ id (0 + n * sz))) ?_⟩
    simp only [close0, if_neg hn, h, hw, Option.bind_some, hall, if_true, hnz, hch, Option.map_some]
  · have h0 : close0 σ (.sl id 0 n sz true) = none := by
      simp only [close0, if_neg hn, h, hw, Option.bind_some, if_neg hall]
    refine ⟨frz σ id (0 + n * sz), ?_⟩
    unfold Go.Mach.close1
    rw [h0]
    simp only [closeUp, h, hw, Option.bind_some]
    rw [sim_LW (fun v τ hv => sim_up hv _ τ) cs _ hsim]
    simp only [Option.bind_some, hclo, if_true, hch, Option.map_some]
theorem chunk_of_flat {sz : Nat} : ∀ es : List AV, es.all (okEl sz true) = true → chunk sz true es.length (flat es) = some es
  | [], _ => rfl
  | e :: es, h => by
    simp only [List.all_cons, Bool.and_eq_true] at h
    have h1 := h.1
    cases e with
    | agg cs =>
      simp only [okEl, AV.cells, Bool.and_eq_true, decide_eq_true_eq] at h1
      have hl : cs.length = sz := of_decide_eq_true h1.1.2
      have hf : flat (AV.agg cs :: es) = cs ++ flat es := by simp [flat, AV.cells]
      rw [hf, List.length_cons]
      simp only [chunk]
      rw [List.take_left' hl, List.drop_left' hl, chunk_of_flat es h.2]
      rfl
    | _ => simp [okEl] at h1
theorem clz_flat {sz : Nat} (es : List AV) (h : ∀ e ∈ es, e.cells.map clz = e.cells ∧ e.cells.all simC = true) : (flat es).map clz = flat es ∧ (flat es).all simC = true := by
  induction es with
  | nil => exact ⟨rfl, rfl⟩
  | cons e es ih =>
    have h1 := h e (by simp)
    have h2 := ih fun x hx => h x (by simp [hx])
    have hf : flat (e :: es) = e.cells ++ flat es := by simp [flat]
    rw [hf, List.map_append, List.all_append, h1.1, h1.2, h2.1, h2.2]
    exact ⟨rfl, rfl⟩
theorem app_mt_isl {σ : Heap} {id sz fz bytes : Nat} {cs ys : List AV} (h : σ[id]? = some (.cells cs fz false)) (hl : cs.length = sz) (h0 : 0 < sz) (hb : bytes ≤ 1000) (hy : ys.all (okEl sz true) = true) (hn : ys.length ≤ 1000000000) :
    ∃ m σ', appendA σ sz true bytes true (.sl id 0 1 sz true) (.isl ys false) = some (.sl m 0 (1 + ys.length) sz true, σ') ∧ (m = id ∨ m = σ.length) ∧ (∃ fz' ext', σ'[m]? = some (.cells (cs ++ flat ys) fz' ext')) ∧ σ.length ≤ σ'.length ∧ ∀ i, i < σ.length → σ'[i]? = σ[i]? := by
  cases ys with
  | nil =>
    refine ⟨id, σ, ?_, .inl rfl, ⟨fz, false, by simpa [flat] using h⟩, Nat.le_refl _, fun _ _ => rfl⟩
    simp [appendA, elemsN, elemsA, h, hl, window_full, chunk, mk, isSl]
  | cons y ys =>
    have he := elems_ag1 h hl
    have he2 : elemsN σ sz true (.isl (y :: ys) false) = some (y :: ys) := rfl
    have hne : y :: ys ≠ [] := by simp
    have hfl : (flat (y :: ys)).length = (y :: ys).length * sz := by
      have : ∀ l : List AV, l.all (okEl sz true) = true → (flat l).length = l.length * sz := fun l => by
        induction l with
        | nil => intro _; simp [flat]
        | cons z l ih =>
          intro hz
          simp only [List.all_cons, Bool.and_eq_true] at hz
          have h1 := ih hz.2
          have h2 : z.cells.length = sz := by
            have := hz.1
            simp only [okEl, Bool.and_eq_true, decide_eq_true_eq] at this
            exact this.1.2
          simp only [flat, List.flatMap_cons, List.length_append, List.length_cons] at h1 ⊢
          rw [h1, h2, Nat.add_mul]; omega
      exact this _ hy
    have hmul : (1 + (y :: ys).length) * bytes ≤ 1000000001 * 1000 := Nat.mul_le_mul (by omega) hb
    have hbig : ¬ (sz = 0 ∨ (1 + (y :: ys).length) * bytes > 70368744177664 ∨ 1 + (y :: ys).length > 70368744177664) := by omega
    refine ⟨σ.length, σ ++ [.cells (cs ++ flat (y :: ys)) 0 true], ?_, .inr rfl, ⟨0, true, by simp⟩, by simp, fun i hi => List.getElem?_append_left hi⟩
    have hf1 : flat [AV.agg cs] = cs := by simp [flat, AV.cells]
    simp only [appendA, he, he2, Option.bind_some, isSl, List.length_singleton, if_neg hbig, if_neg hne, h]
    simp [hl, hfl, hf1]
end Go.Mach
end
section
set_option linter.unusedVariables false
set_option linter.unusedSimpArgs false
set_option linter.unnecessarySimpa false
set_option maxRecDepth 100000
namespace Go.Proofs.Ytiikmmbfhbianaa
open Go.Mach
theorem rels_get (x : GRaw) : (relsD.map GD.enc)[pickN x.name 6]? = some (relR x).enc := by
  have hlt := pickN_lt (c := x.name) (n := 6) (by omega)
  rw [List.getElem?_map]
  have : relsD[pickN x.name 6]? = some (relR x) := by
    unfold relR
    generalize pickN x.name 6 = n at *
    match n, hlt with
    | 0, _ => rfl
    | 1, _ => rfl
    | 2, _ => rfl
    | 3, _ => rfl
    | 4, _ => rfl
    | 5, _ => rfl
  rw [this]; rfl
theorem raw_at (x : GRaw) (i : Nat) (h : i < 4) : window [AV.int .i64 x.kind, .int .i64 x.name, .int .i64 x.n0, .int .i64 x.n1, .int .i64 x.n2, .int .i64 x.n3] (2 + i) 1 = some [.int .i64 (x.at' i)] := by
  match i, h with
  | 0, _ => rfl
  | 1, _ => rfl
  | 2, _ => rfl
  | 3, _ => rfl
theorem pick6_6 (c : Int) (h1 : GV.i64ok c) (bs : Nat) (σ : Heap) : callT T 11 [.int .i64 c, .int .i64 6] bs σ = some (.int .i64 (pickN c 6 : Int), σ) := pick6 c 6 (by omega) h1 bs σ
theorem pick6_12 (c : Int) (h1 : GV.i64ok c) (bs : Nat) (σ : Heap) : callT T 11 [.int .i64 c, .int .i64 12] bs σ = some (.int .i64 (pickN c 12 : Int), σ) := pick6 c 12 (by omega) h1 bs σ
theorem pick6_4 (c : Int) (h1 : GV.i64ok c) (bs : Nat) (σ : Heap) : callT T 11 [.int .i64 c, .int .i64 4] bs σ = some (.int .i64 (pickN c 4 : Int), σ) := pick6 c 4 (by omega) h1 bs σ
theorem pick6_3 (c : Int) (h1 : GV.i64ok c) (bs : Nat) (σ : Heap) : callT T 11 [.int .i64 c, .int .i64 3] bs σ = some (.int .i64 (pickN c 3 : Int), σ) := pick6 c 3 (by omega) h1 bs σ
theorem pick6_2 (c : Int) (h1 : GV.i64ok c) (bs : Nat) (σ : Heap) : callT T 11 [.int .i64 c, .int .i64 2] bs σ = some (.int .i64 (pickN c 2 : Int), σ) := pick6 c 2 (by omega) h1 bs σ
theorem pick6_5 (c : Int) (h1 : GV.i64ok c) (bs : Nat) (σ : Heap) : callT T 11 [.int .i64 c, .int .i64 5] bs σ = some (.int .i64 (pickN c 5 : Int), σ) := pick6 c 5 (by omega) h1 bs σ
theorem pick6_8 (c : Int) (h1 : GV.i64ok c) (bs : Nat) (σ : Heap) : callT T 11 [.int .i64 c, .int .i64 8] bs σ = some (.int .i64 (pickN c 8 : Int), σ) := pick6 c 8 (by omega) h1 bs σ
theorem pick6_26 (c : Int) (h1 : GV.i64ok c) (bs : Nat) (σ : Heap) : callT T 11 [.int .i64 c, .int .i64 26] bs σ = some (.int .i64 (pickN c 26 : Int), σ) := pick6 c 26 (by omega) h1 bs σ
abbrev cT (t : GT) : List AV := [.int .i64 t.kind, .str t.name, .int .i64 t.value.kind, .int .i64 t.value.num, .str t.value.text, .isl (GV.encs t.value.items) false, .isl (GT.encs t.args) false]
theorem LX.snocT {N : Nat} {σ : Heap} {es : List GT} {x : AV} (t : GT) (h : LX N 7 σ (GT.encs es ++ [.agg ((cT t).map AV.nrm)]) x) : LX N 7 σ (GT.encs (es ++ [t])) x := by
  rw [← GT.encs_snoc, GT.enc_eq t]; exact h
abbrev opC (nm : ByteArray) (x : AV) : List AV := [.int .i64 4, .str nm, .int .i64 0, .int .i64 0, .str ⟨#[]⟩, .isl [] true, x]
def opT (nm : ByteArray) (a b : GT) : GT := .mk 4 nm (.mk 0 0 ⟨#[]⟩ []) [a, b]
theorem closeX_op {σ0 : Heap} (nm : ByteArray) (a b : GT) : closeX (σ0 ++ [.cells (cT a ++ cT b) 0 false, .cells (opC nm (.sl σ0.length 0 2 7 true)) 0 false]) (.sl (σ0.length + 1) 0 1 7 true) =
    σ0 ++ [.cells (cT a ++ cT b) 14 false, .cells (cT (opT nm a b)) 0 false] := by
  have g0 : (σ0 ++ [.cells (cT a ++ cT b) 0 false, .cells (opC nm (.sl σ0.length 0 2 7 true)) 0 false])[σ0.length]? = some (.cells (cT a ++ cT b) 0 false) := by simp
  have g1 : (σ0 ++ [.cells (cT a ++ cT b) 0 false, .cells (opC nm (.sl σ0.length 0 2 7 true)) 0 false])[σ0.length + 1]? = some (.cells (opC nm (.sl σ0.length 0 2 7 true)) 0 false) := by simp
  have hw : window (cT a ++ cT b) 0 14 = some (cT a ++ cT b) := rfl
  have hc : close0 (σ0 ++ [.cells (cT a ++ cT b) 0 false, .cells (opC nm (.sl σ0.length 0 2 7 true)) 0 false]) (.sl σ0.length 0 2 7 true) = some (.isl (GT.encs [a, b]) false, σ0 ++ [.cells (cT a ++ cT b) 14 false, .cells (opC nm (.sl σ0.length 0 2 7 true)) 0 false]) := by
    have hc2 : ¬ (2 : Nat) = 0 := by decide
    simp only [close0, if_neg hc2, g0, Nat.reduceMul, Nat.zero_add, hw, Option.bind_some]
    have h14 : ((cT a ++ cT b).all AV.clo1) = true := rfl
    rw [if_pos h14]
    have hch : chunk 7 true 2 ((cT a ++ cT b).map AV.nrm) = some (GT.encs [a, b]) := by simp [GT.encs, GT.enc_eq a, GT.enc_eq b]
    rw [hch]
    simp only [frz, g0, Option.map_some]
    simp
  have i1 : ∀ (σ : Heap) k n, close1 σ (AV.int k n) = some (.int k n, σ) := fun _ _ _ => rfl
  have s1 : ∀ (σ : Heap) n, close1 σ (AV.str n) = some (.str n, σ) := fun _ _ => rfl
  have l1 : ∀ (σ : Heap) n b, close1 σ (AV.isl n b) = some (.isl n false, σ) := fun _ _ _ => rfl
  have hL : closeL (σ0 ++ [.cells (cT a ++ cT b) 0 false, .cells (opC nm (.sl σ0.length 0 2 7 true)) 0 false]) (opC nm (.sl σ0.length 0 2 7 true)) = some (cT (opT nm a b), σ0 ++ [.cells (cT a ++ cT b) 14 false, .cells (opC nm (.sl σ0.length 0 2 7 true)) 0 false]) := by
    simp only [closeL, i1, s1, l1, close1_of0 hc, Option.bind_some, Option.map_some]
    rfl
  have h2 : (opC nm (.sl σ0.length 0 2 7 true)).all AV.clo1 = false := rfl
  have g2 : (σ0 ++ [.cells (cT a ++ cT b) 14 false, .cells (opC nm (.sl σ0.length 0 2 7 true)) 0 false])[σ0.length + 1]? = some (.cells (opC nm (.sl σ0.length 0 2 7 true)) 0 false) := by simp
  have h3 : ((cT (opT nm a b)).all AV.clo1 = true ∧ (opC nm (.sl σ0.length 0 2 7 true)).length = (cT (opT nm a b)).length) := ⟨rfl, rfl⟩
  simp only [closeX, g1, h2, hL, g2, h3, and_self, if_true, Bool.false_eq_true, if_false]
  simp
theorem atom_ok (x : GRaw) (hx : x.ok) : pureT T c33 [x.enc] = some (.tup [.str (relR x).name, .isl (GT.encs (atomR x)) false]) := by
  have hp := pick6_6 x.name hx.2.1
  have hr := rels_get x
  obtain ⟨a1, a2, a3⟩ := rel_arity x
  have hv := callV6 x.n0 hx.2.2.1
  have hlt := pickN_lt (c := x.name) (n := 6) (by omega)
  have hlt' : (pickN x.name 6 : Int) < 6 := by omega
  have hl6 : relsD.length = 6 := rfl
  unfold atomR
  generalize hn : (relR x).arity.toNat = n at *
  apply pure_enter (by simp [c33])
  simp [c33, callRelations6, setRun, hp, hr, hv]
  refine W_for T 0 72 (n - 1) (fun i f σ => f 1 = .ptr 0 0 ∧ f 4 = .ptr 1 0 ∧ f 6 = .int .i64 ((i : Int) + 1) ∧ 2 ≤ σ.length ∧ σ[0]? = some (.cells x.enc.cells 0 false) ∧ σ[1]? = some (.cells (relR x).enc.cells 0 false) ∧ LX 2 7 σ (GT.encs (argsR x (i + 1))) (f 5)) ?_ _ _ ?_
  · rintro i f σ hi ⟨h1, h4, h6, hN, h0, hd, hL⟩
    by_cases hlt : i + 1 < n
    · have hlt2 : (i : Int) + 1 < (n : Int) := by omega
      have hb4 : 0 ≤ (i : Int) + 1 ∧ (i : Int) + 1 < 4 := by omega
      have hw : IntKind.i64.wrap ((i : Int) + 1 + 1) = (i : Int) + 1 + 1 := wr64 (by omega) (by omega)
      have hk := GRaw.at_ok hx (i + 1)
      have hpp := pick6_12 _ hk
      have hx0 := raw_at x (i + 1) (by omega)
      have hsucc : argsR x (i + 1 + 1) = argsR x (i + 1) ++ [argR (x.at' (i + 1))] := by
        unfold argsR; rw [List.range_succ, List.map_append]; simp
      have hal := argsR_len x (i + 1)
      rw [hsucc]
      generalize argsR x (i + 1) = es at *
      generalize x.at' (i + 1) = m at *
      have hq : GV.i64ok (m.tdiv 12) := tdiv_ok hk 12 (by omega)
      have hwm : IntKind.i64.wrap (m.tdiv 12) = m.tdiv 12 := wr64 hq.1 hq.2
      have hel : (GT.encs es).length ≤ 1000000000 := by simp; omega
      by_cases c9 : pickN m 12 = 9
      · have h2 := pick6_4 (m.tdiv 12) hq
        have hnu := callNum6
        rw [c9] at hpp
        have ea : argR m = numT (pickN (m.tdiv 12) 4) := by simp [argR, c9]
        rw [ea]
        simp [h1, h4, h6, h0, hd, ← a3, hn, hlt2, hb4, hx0, hpp, h2, hnu, hwm, mk, setRun, -appendA_ag]
        refine stW_app1 (N := 2) hL rfl rfl (by omega) (by omega) hN hel fun x' σ' hL' hlen' hk' => ?_
        simp [h1, h4, h6, hw, hk', h0, hd]
        exact ⟨by omega, by omega, a3.symm, LX.snocT _ hL'⟩
      · by_cases c10 : pickN m 12 = 10
        · have h2 := pick6_3 (m.tdiv 12) hq
          have hl3 := pickN_lt (c := m.tdiv 12) (n := 3) (by omega)
          have hl3' : (pickN (m.tdiv 12) 3 : Int) < 3 := by omega
          rw [c10] at hpp
          have ea : argR m = addrT (pickN (m.tdiv 12) 3) := by simp [argR, c9, c10]
          have hget : window [AV.str ⟨#[97]⟩, .str ⟨#[98]⟩, .str ⟨#[99]⟩] (pickN (m.tdiv 12) 3) 1 = some [.str (addrN (pickN (m.tdiv 12) 3))] := by
            generalize pickN (m.tdiv 12) 3 = q at *
            match q, hl3 with
            | 0, _ => rfl
            | 1, _ => rfl
            | 2, _ => rfl
          rw [ea]
          simp [h1, h4, h6, h0, hd, ← a3, hn, hlt2, hb4, hx0, hpp, h2, hwm, mk, setRun, hl3', hget, -appendA_ag]
          refine stW_app2 (N := 2) hL rfl rfl (by omega) (by omega) hN hel fun x' σ' hL' hlen' hk' => ?_
          simp [h1, h4, h6, hw, hk', h0, hd]
          exact ⟨by omega, by omega, a3.symm, LX.snocT _ hL'⟩
        · by_cases c11 : pickN m 12 = 11
          · rw [c11] at hpp
            have ea : argR m = opT ⟨#[43]⟩ (vT (m.tdiv 12)) (numT 1) := by simp [argR, c9, c10, c11, sumT, vT_n, opT]
            have hvv := callV6 _ hq
            have hnu := callNum6 1
            rw [ea]
            simp [h1, h4, h6, h0, hd, ← a3, hn, hlt2, hb4, hx0, hpp, hvv, hnu, hwm, mk, setRun, -appendA_ag]
            refine stW_appX (N := 2) (closeX_op ⟨#[43]⟩ (vT (m.tdiv 12)) (numT 1)) (by rw [List.getElem?_append_right (by omega), Nat.add_sub_cancel_left]; rfl) rfl rfl (by omega) (by omega) hL (fun i hi => List.getElem?_append_left hi) (by omega) hN hel fun x' σ' hL' hlen' hk' => ?_
            simp at hlen'
            simp [h1, h4, h6, hw, hk', h0, hd]
            exact ⟨by omega, by omega, a3.symm, LX.snocT _ hL'⟩
          · have ea : argR m = vT m := by simp [argR, c9, c10, c11]
            have hvv := callV6 m hk
            rw [ea]
            have n9 : ¬ (pickN m 12 : Int) = 9 := by omega
            have n10 : ¬ (pickN m 12 : Int) = 10 := by omega
            have n11 : ¬ (pickN m 12 : Int) = 11 := by omega
            simp [h1, h4, h6, h0, hd, ← a3, hn, hlt2, hb4, hx0, hpp, hvv, mk, setRun, n9, n10, n11, -appendA_ag]
            refine stW_app1 (N := 2) hL rfl rfl (by omega) (by omega) hN hel fun x' σ' hL' hlen' hk' => ?_
            simp [h1, h4, h6, hw, hk', h0, hd]
            exact ⟨by omega, by omega, a3.symm, LX.snocT _ hL'⟩
    · have he : i + 1 = n := by omega
      subst he
      obtain ⟨σ', hcl, _⟩ := hL.closeA
      have hlt2 : ¬ (i : Int) + 1 < ((i + 1 : Nat) : Int) := by omega
      simp [h1, h4, h6, h0, hd, ← a3, hn, hlt2, hcl]
  · simp
    refine .inr (.inl ⟨2, _, 0, rfl, by omega, by simp; rfl, rfl, rfl, ?_⟩)
    simp [AV.nrm, argsR_succ]
    rw [GT.enc_eq]
end Go.Proofs.Ytiikmmbfhbianaa
end
section
set_option linter.unusedVariables false
set_option linter.unusedSimpArgs false
set_option linter.unnecessarySimpa false
set_option maxRecDepth 100000
namespace Go.Proofs.Ytiikmmbfhbianaa
open Go.Mach
theorem rel_link (x : GRaw) : (relR x).name = ⟨#[108, 105, 110, 107]⟩ ↔ pickN x.name 6 = 0 := by
  obtain ⟨n, hn, e1, e⟩ := rel_cases x
  rw [e, e1]
  match n, hn with
  | 0, _ => decide
  | 1, _ => decide
  | 2, _ => decide
  | 3, _ => decide
  | 4, _ => decide
  | 5, _ => decide
abbrev cV (t : GV) : List AV := [.int .i64 t.kind, .int .i64 t.num, .str t.text, .isl (GV.encs t.items) false]
theorem addr_get (q : Nat) (h : q < 4) : window [AV.str ⟨#[97]⟩, .str ⟨#[98]⟩, .str ⟨#[99]⟩, .str ⟨#[100]⟩] q 1 = some [.str (addrN q)] := by
  match q, h with
  | 0, _ => rfl
  | 1, _ => rfl
  | 2, _ => rfl
  | 3, _ => rfl
theorem fact_ok (x : GRaw) (hx : x.ok) : pureT T c17 [x.enc] = some (factR x).enc := by
  have hp := pick6_6 x.name hx.2.1
  have hr := rels_get x
  obtain ⟨a1, a2, a3⟩ := rel_arity x
  have hlt := pickN_lt (c := x.name) (n := 6) (by omega)
  have hlt' : (pickN x.name 6 : Int) < 6 := by omega
  have hl6 : relsD.length = 6 := rfl
  have hlink := rel_link x
  unfold factR
  generalize hn : (relR x).arity.toNat = n at *
  apply pure_enter (by simp [c17])
  simp [c17, callRelations6, setRun, hp, hr]
  refine W_for T 0 68 n (fun i f σ => f 1 = .ptr 0 0 ∧ f 2 = .ptr 1 0 ∧ f 3 = .ptr 2 0 ∧ f 4 = .ptr 3 0 ∧ f 5 = .int .i64 (i : Int) ∧ 4 ≤ σ.length ∧ σ[0]? = some (.cells x.enc.cells 0 false) ∧ (∃ a b, σ[1]? = some (.cells [a, b] 0 false)) ∧ σ[2]? = some (.cells (relR x).enc.cells 0 false) ∧ ∃ l, σ[3]? = some (.cells [.str (relR x).name, l] 0 false) ∧ LX 4 4 σ (GV.encs ((List.range i).map (fargR x))) l) ?_ _ _ ?_
  · rintro i f σ hi ⟨h1, h2, h3, h4, h5, hN, h0, ho, hd, l, hl3, hL⟩
    by_cases hlt : i < n
    · have hlt2 : (i : Int) < (n : Int) := by omega
      have hb4 : 0 ≤ (i : Int) ∧ (i : Int) < 4 := by omega
      have hw : IntKind.i64.wrap ((i : Int) + 1) = (i : Int) + 1 := wr64 (by omega) (by omega)
      have hk := GRaw.at_ok hx i
      have hx0 := raw_at x i (by omega)
      have hsucc : (List.range (i + 1)).map (fargR x) = (List.range i).map (fargR x) ++ [fargR x i] := by
        rw [List.range_succ, List.map_append]; rfl
      have hal : ((List.range i).map (fargR x)).length = i := by simp
      have hf : fargR x i = if i = 0 ∨ i = 1 ∧ (pickN x.name 6 = 0 ∨ pickN (x.at' i) 2 = 0) then addrV (pickN ((x.at' i).tdiv 2) 4) else numV (pickN ((x.at' i).tdiv 2) 5) := rfl
      rw [hsucc, hf]
      generalize (List.range i).map (fargR x) = es at *
      generalize x.at' i = m at *
      have hq : GV.i64ok (m.tdiv 2) := tdiv_ok hk 2 (by omega)
      have hwm : IntKind.i64.wrap (m.tdiv 2) = m.tdiv 2 := wr64 hq.1 hq.2
      have hel : (GV.encs es).length ≤ 1000000000 := by simp; omega
      have p2 := pick6_2 m hk
      have p4 := pick6_4 _ hq
      have p5 := pick6_5 _ hq
      have q4 := pickN_lt (c := m.tdiv 2) (n := 4) (by omega)
      have q4' : (pickN (m.tdiv 2) 4 : Int) < 4 := by omega
      have hget := addr_get _ q4
      have w1 : IntKind.i64.wrap 1 = 1 := by decide
      have w2 : IntKind.i64.wrap 2 = 2 := by decide
      have fin : ∀ (v : GV) (σ' : Heap) x' (es' : List AV), es' = GV.encs (es ++ [v]) → LX 4 4 σ' es' x' → σ.length + 1 ≤ σ'.length → (∀ i, i < 4 → σ'[i]? = σ[i]?) →
          4 ≤ σ'.length ∧ (∃ a b, σ[1]? = some (AObj.cells [a, b] 0 false)) ∧ (relR x).arity = (n : Int) ∧ ∃ l, (List.set σ' 3 (AObj.cells [AV.str (relR x).name, x'] 0 false))[3]? = some (AObj.cells [AV.str (relR x).name, l] 0 false) ∧
            LX 4 4 (List.set σ' 3 (AObj.cells [AV.str (relR x).name, x'] 0 false)) (GV.encs (es ++ [v])) l := fun v σ' x' es' he hL' hl' hk' => by
        subst he
        exact ⟨by omega, ho, a3.symm, x', list_set_at (by omega), hL'.keep fun i o hi ho => by rw [List.getElem?_set_ne (by omega)]; exact ho⟩
      have h02 : ∀ o (h : 0 < (σ ++ [o]).length), (σ ++ [o])[0]'h = .cells [.int .i64 x.kind, .int .i64 x.name, .int .i64 x.n0, .int .i64 x.n1, .int .i64 x.n2, .int .i64 x.n3] 0 false := fun o h => Option.some_inj.1 ((List.getElem?_eq_getElem h).symm.trans (by rw [List.getElem?_append_left (by omega)]; exact h0))
      by_cases c0 : i = 0
      · subst c0
        simp at hlt2
        simp [h1, h2, h3, h4, h5, h0, hd, ← a3, hn, hlt2, hx0, h02, p4, hwm, mk, setRun, hl3, q4', hget, -appendA_ag]
        refine stW_app2 (N := 4) hL rfl rfl (by omega) (by omega) hN hel fun x' σ' hL' hlen' hk' => ?_
        simp [h1, h2, h3, h4, h5, hw, hk', h0, hd, hl3, hL'.solid, hL'.cells, setRun, w1, w2]
        first | exact fin (addrV (pickN (m.tdiv 2) 4)) σ' x' _ (by rw [← encs_snoc, GV.enc_eq]; rfl) hL' (by omega) hk' | exact ⟨by omega, fin (addrV (pickN (m.tdiv 2) 4)) σ' x' _ (by rw [← encs_snoc, GV.enc_eq]; rfl) hL' (by omega) hk'⟩
      · by_cases c1 : i = 1
        · subst c1
          by_cases cl : pickN x.name 6 = 0
          · have hln := eq_true (hlink.2 cl)
            simp at hlt2
            simp [h1, h2, h3, h4, h5, h0, hd, ← a3, hn, hlt2, hx0, h02, p4, hwm, mk, setRun, hl3, q4', hget, hln, cl, -appendA_ag]
            refine stW_app2 (N := 4) hL rfl rfl (by omega) (by omega) hN hel fun x' σ' hL' hlen' hk' => ?_
            simp [h1, h2, h3, h4, h5, hw, hk', h0, hd, hl3, hL'.solid, hL'.cells, setRun, w1, w2]
            first | exact fin (addrV (pickN (m.tdiv 2) 4)) σ' x' _ (by rw [← encs_snoc, GV.enc_eq]; rfl) hL' (by omega) hk' | exact ⟨by omega, fin (addrV (pickN (m.tdiv 2) 4)) σ' x' _ (by rw [← encs_snoc, GV.enc_eq]; rfl) hL' (by omega) hk'⟩
          · have hln : ¬ (relR x).name = ⟨#[108, 105, 110, 107]⟩ := fun h => cl (hlink.1 h)
            by_cases c2 : pickN m 2 = 0
            · rw [c2] at p2
              simp at hlt2
              simp [h1, h2, h3, h4, h5, h0, hd, ← a3, hn, hlt2, hx0, h02, p4, p2, hwm, mk, setRun, hl3, q4', hget, hln, cl, c2, -appendA_ag]
              refine stW_app2 (N := 4) hL rfl rfl (by omega) (by omega) hN hel fun x' σ' hL' hlen' hk' => ?_
              simp [h1, h2, h3, h4, h5, hw, hk', h0, hd, hl3, hL'.solid, hL'.cells, setRun, w1, w2]
              first | exact fin (addrV (pickN (m.tdiv 2) 4)) σ' x' _ (by rw [← encs_snoc, GV.enc_eq]; rfl) hL' (by omega) hk' | exact ⟨by omega, fin (addrV (pickN (m.tdiv 2) 4)) σ' x' _ (by rw [← encs_snoc, GV.enc_eq]; rfl) hL' (by omega) hk'⟩
            · have c2' : ¬ (pickN m 2 : Int) = 0 := by omega
              simp at hlt2
              simp [h1, h2, h3, h4, h5, h0, hd, ← a3, hn, hlt2, hx0, p5, p2, hwm, mk, setRun, hl3, hln, cl, c2, c2', -appendA_ag]
              refine stW_app1 (N := 4) hL rfl rfl (by omega) (by omega) hN hel fun x' σ' hL' hlen' hk' => ?_
              simp [h1, h2, h3, h4, h5, hw, hk', h0, hd, hl3, hL'.solid, hL'.cells, setRun, w1, w2]
              first | exact fin (numV (pickN (m.tdiv 2) 5)) σ' x' _ (by rw [← encs_snoc, GV.enc_eq]; rfl) hL' (by omega) hk' | exact ⟨by omega, fin (numV (pickN (m.tdiv 2) 5)) σ' x' _ (by rw [← encs_snoc, GV.enc_eq]; rfl) hL' (by omega) hk'⟩
        · have c0' : ¬ (i : Int) = 0 := by omega
          have c1' : ¬ (i : Int) = 1 := by omega
          simp [h1, h2, h3, h4, h5, h0, hd, ← a3, hn, hlt2, hb4, hx0, p5, hwm, mk, setRun, hl3, c0, c1, c1', -appendA_ag]
          refine stW_app1 (N := 4) hL rfl rfl (by omega) (by omega) hN hel fun x' σ' hL' hlen' hk' => ?_
          simp [h1, h2, h3, h4, h5, hw, hk', h0, hd, hl3, hL'.solid, hL'.cells, setRun, w1, w2]
          first | exact fin (numV (pickN (m.tdiv 2) 5)) σ' x' _ (by rw [← encs_snoc, GV.enc_eq]; rfl) hL' (by omega) hk' | exact ⟨by omega, fin (numV (pickN (m.tdiv 2) 5)) σ' x' _ (by rw [← encs_snoc, GV.enc_eq]; rfl) hL' (by omega) hk'⟩
    · have he : i = n := by omega
      subst he
      obtain ⟨a, b, ho⟩ := ho
      obtain ⟨σ', hcl, _⟩ := (hL.keep (τ := σ.set 1 (.cells [.str (relR x).name, l] 0 false)) fun i o hi ho => by rw [List.getElem?_set_ne (by omega)]; exact ho).close
      have hcl1 := close1_of0 hcl
      have hlt2 : ¬ (i : Int) < (i : Int) := by omega
      have hs1 : (σ.set 1 (.cells [.str (relR x).name, l] 0 false))[1]? = some (.cells [.str (relR x).name, l] 0 false) := list_set_at (by omega)
      simp [h1, h2, h3, h4, h5, h0, hd, ← a3, hn, hlt2, hl3, ho, hs1, hcl1, GU.enc_eq]
  · simp
    exact .inl ⟨rfl, rfl⟩
theorem callFact6 (x : GRaw) (hx : x.ok) (bs : Nat) (σ : Heap) : callT T 17 [x.enc] bs σ = some ((factR x).enc, σ) := call_clean rfl rfl rfl (by simp) (fact_ok x hx)
theorem callAtom6 (x : GRaw) (hx : x.ok) (bs : Nat) (σ : Heap) : callT T 33 [x.enc] bs σ = some (.tup [.str (relR x).name, .isl (GT.encs (atomR x)) false], σ) := call_clean rfl rfl rfl (by simp) (atom_ok x hx)
end Go.Proofs.Ytiikmmbfhbianaa
end
section
set_option linter.unusedVariables false
set_option linter.unusedSimpArgs false
set_option linter.unnecessarySimpa false
set_option maxRecDepth 100000
namespace Go.Proofs.Ytiikmmbfhbianaa
open Go.Mach
theorem test_get (q : Nat) (h : q < 6) : window [AV.str ⟨#[61, 61]⟩, .str ⟨#[33, 61]⟩, .str ⟨#[60]⟩, .str ⟨#[60, 61]⟩, .str ⟨#[62]⟩, .str ⟨#[62, 61]⟩] q 1 = some [.str (tSix.getD q ⟨#[]⟩)] := by
  match q, h with
  | 0, _ => rfl
  | 1, _ => rfl
  | 2, _ => rfl
  | 3, _ => rfl
  | 4, _ => rfl
  | 5, _ => rfl
theorem two_get (q : Nat) (h : q < 2) : window [AV.str ⟨#[43]⟩, .str ⟨#[45]⟩] q 1 = some [.str (if q = 0 then ⟨#[43]⟩ else ⟨#[45]⟩)] := by
  match q, h with
  | 0, _ => rfl
  | 1, _ => rfl
theorem two_getT (a b : GT) (q : Nat) (h : q < 2) : window (cT a ++ cT b) (q * 7) 7 = some (cT (if q = 0 then a else b)) := by
  match q, h with
  | 0, _ => rfl
  | 1, _ => rfl
theorem close1_two {σ : Heap} {k fz : Nat} {e : Bool} (a b : GT) (h : σ[k]? = some (.cells (cT a ++ cT b) fz e)) : close1 σ (.sl k 0 2 7 true) = some (.isl (GT.encs [a, b]) false, frz σ k 14) := by
  refine close1_of0 ?_
  have hc2 : ¬ (2 : Nat) = 0 := by decide
  have hw : window (cT a ++ cT b) 0 14 = some (cT a ++ cT b) := rfl
  simp only [close0, if_neg hc2, h, Nat.reduceMul, Nat.zero_add, hw, Option.bind_some]
  have h14 : ((cT a ++ cT b).all AV.clo1) = true := rfl
  rw [if_pos h14]
  have hch : chunk 7 true 2 ((cT a ++ cT b).map AV.nrm) = some (GT.encs [a, b]) := by simp [GT.encs, GT.enc_eq a, GT.enc_eq b]
  rw [hch]; rfl
theorem close0_two {σ : Heap} {k fz : Nat} {e : Bool} (a b : GT) (h : σ[k]? = some (.cells (cT a ++ cT b) fz e)) : close0 σ (.sl k 0 2 7 true) = some (.isl (GT.encs [a, b]) false, frz σ k 14) := by
  have hc2 : ¬ (2 : Nat) = 0 := by decide
  have hw : window (cT a ++ cT b) 0 14 = some (cT a ++ cT b) := rfl
  simp only [close0, if_neg hc2, h, Nat.reduceMul, Nat.zero_add, hw, Option.bind_some]
  have h14 : ((cT a ++ cT b).all AV.clo1) = true := rfl
  rw [if_pos h14]
  have hch : chunk 7 true 2 ((cT a ++ cT b).map AV.nrm) = some (GT.encs [a, b]) := by simp [GT.encs, GT.enc_eq a, GT.enc_eq b]
  rw [hch]; rfl
theorem close1_opT {σ : Heap} {k m fz fm : Nat} {e em : Bool} (nm : ByteArray) (a b : GT) (h : σ[k]? = some (.cells (opC nm (.sl m 0 2 7 true)) fz e)) (hm : σ[m]? = some (.cells (cT a ++ cT b) fm em)) (hne : k ≠ m) :
    ∃ σ', close1 σ (.sl k 0 1 7 true) = some (.isl (GT.encs [opT nm a b]) false, σ') := by
  have h2 : close0 σ (.sl k 0 1 7 true) = none := by
    have hc2 : ¬ (1 : Nat) = 0 := by decide
    have hw : window (opC nm (.sl m 0 2 7 true)) 0 7 = some (opC nm (.sl m 0 2 7 true)) := rfl
    simp only [close0, if_neg hc2, h, Nat.one_mul, hw, Option.bind_some]
    rfl
  have hfz : (frz σ k 7)[m]? = some (.cells (cT a ++ cT b) fm em) := by
    simp only [frz, h]; rw [List.getElem?_set_ne hne]; exact hm
  have i1 : ∀ c (σ : Heap) k n, closeUp c σ (AV.int k n) = some (.int k n, σ) := fun _ _ _ _ => rfl
  have s1 : ∀ c (σ : Heap) n, closeUp c σ (AV.str n) = some (.str n, σ) := fun _ _ _ => rfl
  have l1 : ∀ c (σ : Heap) n b, closeUp c σ (AV.isl n b) = some (.isl n false, σ) := fun _ _ _ _ => rfl
  have i0 : ∀ (σ : Heap) k n, close0 σ (AV.int k n) = some (.int k n, σ) := fun _ _ _ => rfl
  have s0 : ∀ (σ : Heap) n, close0 σ (AV.str n) = some (.str n, σ) := fun _ _ => rfl
  have l0 : ∀ (σ : Heap) n b, close0 σ (AV.isl n b) = some (.isl n false, σ) := fun _ _ _ => rfl
  have hw : window (opC nm (.sl m 0 2 7 true)) 0 7 = some (opC nm (.sl m 0 2 7 true)) := rfl
  have hw2 : window (cT a ++ cT b) 0 14 = some (cT a ++ cT b) := rfl
  have hb := close0_two a b hfz
  have hU : ∀ c, (∀ (σ : Heap) n, c σ (AV.str n) = some (.str n, σ)) → (∀ (σ : Heap) k n, c σ (AV.int k n) = some (.int k n, σ)) → (∀ (σ : Heap) n b, c σ (AV.isl n b) = some (.isl n false, σ)) →
      (∃ σ', c (frz σ k 7) (.sl m 0 2 7 true) = some (.isl (GT.encs [a, b]) false, σ')) → ∃ σ', closeUp c σ (.sl k 0 1 7 true) = some (.isl (GT.encs [opT nm a b]) false, σ') := by
    rintro c c1 c2 c3 ⟨σ', c4⟩
    refine ⟨σ', ?_⟩
    simp only [closeUp, h, Nat.one_mul, Nat.zero_add, hw, Option.bind_some, closeLW, c1, c2, c3, c4, Option.map_some]
    simp [AV.clo1, chunk, mk, GT.encs, opT, GT.enc_eq]
  have hlen14 : ((cT a ++ cT b).all AV.clo1) = true := rfl
  have up : ∀ c (τ : Heap) fm em, τ[m]? = some (.cells (cT a ++ cT b) fm em) → (∀ (σ : Heap) n, c σ (AV.str n) = some (.str n, σ)) → (∀ (σ : Heap) k n, c σ (AV.int k n) = some (.int k n, σ)) → (∀ (σ : Heap) n b, c σ (AV.isl n b) = some (.isl n false, σ)) →
      closeUp c τ (.sl m 0 2 7 true) = some (.isl (GT.encs [a, b]) false, frz τ m 14) := by
    intro c τ fm em hτ c1 c2 c3
    have hlw : ∀ τ', closeLW c τ' (cT a ++ cT b) = some (cT a ++ cT b, τ') := fun τ' => by simp [closeLW, c1, c2, c3]
    have hch : chunk 7 true 2 (cT a ++ cT b) = some (GT.encs [a, b]) := by simp [GT.encs, GT.enc_eq a, GT.enc_eq b, chunk, mk]
    simp only [closeUp, hτ, Nat.reduceMul, Nat.zero_add, hw2, Option.bind_some, hlw, hlen14, if_true, hch, Option.map_some]
  unfold close1
  rw [h2]
  exact hU _ (s1 _) (i1 _) (l1 _) ⟨_, up _ _ _ _ hfz (s1 _) (i1 _) (l1 _)⟩
theorem close_ex {σ : Heap} {x y : AV} {F : AV × Heap → Option (AV × Heap)} {r : AV} (h : ∃ σ', close1 σ x = some (y, σ')) (hF : ∀ σ', ∃ z, F (y, σ') = some (r, z)) : ∃ z, (close1 σ x).bind F = some (r, z) := by
  obtain ⟨σ', h⟩ := h
  rw [h]; exact hF σ'
theorem lit6_ok (x : GRaw) (hx : x.ok) : pureT T c34 [x.enc] = some (litR x).enc := by
  have hA := callAtom6 x hx
  have h8 := pick6_8 x.kind hx.1
  have hl8 := pickN_lt (c := x.kind) (n := 8) (by omega)
  unfold litR
  apply pure_enter (by simp [c34])
  by_cases c4 : pickN x.kind 8 < 4
  · have : pickN x.kind 8 = 0 ∨ pickN x.kind 8 = 1 ∨ pickN x.kind 8 = 2 ∨ pickN x.kind 8 = 3 := by omega
    rw [if_pos c4]
    rcases this with h | h | h | h <;> (rw [h] at h8; simp [c34, hA, ← GRaw.enc_eq, h8, setRun, GL.enc_eq])
  · by_cases c5 : pickN x.kind 8 = 4
    · rw [if_neg c4, if_pos c5]
      rw [c5] at h8
      simp [c34, hA, ← GRaw.enc_eq, h8, setRun, GL.enc_eq]
    · by_cases c7 : pickN x.kind 8 < 7
      · rw [if_neg c4, if_neg c5, if_pos c7]
        have p6 := pick6_6 x.name hx.2.1
        have q6 := pickN_lt (c := x.name) (n := 6) (by omega)
        have q6' : (pickN x.name 6 : Int) < 6 := by omega
        have g6 := test_get _ q6
        have v0 := callV6 x.n0 hx.2.2.1
        have v1 := callV6 x.n1 hx.2.2.2.1
        have p4 := pick6_4 x.n2 hx.2.2.2.2.1
        have p2 := pick6_2 x.n3 hx.2.2.2.2.2
        have q2 := pickN_lt (c := x.n3) (n := 2) (by omega)
        have q2' : (pickN x.n3 2 : Int) < 2 := by omega
        have hnu := callNum6 (pickN x.n2 4)
        have hg2 := two_getT (numT (pickN x.n2 4)) (vT x.n1) _ q2
        simp only [cT, List.cons_append, List.nil_append] at hg2
        have : pickN x.kind 8 = 5 ∨ pickN x.kind 8 = 6 := by omega
        rcases this with h | h <;> (rw [h] at h8; simp [c34, hA, ← GRaw.enc_eq, h8, setRun, GL.enc_eq, p6, q6', g6, mk, v0, v1, p4, p2, q2', hnu, hg2]; rw [close1_two (vT x.n0) _ rfl]; simp)
      · rw [if_neg c4, if_neg c5, if_neg c7]
        have h : pickN x.kind 8 = 7 := by omega
        rw [h] at h8
        have v0 := callV6 x.n0 hx.2.2.1
        have v1 := callV6 x.n1 hx.2.2.2.1
        have v2 := callV6 x.n2 hx.2.2.2.2.1
        have p2 := pick6_2 x.n3 hx.2.2.2.2.2
        have hq : GV.i64ok (x.n3.tdiv 2) := tdiv_ok hx.2.2.2.2.2 2 (by omega)
        have hwm : IntKind.i64.wrap (x.n3.tdiv 2) = x.n3.tdiv 2 := wr64 hq.1 hq.2
        have p2b := pick6_2 _ hq
        have q2 := pickN_lt (c := x.n3) (n := 2) (by omega)
        have q2' : (pickN x.n3 2 : Int) < 2 := by omega
        have q3 := pickN_lt (c := x.n3.tdiv 2) (n := 2) (by omega)
        have q3' : (pickN (x.n3.tdiv 2) 2 : Int) < 2 := by omega
        have g2 := two_get _ q2
        have hnu := callNum6 1
        have hfd : fieldV 1 1 false (vT x.n0).enc = some (.str (vName (pickN x.n0 6))) := by rw [GT.enc_eq]; rfl
        have hg2 := two_getT (numT 1) (vT x.n2) _ q3
        simp only [cT, List.cons_append, List.nil_append] at hg2
        simp [c34, hA, ← GRaw.enc_eq, h8, setRun, GL.enc_eq, v0, v1, v2, p2, p2b, hwm, q2', q3', g2, mk, hnu, hg2, hfd]
        refine close_ex (close1_opT (if pickN x.n3 2 = 0 then ⟨#[43]⟩ else ⟨#[45]⟩) (vT x.n1) (if pickN (x.n3.tdiv 2) 2 = 0 then numT 1 else vT x.n2) rfl rfl (by decide)) fun σ' => ?_
        simp [opT]
theorem callLit6 (x : GRaw) (hx : x.ok) (bs : Nat) (σ : Heap) : callT T 34 [x.enc] bs σ = some ((litR x).enc, σ) := call_clean rfl rfl rfl (by simp) (lit6_ok x hx)
end Go.Proofs.Ytiikmmbfhbianaa
end
section
set_option linter.unusedVariables false
set_option linter.unusedSimpArgs false
set_option linter.unnecessarySimpa false
set_option maxRecDepth 100000
namespace Go.Proofs.Ytiikmmbfhbianaa
open Go.Mach
theorem agg_get (q : Nat) (h : q < 3) : window [AV.str ⟨#[109, 105, 110]⟩, .str ⟨#[109, 97, 120]⟩, .str ⟨#[99, 111, 117, 110, 116]⟩] q 1 = some [.str (aggN q)] := by
  match q, h with
  | 0, _ => rfl
  | 1, _ => rfl
  | 2, _ => rfl
abbrev RT : ACode := sndC (sndC (sndC (sndC (sndC (sndC (sndC c21.body))))))
theorem rule_tail6 (h : GRaw) (hh : h.ok) (lab : ByteArray) (body : List GL) (lst : AV) (f : FR) (σ : Heap) (h4 : f 4 = .ptr 0 0) (h5 : f 5 = .ptr 2 0) (h6 : f 6 = .ptr 3 0) (hN : 4 ≤ σ.length)
    (c0 : ∃ a b c d e g, σ[0]? = some (.cells [a, b, c, d, e, g] 0 false)) (c2 : σ[2]? = some (.cells [.str lab, .str (relR h).name, .isl (GT.encs (atomR h)) false, .str ⟨#[]⟩, .int .i64 0, lst] 0 false))
    (c3 : σ[3]? = some (.cells h.enc.cells 0 false)) (hL : LX 4 3 σ (body.map GL.enc) lst) :
    wpK T 0 88 [.code RT] f σ (endP 88 [.cell 4 6 true] (GR.enc ⟨lab, (relR h).name, atomR h, if aggR h = true then aggN (pickN (h.kind.tdiv 5) 3) else ⟨#[]⟩, if aggR h = true then 1 else 0, body⟩)) := by
  obtain ⟨a, b, c, d, e, g, c0⟩ := c0
  have p5 := pick6_5 h.kind hh.1
  have hq : GV.i64ok (h.kind.tdiv 5) := tdiv_ok hh.1 5 (by omega)
  have hwm : IntKind.i64.wrap (h.kind.tdiv 5) = h.kind.tdiv 5 := wr64 hq.1 hq.2
  have p3 := pick6_3 _ hq
  have q3 := pickN_lt (c := h.kind.tdiv 5) (n := 3) (by omega)
  have q3' : (pickN (h.kind.tdiv 5) 3 : Int) < 3 := by omega
  have g3 := agg_get _ q3
  have hs0 : ∀ o, (σ.set 0 o)[0]? = some o := fun o => list_set_at (by omega)
  have hcl : ∀ o, ∃ σ', close1 (σ.set 0 o) lst = some (.isl (body.map GL.enc) false, σ') := fun o => by
    obtain ⟨σ', h1, _⟩ := (hL.keep (τ := σ.set 0 o) fun i o hi ho => by rw [List.getElem?_set_ne (by omega)]; exact ho).close
    exact ⟨σ', close1_of0 h1⟩
  have ga3 : ∀ o, (σ ++ [o])[3]? = some (.cells [.int .i64 h.kind, .int .i64 h.name, .int .i64 h.n0, .int .i64 h.n1, .int .i64 h.n2, .int .i64 h.n3] 0 false) := fun o => by rw [List.getElem?_append_left (by omega)]; exact c3
  have ga2 : ∀ o, (σ ++ [o])[2]? = some (.cells [.str lab, .str (relR h).name, .isl (GT.encs (atomR h)) false, .str ⟨#[]⟩, .int .i64 0, lst] 0 false) := fun o => by rw [List.getElem?_append_left (by omega)]; exact c2
  have hs2 : ∀ o o', ((σ ++ [o]).set 2 o')[2]? = some o' := fun o o' => list_set_at (by simp; omega)
  have ga0 : ∀ o o' h, ((σ ++ [o]).set 2 o')[0]'h = .cells [a, b, c, d, e, g] 0 false := fun o o' h => Option.some_inj.1 ((List.getElem?_eq_getElem h).symm.trans (by rw [List.getElem?_set_ne (by decide), List.getElem?_append_left (by omega)]; exact c0))
  have ga0' : ∀ o o', ((σ ++ [o]).set 2 o')[0]? = some (.cells [a, b, c, d, e, g] 0 false) := fun o o' => by rw [List.getElem?_set_ne (by decide), List.getElem?_append_left (by omega)]; exact c0
  have hs20 : ∀ o o' o'', (((σ ++ [o]).set 2 o').set 0 o'')[0]? = some o'' := fun o o' o'' => list_set_at (by simp)
  have hcl2 : ∀ o o' o'', ∃ σ', close1 (((σ ++ [o]).set 2 o').set 0 o'') lst = some (.isl (body.map GL.enc) false, σ') := fun o o' o'' => by
    obtain ⟨σ', h1, _⟩ := (hL.keep (τ := ((σ ++ [o]).set 2 o').set 0 o'') fun i q hi ho => by
      rw [List.getElem?_set_ne (by omega), List.getElem?_set_ne (by omega), List.getElem?_append_left (List.getElem?_eq_some_iff.1 ho).1]; exact ho).close
    exact ⟨σ', close1_of0 h1⟩
  by_cases k4 : pickN h.kind 5 = 4
  · rw [k4] at p5
    by_cases k1 : 1 < (atomR h).length
    · have k1' : (1 : Int) < ((atomR h).length : Int) := by omega
      have e1 : (atomR h)[1]? = some (atomR h)[1] := List.getElem?_eq_getElem k1
      by_cases k2 : (atomR h)[1].kind = 1
      · have ha : aggR h = true := by unfold aggR; rw [e1]; simp [k4, k2]
        simp [RT, c21, sndC, h4, h5, h6, c0, c2, c3, p5, k1', k1, e1, k2, hwm, p3, q3', g3, mk, setRun, ha, ga2, ga3, hs2, ga0, ga0', hs20]
        refine close_ex (hcl2 _ _ _) fun σ' => ?_
        simp [GR.enc_eq]
      · have ha : aggR h = false := by unfold aggR; rw [e1]; simp [k4, k2]
        simp [RT, c21, sndC, h4, h5, h6, c0, c2, c3, p5, k1', k1, e1, k2, setRun, ha, hs0]
        refine close_ex (hcl _) fun σ' => ?_
        simp [GR.enc_eq]
    · have k1' : ¬ (1 : Int) < ((atomR h).length : Int) := by omega
      have ha : aggR h = false := by unfold aggR; rw [List.getElem?_eq_none (by omega)]; simp
      simp [RT, c21, sndC, h4, h5, h6, c0, c2, c3, p5, k1', setRun, ha, hs0]
      refine close_ex (hcl _) fun σ' => ?_
      simp [GR.enc_eq]
  · have k4' : ¬ (pickN h.kind 5 : Int) = 4 := by omega
    have ha : aggR h = false := by unfold aggR; simp [k4]
    simp [RT, c21, sndC, h4, h5, h6, c0, c2, c3, p5, k4, k4', setRun, ha, hs0]
    refine close_ex (hcl _) fun σ' => ?_
    simp [GR.enc_eq]
theorem pickN_small (n : Nat) (h : n < 26) : pickN n 26 = n := by
  unfold pickN; rw [if_neg (by omega)]; simp; omega
theorem body_take (l : List GRaw) (h : 1 < l.length) : bodyR l = (((l.take 5).drop 1)).map litR := by
  unfold bodyR; rw [if_neg (by omega)]
abbrev RL : ACode := sndC (sndC (sndC (sndC (sndC c21.body))))
theorem rule_loop6 (l : List GRaw) (hl : ∀ x ∈ l, x.ok) (hlen : l.length ≤ 100000000000) (h : GRaw) (hh : h.ok) (lab : ByteArray) (f : FR) (σ : Heap) (h0 : f 0 = .isl (l.map GRaw.enc) false) (h4 : f 4 = .ptr 0 0) (h5 : f 5 = .ptr 2 0) (h6 : f 6 = .ptr 3 0) (hN : 4 ≤ σ.length)
    (c0 : ∃ a b c d e g, σ[0]? = some (.cells [a, b, c, d, e, g] 0 false)) (c2 : σ[2]? = some (.cells [.str lab, .str (relR h).name, .isl (GT.encs (atomR h)) false, .str ⟨#[]⟩, .int .i64 0, .isl [] true] 0 false))
    (c3 : σ[3]? = some (.cells h.enc.cells 0 false)) :
    wpK T 0 88 [.code RL] f σ (endP 88 [.cell 4 6 true] (GR.enc ⟨lab, (relR h).name, atomR h, if aggR h = true then aggN (pickN (h.kind.tdiv 5) 3) else ⟨#[]⟩, if aggR h = true then 1 else 0, bodyR l⟩)) := by
  have tail := rule_tail6 h hh lab (bodyR l)
  have hL0 : ∀ bs σ, callT T 34 [.agg [.int .i64 0, .int .i64 0, .int .i64 0, .int .i64 0, .int .i64 0, .int .i64 0]] bs σ = some ((litR .zero).enc, σ) := callLit6 .zero GRaw.zero_ok
  have hb : RL = .seq (fstC RL) (.seq (fstC (sndC RL)) RT) := rfl
  rw [hb]
  generalize RT = K at tail
  generalize GR.enc ⟨lab, (relR h).name, atomR h, if aggR h = true then aggN (pickN (h.kind.tdiv 5) 3) else ⟨#[]⟩, if aggR h = true then 1 else 0, bodyR l⟩ = res at *
  have fin : ∀ (v : GL) (es : List GL) (σ σ' : Heap) x' (es' : List AV), es' = (es ++ [v]).map GL.enc → LX 4 3 σ' es' x' → 4 ≤ σ.length → σ.length + 1 ≤ σ'.length → (∀ i, i < 4 → σ'[i]? = σ[i]?) → ∀ o, LX 4 3 (σ'.set 2 o) ((es ++ [v]).map GL.enc) x' := fun v es σ σ' x' es' he hL' h4 hl' hk' o => by
    subst he
    exact hL'.keep fun i o hi ho => by rw [List.getElem?_set_ne (by omega)]; exact ho
  simp [RL, c21, sndC, fstC]
  refine W_for T 0 88 (min l.length 5 - 1) (fun i f σ => f 0 = .isl (l.map GRaw.enc) false ∧ f 4 = .ptr 0 0 ∧ f 5 = .ptr 2 0 ∧ f 6 = .ptr 3 0 ∧ f 7 = .int .i64 ((i : Int) + 1) ∧ 4 ≤ σ.length ∧ (∃ a b c d e g, σ[0]? = some (.cells [a, b, c, d, e, g] 0 false)) ∧
    σ[3]? = some (.cells h.enc.cells 0 false) ∧ ∃ lst, σ[2]? = some (.cells [.str lab, .str (relR h).name, .isl (GT.encs (atomR h)) false, .str ⟨#[]⟩, .int .i64 0, lst] 0 false) ∧ LX 4 3 σ (((((l.take 5).drop 1).take i).map litR).map GL.enc) lst) ?_ _ _ ?_
  · rintro i f σ hi ⟨h0, h4, h5, h6, h7, hN, c0, c3, lst, c2, hL⟩
    by_cases hlt : i + 1 < min l.length 5
    · have hlt1 : i + 1 < l.length := by omega
      have hlt2 : (i : Int) + 1 < (l.length : Int) := by omega
      have hlt3 : (i : Int) + 1 < 5 := by omega
      have h0i : 0 ≤ (i : Int) + 1 := by omega
      have hw : IntKind.i64.wrap ((i : Int) + 1 + 1) = (i : Int) + 1 + 1 := wr64 (by omega) (by omega)
      have e1 : l[i + 1]? = some l[i + 1] := List.getElem?_eq_getElem hlt1
      have hc := callLit6 l[i + 1] (hl _ (List.getElem_mem hlt1))
      have htk : (((l.take 5).drop 1).take (i + 1)).map litR = (((l.take 5).drop 1).take i).map litR ++ [litR l[i + 1]] := by
        have hd : i < ((l.take 5).drop 1).length := by simp; omega
        rw [List.take_succ_eq_append_getElem hd, List.map_append]
        have : ((l.take 5).drop 1)[i] = l[i + 1] := by simp [Nat.add_comm]
        rw [this]; rfl
      have hal : ((((l.take 5).drop 1).take i).map litR).length ≤ 5 := by simp; omega
      rw [htk]
      generalize (((l.take 5).drop 1).take i).map litR = es at *
      simp [h0, h4, h5, h6, h7, hlt2, hlt3, hlt1, h0i, c2, e1, hc, ← GRaw.enc_eq, setRun, -appendA_ag]
      refine stW_app1 (N := 4) hL rfl rfl (by omega) (by omega) hN (by simp; omega) fun x' σ' hL' hlen' hk' => ?_
      simp [h0, h4, h5, h6, h7, hw, hk', c0, c3, c2, hL'.solid, hL'.cells, setRun]
      refine ⟨by omega, by omega, x', list_set_at (by omega), ?_⟩
      have := fin (litR l[i + 1]) es σ σ' x' _ (by rw [List.map_append]; rfl) hL' hN (by omega) hk' (.cells [.str lab, .str (relR h).name, .isl (GT.encs (atomR h)) false, .str ⟨#[]⟩, .int .i64 0, x'] 0 false)
      rwa [List.map_append] at this
    · have he : i = min l.length 5 - 1 := by omega
      have htk : ((l.take 5).drop 1).take i = (l.take 5).drop 1 := List.take_of_length_le (by simp; omega)
      rw [htk] at hL
      by_cases hl1 : l.length ≤ 1
      · have hnil : (l.take 5).drop 1 = [] := List.drop_eq_nil_of_le (by simp; omega)
        have hbd : bodyR l = [litR .zero] := by unfold bodyR; rw [if_pos hl1]
        rw [hnil] at hL
        have hlt2 : ¬ ((i : Int) + 1 < (l.length : Int)) := by omega
        have hlv := hL.len
        simp [h0, h4, h5, h6, h7, hlt2, c2, hlv, hL0, setRun, -appendA_ag]
        refine stW_app1 (N := 4) hL rfl rfl (by omega) (by omega) hN (by simp) fun x' σ' hL' hlen' hk' => ?_
        obtain ⟨a, b, c, d, e, g, c0⟩ := c0
        simp [h0, h4, h5, h6, h7, hk', c0, c3, c2, hL'.solid, hL'.cells, setRun]
        refine tail x' _ _ (by simp [h4]) (by simp [h5]) (by simp [h6]) (by simp; omega) ⟨a, b, c, d, e, g, by rw [List.getElem?_set_ne (by decide), hk' 0 (by omega)]; exact c0⟩ (list_set_at (by omega)) (by rw [List.getElem?_set_ne (by decide), hk' 3 (by omega)]; exact c3) ?_
        rw [hbd]
        exact fin (litR .zero) [] σ σ' x' _ rfl hL' hN (by omega) hk' _
      · have hbd := body_take l (by omega)
        rw [← hbd] at hL
        have hbl := bodyR_len l
        have hlv := hL.len
        have hne : ¬ ((bodyR l).length : Int) = 0 := by omega
        have hne2 : ¬ bodyR l = [] := fun e => by rw [e] at hbl; simp at hbl
        by_cases h5l : (i : Int) + 1 < (l.length : Int)
        · have hlt3 : ¬ (i : Int) + 1 < 5 := by omega
          simp [h0, h4, h5, h6, h7, h5l, hlt3, c2, hlv, hne, hne2]
          exact tail lst _ σ (by simp [h4]) (by simp [h5]) (by simp [h6]) hN c0 c2 c3 hL
        · simp [h0, h4, h5, h6, h7, h5l, c2, hlv, hne, hne2]
          exact tail lst _ σ (by simp [h4]) (by simp [h5]) (by simp [h6]) hN c0 c2 c3 hL
  · simp [h0, h4, h5, h6, c2, c3, hN, c0]
    exact .inl ⟨rfl, rfl⟩
theorem rule6_ok (l : List GRaw) (hl : ∀ x ∈ l, x.ok) (hlen : l.length ≤ 100000000000) (n : Nat) (hn : n < 26) : pureT T c21 [.isl (l.map GRaw.enc) false, .int .i64 (n : Int)] = some (ruleR l n).enc := by
  have hp := pick6_26 (n : Int) (by unfold GV.i64ok; omega)
  rw [pickN_small n hn] at hp
  have hho : (headR l).ok := by
    cases l with
    | nil => exact GRaw.zero_ok
    | cons x l => exact hl x (by simp)
  have loop := rule_loop6 l hl hlen (headR l) hho (⟨#[114]⟩ ++ ⟨#[UInt8.ofNat (97 + n)]⟩)
  have hw97 : IntKind.i64.wrap (97 + (n : Int)) = 97 + (n : Int) := wr64 (by omega) (by omega)
  have hu8 : IntKind.u8.wrap (97 + (n : Int)) = 97 + (n : Int) := wru8 (by omega) (by omega)
  have hb2 : ∀ o : AObj, b2sV [o, .cells [.int .u8 (97 + (n : Int))] 0 false] (.sl 1 0 1 1 false) = some (.str ⟨#[UInt8.ofNat (97 + n)]⟩) := fun o =>
    b2s_bv (l := [UInt8.ofNat (97 + n)]) (fz := 0) (ext := false) (by simp [bv]; omega) (by simp)
  have hs1 : (⟨#[114]⟩ : ByteArray).size = 1 := rfl
  have hs2 : (⟨#[UInt8.ofNat (97 + n)]⟩ : ByteArray).size = 1 := rfl
  unfold ruleR
  generalize UInt8.ofNat (97 + n) = lb at *
  apply pure_enter (by simp [c21])
  show wpK T 0 88 [.code c21.body] _ [] (endP 88 [.cell 4 6 true] _)
  have hb : c21.body = .seq (fstC c21.body) (.seq (fstC (sndC c21.body)) (.seq (fstC (sndC (sndC c21.body))) (.seq (fstC (sndC (sndC (sndC c21.body)))) (.seq (fstC (sndC (sndC (sndC (sndC c21.body))))) RL)))) := rfl
  rw [hb]
  generalize RL = K at loop
  cases l with
  | nil =>
    have hA : ∀ bs σ, callT T 33 [.agg [.int .i64 0, .int .i64 0, .int .i64 0, .int .i64 0, .int .i64 0, .int .i64 0]] bs σ = some (.tup [.str (relR .zero).name, .isl (GT.encs (atomR .zero)) false], σ) := callAtom6 .zero GRaw.zero_ok
    simp [c21, sndC, fstC, hp, hw97, hu8, setRun, hb2, hs1, hs2, hA]
    refine loop _ _ (by simp) (by simp) (by simp) (by simp) (by simp) ⟨_, _, _, _, _, _, rfl⟩ (by simp [headR]) (by simp [headR, GRaw.zero])
  | cons x l =>
    have hA := callAtom6 x (hl x (by simp))
    simp [c21, sndC, fstC, hp, hw97, hu8, setRun, hb2, hs1, hs2, hA, ← GRaw.enc_eq]
    refine loop _ _ (by simp) (by simp) (by simp) (by simp) (by simp) ⟨_, _, _, _, _, _, rfl⟩ (by simp [headR]) (by simp [headR, GRaw.zero])
theorem callRule6R (l : List GRaw) (hl : ∀ x ∈ l, x.ok) (hlen : l.length ≤ 100000000000) (n : Nat) (hn : n < 26) (bs : Nat) (σ : Heap) : callT T 21 [.isl (l.map GRaw.enc) false, .int .i64 (n : Int)] bs σ = some ((ruleR l n).enc, σ) := call_clean rfl rfl rfl (by simp) (rule6_ok l hl hlen n hn)
end Go.Proofs.Ytiikmmbfhbianaa
end
section
set_option linter.unusedVariables false
set_option linter.unusedSimpArgs false
set_option linter.unnecessarySimpa false
set_option maxRecDepth 100000
namespace Go.Proofs.Ytiikmmbfhbianaa
open Go.Mach
abbrev PF : ACode := sndC (sndC (sndC c9.body))
theorem prog_facts (rs : List GR) (facts : List GRaw) (hf : ∀ x ∈ facts, x.ok) (hlen : facts.length ≤ 100000000000) (lst : AV) (f : FR) (σ : Heap) (h1 : f 1 = .isl (facts.map GRaw.enc) false) (h4 : f 4 = .ptr 0 0) (h5 : f 5 = .ptr 1 0) (hN : 2 ≤ σ.length)
    (c0 : ∃ a b c, σ[0]? = some (.cells [a, b, c] 0 false)) (c1 : σ[1]? = some (.cells [.isl (relsD.map GD.enc) false, .isl [] true, lst] 0 false)) (hL : LX 2 6 σ (rs.map GR.enc) lst) :
    wpK T 0 52 [.code PF] f σ (endP 52 [.cell 4 3 true] (GP.enc ⟨relsD, (facts.take 12).map factR, rs⟩)) := by
  simp [PF, c9, sndC]
  refine W_for T 0 52 (min facts.length 12) (fun i f σ => f 1 = .isl (facts.map GRaw.enc) false ∧ f 4 = .ptr 0 0 ∧ f 5 = .ptr 1 0 ∧ f 7 = .int .i64 (i : Int) ∧ 2 ≤ σ.length ∧ (∃ a b c, σ[0]? = some (.cells [a, b, c] 0 false)) ∧
    ∃ ls, σ[1]? = some (.cells [.isl (relsD.map GD.enc) false, ls, lst] 0 false) ∧ LX 2 6 σ (rs.map GR.enc) lst ∧ LX 2 2 σ (((facts.take i).map factR).map GU.enc) ls) ?_ _ _ ?_
  · rintro i f σ hi ⟨h1, h4, h5, h7, hN, ⟨a, b, c, c0⟩, ls, c1, hL, hM⟩
    by_cases hlt : i < min facts.length 12
    · have hlt1 : i < facts.length := by omega
      have hlt2 : (i : Int) < (facts.length : Int) := by omega
      have hlt3 : (i : Int) < 12 := by omega
      have hw : IntKind.i64.wrap ((i : Int) + 1) = (i : Int) + 1 := wr64 (by omega) (by omega)
      have e1 : facts[i]? = some facts[i] := List.getElem?_eq_getElem hlt1
      have hc := callFact6 facts[i] (hf _ (List.getElem_mem hlt1))
      have htk : (facts.take (i + 1)).map factR = (facts.take i).map factR ++ [factR facts[i]] := by
        rw [List.take_succ_eq_append_getElem hlt1, List.map_append]; rfl
      have hal : ((facts.take i).map factR).length ≤ 12 := by simp; omega
      rw [htk]
      generalize (facts.take i).map factR = es at *
      simp [h1, h4, h5, h7, hlt2, hlt3, hlt1, c1, e1, hc, ← GRaw.enc_eq, setRun, -appendA_ag]
      refine stW_app1K (N := 2) hM rfl rfl (by omega) (by omega) hN (by simp; omega) fun x' σ' hL' hlen' hk' hoth => ?_
      have hL2 := hoth 6 _ _ (by decide) hL
      simp [h1, h4, h5, h7, hw, hk', c0, c1, hL'.solid, hL'.cells, setRun]
      have kp : ∀ {sz es y} o, LX 2 sz σ' es y → LX 2 sz (σ'.set 1 o) es y := fun o h => h.keep fun i q hi ho => by rw [List.getElem?_set_ne (by omega)]; exact ho
      refine ⟨by omega, by omega, x', list_set_at (by omega), kp _ hL2, ?_⟩
      have := kp (.cells [.isl (relsD.map GD.enc) false, x', lst] 0 false) hL'
      exact this
    · have he : i = min facts.length 12 := by omega
      have htk : facts.take i = facts.take 12 := by
        by_cases h : facts.length ≤ 12
        · rw [List.take_of_length_le (by omega), List.take_of_length_le h]
        · have : i = 12 := by omega
          rw [this]
      rw [htk] at hM
      have hs0 : ∀ o, (σ.set 0 o)[0]? = some o := fun o => list_set_at (by omega)
      have kp : ∀ {sz es y} o, LX 2 sz σ es y → LX 2 sz (σ.set 0 o) es y := fun o h => h.keep fun i q hi ho => by rw [List.getElem?_set_ne (by omega)]; exact ho
      have hcl : ∀ o, ∃ σ', close1 (σ.set 0 o) ls = some (.isl (((facts.take 12).map factR).map GU.enc) false, σ') ∧ ∃ σ'', close1 σ' lst = some (.isl (rs.map GR.enc) false, σ'') := fun o => by
        obtain ⟨σ1, k1, _, _, k3⟩ := (kp o hM).close
        obtain ⟨σ2, k4, _⟩ := (k3 _ _ _ _ (kp o hL)).close
        exact ⟨σ1, close1_of0 k1, σ2, close1_of0 k4⟩
      have ht12 : List.take 12 (List.map factR facts) = (facts.take 12).map factR := by rw [List.map_take]
      by_cases h12 : (i : Int) < (facts.length : Int)
      · have hlt3 : ¬ (i : Int) < 12 := by omega
        simp [h1, h4, h5, h7, h12, hlt3, c1, c0, hs0]
        obtain ⟨σ1, k1, σ2, k2⟩ := hcl (AObj.cells [AV.isl (List.map GD.enc relsD) false, ls, lst] 0 false)
        simp [k1, k2, GP.enc_eq]
      · simp [h1, h4, h5, h7, h12, c1, c0, hs0]
        obtain ⟨σ1, k1, σ2, k2⟩ := hcl (AObj.cells [AV.isl (List.map GD.enc relsD) false, ls, lst] 0 false)
        simp [k1, k2, GP.enc_eq]
  · simp [h1, h4, h5, c1, hN, c0, hL]
    exact .inl ⟨rfl, rfl⟩
theorem rulesR_snoc (rules : List (List GRaw)) (i : Nat) (h : i < rules.length) : ((rules.take (i + 1)).zipIdx).map (fun p => ruleR p.1 p.2) = ((rules.take i).zipIdx).map (fun p => ruleR p.1 p.2) ++ [ruleR rules[i] i] := by
  rw [List.take_succ_eq_append_getElem h, List.zipIdx_append, List.map_append]
  have : (rules.take i).length = i := by simp; omega
  simp [this]
theorem prog6_ok (rules : List (List GRaw)) (facts : List GRaw) (hr : ∀ l ∈ rules, (∀ x ∈ l, x.ok) ∧ l.length ≤ 100000000000) (hrl : rules.length ≤ 100000000000) (hf : ∀ x ∈ facts, x.ok) (hlen : facts.length ≤ 100000000000) :
    pureT T c9 [.isl (encRR rules) false, .isl (facts.map GRaw.enc) false] = some (progR rules facts).enc := by
  have tail := prog_facts (rulesR rules) facts hf hlen
  unfold progR
  apply pure_enter (by simp [c9])
  show wpK T 0 52 [.code c9.body] _ [] (endP 52 [.cell 4 3 true] _)
  have hb : c9.body = .seq (fstC c9.body) (.seq (fstC (sndC c9.body)) (.seq (fstC (sndC (sndC c9.body))) PF)) := rfl
  rw [hb]
  generalize PF = K at tail
  generalize GP.enc ⟨relsD, (facts.take 12).map factR, rulesR rules⟩ = res at *
  simp [c9, sndC, fstC, callRelations6, setRun]
  refine W_for T 0 52 (min rules.length 6) (fun i f σ => f 0 = .isl (encRR rules) false ∧ f 1 = .isl (facts.map GRaw.enc) false ∧ f 4 = .ptr 0 0 ∧ f 5 = .ptr 1 0 ∧ f 6 = .int .i64 (i : Int) ∧ 2 ≤ σ.length ∧ (∃ a b c, σ[0]? = some (.cells [a, b, c] 0 false)) ∧
    ∃ ls, σ[1]? = some (.cells [.isl (relsD.map GD.enc) false, .isl [] true, ls] 0 false) ∧ LX 2 6 σ ((((rules.take i).zipIdx).map fun p => ruleR p.1 p.2).map GR.enc) ls) ?_ _ _ ?_
  · rintro i f σ hi ⟨h0, h1, h4, h5, h6, hN, ⟨a, b, c, c0⟩, ls, c1, hL⟩
    by_cases hlt : i < min rules.length 6
    · have hlt1 : i < rules.length := by omega
      have hlt2 : (i : Int) < (rules.length : Int) := by omega
      have hlt3 : (i : Int) < 6 := by omega
      have hw : IntKind.i64.wrap ((i : Int) + 1) = (i : Int) + 1 := wr64 (by omega) (by omega)
      have e1 : rules[i]? = some rules[i] := List.getElem?_eq_getElem hlt1
      have hc := callRule6R rules[i] (hr _ (List.getElem_mem hlt1)).1 (hr _ (List.getElem_mem hlt1)).2 i (by omega)
      have htk := rulesR_snoc rules i hlt1
      have hal : (((rules.take i).zipIdx).map fun p => ruleR p.1 p.2).length ≤ 6 := by simp; omega
      rw [htk]
      generalize (((rules.take i).zipIdx).map fun p => ruleR p.1 p.2) = es at *
      simp [h0, h1, h4, h5, h6, hlt2, hlt3, hlt1, c1, e1, hc, setRun, -appendA_ag]
      refine stW_app1 (N := 2) hL rfl rfl (by omega) (by omega) hN (by simp; omega) fun x' σ' hL' hlen' hk' => ?_
      simp [h0, h1, h4, h5, h6, hw, hk', c0, c1, hL'.solid, hL'.cells, setRun]
      have kp : ∀ {sz es y} o, LX 2 sz σ' es y → LX 2 sz (σ'.set 1 o) es y := fun o h => h.keep fun i q hi ho => by rw [List.getElem?_set_ne (by omega)]; exact ho
      refine ⟨by omega, by omega, x', list_set_at (by omega), ?_⟩
      have := kp (.cells [.isl (relsD.map GD.enc) false, .isl [] true, x'] 0 false) hL'
      exact this
    · have he : i = min rules.length 6 := by omega
      have htk : rules.take i = rules.take 6 := by
        by_cases h : rules.length ≤ 6
        · rw [List.take_of_length_le (by omega), List.take_of_length_le h]
        · have : i = 6 := by omega
          rw [this]
      rw [htk] at hL
      by_cases h12 : (i : Int) < (rules.length : Int)
      · have hlt3 : ¬ (i : Int) < 6 := by omega
        simp [h0, h1, h4, h5, h6, h12, hlt3]
        refine tail ls _ σ ?_ ?_ ?_ hN ⟨a, b, c, c0⟩ c1 hL <;> simp [h1, h4, h5]
      · simp [h0, h1, h4, h5, h6, h12]
        refine tail ls _ σ ?_ ?_ ?_ hN ⟨a, b, c, c0⟩ c1 hL <;> simp [h1, h4, h5]
  · simp
    exact .inl ⟨rfl, rfl⟩
theorem callProg6 (rules : List (List GRaw)) (facts : List GRaw) (hr : ∀ l ∈ rules, (∀ x ∈ l, x.ok) ∧ l.length ≤ 100000000000) (hrl : rules.length ≤ 100000000000) (hf : ∀ x ∈ facts, x.ok) (hlen : facts.length ≤ 100000000000) (bs : Nat) (σ : Heap) :
    callT T 9 [.isl (encRR rules) false, .isl (facts.map GRaw.enc) false] bs σ = some ((progR rules facts).enc, σ) := call_clean rfl rfl rfl (by simp) (prog6_ok rules facts hr hrl hf hlen)
end Go.Proofs.Ytiikmmbfhbianaa
end
section
set_option linter.unusedVariables false
set_option linter.unusedSimpArgs false
set_option linter.unnecessarySimpa false
namespace Go.Proofs.Ytiikmmbfhbianaa
open Go.Mach
theorem bulkAs_le {α : Type} (enc : α → AV) (c : Nat) : ∀ l : List α, (∀ x ∈ l, bulkA (enc x) ≤ c) → bulkAs (l.map enc) ≤ c * l.length
  | [], _ => by simp [bulkAs]
  | x :: l, h => by
    have h1 := bulkAs_le enc c l fun y hy => h y (by simp [hy])
    have h2 := h x (by simp)
    simp only [List.map_cons, bulkAs, List.length_cons, Nat.mul_add]; omega
theorem tsizes_le (c : Nat) (l : List GT) (h : ∀ t ∈ l, t.size ≤ c) : GT.sizes l ≤ c * l.length := by
  rw [← GT.bulk_encs, GT.encs_map]
  exact bulkAs_le GT.enc c l fun t ht => by rw [GT.bulk_enc]; exact h t ht
theorem gsizes_le (c : Nat) (l : List GV) (h : ∀ t ∈ l, t.size ≤ c) : GV.sizes l ≤ c * l.length := by
  rw [← GV.bulk_encs, GV.encs_map]
  exact bulkAs_le GV.enc c l fun t ht => by rw [GV.bulk_enc]; exact h t ht
theorem vTn_size : ∀ n, n < 6 → (vTn n).size ≤ 40 := by decide +kernel
theorem vT_size (c : Int) : (vT c).size ≤ 40 := vTn_size _ (pickN_lt (by omega))
theorem numT_size (n : Int) : (numT n).size ≤ 40 := by
  have h0 : (ByteArray.mk #[]).size = 0 := rfl
  simp [numT, GT.size, GT.sizes, GV.size, GV.sizes, h0]
theorem addrT_size : ∀ n, n < 3 → (addrT n).size ≤ 40 := by decide +kernel
theorem sumT_size : ∀ n, n < 6 → (sumT n).size ≤ 40 := by decide +kernel
theorem argR_size (k : Int) : (argR k).size ≤ 40 := by
  unfold argR
  split
  · exact numT_size _
  split
  · exact addrT_size _ (pickN_lt (by omega))
  split
  · exact sumT_size _ (pickN_lt (by omega))
  · exact vT_size k
theorem atomR_size (x : GRaw) : GT.sizes (atomR x) ≤ 120 := by
  obtain ⟨_, h2, _⟩ := rel_arity x
  have := tsizes_le 40 (atomR x) (fun t ht => by
    obtain ⟨i, _, rfl⟩ := List.mem_map.1 ht
    split
    · exact vT_size _
    · exact argR_size _)
  have hl : (atomR x).length = (relR x).arity.toNat := by simp [atomR]
  rw [hl] at this; omega
theorem relR_size (x : GRaw) : (relR x).name.size ≤ 4 := by
  obtain ⟨n, hn, _, e⟩ := rel_cases x
  rw [e]
  match n, hn with
  | 0, _ => decide
  | 1, _ => decide
  | 2, _ => decide
  | 3, _ => decide
  | 4, _ => decide
  | 5, _ => decide
theorem tSix_size : ∀ n, n < 6 → (tSix.getD n ⟨#[]⟩).size ≤ 4 := by decide +kernel
theorem vName_size : ∀ n, n < 6 → (vName n).size ≤ 4 := by decide +kernel
theorem litR_size (x : GRaw) : (litR x).size ≤ 200 := by
  have h1 := atomR_size x
  have h2 := relR_size x
  unfold litR
  split
  · simp only [GL.size, GL.enc, bulkA, bulkAs, GT.bulk_encs]; omega
  split
  · simp only [GL.size, GL.enc, bulkA, bulkAs, GT.bulk_encs]; omega
  split
  · have h3 := tSix_size _ (pickN_lt (c := x.name) (n := 6) (by omega))
    have h4 : GT.sizes [vT x.n0, if pickN x.n3 2 = 0 then numT (pickN x.n2 4) else vT x.n1] ≤ 80 := tsizes_le 40 _ fun t ht => by
      simp only [List.mem_cons, List.not_mem_nil, or_false] at ht
      rcases ht with rfl | rfl
      · exact vT_size _
      · split
        · exact numT_size _
        · exact vT_size _
    simp only [GL.size, GL.enc, bulkA, bulkAs, GT.bulk_encs]; omega
  · have h3 := vName_size _ (pickN_lt (c := x.n0) (n := 6) (by omega))
    have h4 : GT.sizes [vT x.n1, if pickN (x.n3.tdiv 2) 2 = 0 then numT 1 else vT x.n2] ≤ 80 := tsizes_le 40 _ fun t ht => by
      simp only [List.mem_cons, List.not_mem_nil, or_false] at ht
      rcases ht with rfl | rfl
      · exact vT_size _
      · split
        · exact numT_size _
        · exact vT_size _
    have h5 : (if pickN x.n3 2 = 0 then (⟨#[43]⟩ : ByteArray) else ⟨#[45]⟩).size ≤ 1 := by split <;> decide
    have h0 : (ByteArray.mk #[]).size = 0 := rfl
    simp only [GL.size, GL.enc, bulkA, bulkAs, GT.bulk_encs, GT.sizes, GT.size, GV.size, GV.sizes, h0] at h4 ⊢; omega
theorem aggN_size (n : Nat) : (aggN n).size ≤ 5 := by
  unfold aggN
  split
  · decide
  split <;> decide
theorem ruleR_size (l : List GRaw) (n : Nat) : (ruleR l n).size ≤ 1000 := by
  have h1 := atomR_size (headR l)
  have h2 := relR_size (headR l)
  have h3 := aggN_size (pickN ((headR l).kind.tdiv 5) 3)
  have h4 : bulkAs ((bodyR l).map GL.enc) ≤ 200 * (bodyR l).length := bulkAs_le GL.enc 200 _ fun y hy => by
    obtain ⟨x, rfl⟩ := bodyR_mem l hy
    exact litR_size x
  have h5 := (bodyR_len l).2
  have h6 : ((⟨#[114]⟩ : ByteArray) ++ ⟨#[UInt8.ofNat (97 + n)]⟩).size = 2 := by rw [ByteArray.size_append]; rfl
  have h7 : (if aggR (headR l) = true then aggN (pickN ((headR l).kind.tdiv 5) 3) else ⟨#[]⟩).size ≤ 5 := by
    split
    · exact h3
    · decide
  simp only [ruleR, GR.size, GR.enc, bulkA, bulkAs, GT.bulk_encs, h6]; omega
theorem addrV_size : ∀ n, n < 4 → (addrV n).size ≤ 40 := by decide +kernel
theorem factR_size (x : GRaw) : (factR x).size ≤ 200 := by
  obtain ⟨_, h2, _⟩ := rel_arity x
  have h1 := relR_size x
  have h0 : (ByteArray.mk #[]).size = 0 := rfl
  have := gsizes_le 40 (factR x).args (fun t ht => by
    obtain ⟨i, _, rfl⟩ := List.mem_map.1 ht
    unfold fargR
    split
    · exact addrV_size _ (pickN_lt (by omega))
    · simp [numV, GV.size, GV.sizes, h0])
  have hl := fargs_len x
  rw [hl] at this
  have e1 : (factR x).name = (relR x).name := rfl
  simp only [GU.size, GU.enc, bulkA, bulkAs, GV.bulk_encs, e1]; omega
theorem GP.size_le (p : GP) (a b c : Nat) (h1 : ∀ x ∈ p.decls, x.size ≤ a) (h2 : ∀ x ∈ p.facts, x.size ≤ b) (h3 : ∀ x ∈ p.rules, x.size ≤ c) : p.size ≤ a * p.decls.length + b * p.facts.length + c * p.rules.length + 4 := by
  have k1 := bulkAs_le GD.enc a p.decls h1
  have k2 := bulkAs_le GU.enc b p.facts h2
  have k3 := bulkAs_le GR.enc c p.rules h3
  simp only [GP.size, GP.enc, bulkA, bulkAs]; omega
theorem relsD_size : ∀ x ∈ relsD, x.size ≤ 20 := by decide +kernel
theorem rulesR_size (rules : List (List GRaw)) : ∀ x ∈ rulesR rules, x.size ≤ 1000 := fun x hx => by
  obtain ⟨p, _, rfl⟩ := List.mem_map.1 hx
  exact ruleR_size _ _
theorem facts_size (facts : List GRaw) : ∀ x ∈ (facts.take 12).map factR, x.size ≤ 200 := fun x hx => by
  obtain ⟨p, _, rfl⟩ := List.mem_map.1 hx
  exact factR_size _
end Go.Proofs.Ytiikmmbfhbianaa
end
section
set_option linter.unusedVariables false
set_option linter.unusedSimpArgs false
set_option linter.unnecessarySimpa false
set_option maxRecDepth 100000
namespace Go.Proofs.Ytiikmmbfhbianaa
open Go.Mach
theorem first_app (p : GP) : ∀ (a b : List GR) (i : Nat), (firstP p (a ++ b) i = firstP p a i ∧ (firstP p a i).1 ≠ 0 ∧ (i : Int) ≤ (firstP p a i).2 ∧ (firstP p a i).2 < (i : Int) + a.length) ∨ (firstP p (a ++ b) i = firstP p b (i + a.length) ∧ firstP p a i = (0, -1))
  | [], b, i => .inr ⟨rfl, rfl⟩
  | r :: a, b, i => by
    simp only [List.cons_append, firstP]
    by_cases h : ruleP p r ≠ 0
    · simp only [if_pos h, List.length_cons]
      exact .inl ⟨trivial, h, Int.le_refl _, by omega⟩
    · simp only [if_neg h]
      rcases first_app p a b (i + 1) with ⟨h1, h2, h3, h4⟩ | ⟨h1, h2⟩
      · exact .inl ⟨h1, h2, by omega, by simp only [List.length_cons]; omega⟩
      · refine .inr ⟨?_, h2⟩
        rw [h1]; congr 1; simp only [List.length_cons]; omega
theorem first_shift (p : GP) : ∀ (b : List GR) (i : Nat), (firstP p b i = (0, -1) ∧ firstP p b (i + 1) = (0, -1)) ∨ ((firstP p b i).1 ≠ 0 ∧ (i : Int) ≤ (firstP p b i).2 ∧ firstP p b (i + 1) = ((firstP p b i).1, (firstP p b i).2 + 1))
  | [], i => .inl ⟨rfl, rfl⟩
  | r :: b, i => by
    simp only [firstP]
    by_cases h : ruleP p r ≠ 0
    · simp only [if_pos h]
      exact .inr ⟨h, Int.le_refl _, by simp⟩
    · simp only [if_neg h]
      rcases first_shift p b (i + 1) with ⟨h1, h2⟩ | ⟨h1, h2, h3⟩
      · exact .inl ⟨h1, h2⟩
      · exact .inr ⟨h1, by omega, h3⟩
theorem less_plain (p : GP) (a b : List GR) (r : GR) (k : Nat) (hk : a.length = k) : ∀ e n f m, firstP p (a ++ r :: b) 0 = (e, n) → firstP p (a ++ b) 0 = (f, m) →
    (e = 0 ∧ n = -1 ∧ f = 0 ∧ m = -1) ∨ (e ≠ 0 ∧ 0 ≤ n ∧ n < k ∧ f = e ∧ m = n) ∨ (e ≠ 0 ∧ (k : Int) < n ∧ f = e ∧ m = n - 1) ∨ (e ≠ 0 ∧ n = k ∧ (m = -1 ∨ (k : Int) ≤ m)) := by
  intro e n f m h1 h2
  rcases first_app p a (r :: b) 0 with ⟨g1, g2, g3, g4⟩ | ⟨g1, g2⟩
  · rcases first_app p a b 0 with ⟨k1, k2, k3, k4⟩ | ⟨k1, k2⟩
    · rw [g1] at h1; rw [k1] at h2
      rw [h1] at h2; injection h2 with h2 h3; subst h2 h3
      rw [h1] at g2 g3 g4
      refine .inr (.inl ⟨g2, g3, ?_, rfl, rfl⟩)
      simp only at g4; omega
    · rw [k2] at g2; exact absurd rfl g2
  · rcases first_app p a b 0 with ⟨k1, k2, k3, k4⟩ | ⟨k1, k2⟩
    · rw [g2] at k2; exact absurd rfl k2
    · rw [g1] at h1; rw [k1] at h2
      rw [hk, Nat.zero_add] at h1 h2
      simp only [firstP] at h1
      by_cases hr : ruleP p r ≠ 0
      · rw [if_pos hr] at h1
        injection h1 with h1 h3; subst h1 h3
        rcases first_shift p b k with ⟨s1, s2⟩ | ⟨s1, s2, s3⟩
        · rw [s1] at h2; injection h2 with h2 h4
          exact .inr (.inr (.inr ⟨hr, rfl, .inl h4.symm⟩))
        · rw [h2] at s2
          exact .inr (.inr (.inr ⟨hr, rfl, .inr s2⟩))
      · rw [if_neg hr] at h1
        rcases first_shift p b k with ⟨s1, s2⟩ | ⟨s1, s2, s3⟩
        · rw [s1] at h2; rw [s2] at h1
          injection h2 with h2 h4; injection h1 with h1 h3; subst h2 h4 h1 h3
          exact .inl ⟨rfl, rfl, rfl, rfl⟩
        · rw [h2] at s1 s2 s3; rw [s3] at h1
          injection h1 with h1 h3; subst h1 h3
          exact .inr (.inr (.inl ⟨s1, by simp only at s2 ⊢; omega, rfl, by simp only; omega⟩))
theorem first_lt (p : GP) : ∀ (l : List GR) (i : Nat), (firstP p l i).2 = -1 ∨ ((i : Int) ≤ (firstP p l i).2 ∧ (firstP p l i).2 < (i : Int) + l.length)
  | [], i => .inl rfl
  | r :: l, i => by
    simp only [firstP]
    by_cases h : ruleP p r ≠ 0
    · simp only [if_pos h, List.length_cons]; exact .inr ⟨Int.le_refl _, by omega⟩
    · simp only [if_neg h, List.length_cons]
      rcases first_lt p l (i + 1) with h1 | ⟨h1, h2⟩
      · exact .inl h1
      · exact .inr ⟨by omega, by omega⟩
theorem rulesR_B (rules : List (List GRaw)) : (rulesR rules).all ruleB = true ∧ (rulesR rules).length ≤ 6 := by
  constructor
  · rw [List.all_eq_true]; intro v hv
    obtain ⟨x, hx, rfl⟩ := List.mem_map.1 hv
    have := List.snd_lt_of_mem_zipIdx hx
    refine ruleR_B _ _ ?_
    simp at this; omega
  · simp [rulesR]; omega
theorem facts_B (facts : List GRaw) : ((facts.take 12).map factR).all tupB = true ∧ ((facts.take 12).map factR).length ≤ 12 := by
  constructor
  · rw [List.all_eq_true]; intro v hv
    obtain ⟨x, _, rfl⟩ := List.mem_map.1 hv
    exact tupB_R x
  · simp; omega
theorem check_rules6 (facts : List GRaw) (rs : List GR) (hr : rs.all ruleB = true) (hl : rs.length ≤ 64) : checkP ⟨relsD, (facts.take 12).map factR, rs⟩ = firstP ⟨relsD, [], []⟩ rs 0 := by
  rw [check_rawR rfl ?_ (facts_good rfl _)]
  · exact first_congr (p := ⟨relsD, (facts.take 12).map factR, rs⟩) (q := ⟨relsD, [], []⟩) rfl rs 0
  · obtain ⟨h1, h2⟩ := facts_B facts
    have h4 : relsD.length = 6 := rfl
    simp only [progB, h1, hr, relsD_B, h4, Bool.and_true, decide_eq_true_eq]
    omega
theorem callCheckI (p : GP) (hp : p.size ≤ 1000000000) {σ σ' : Heap} {d f r : AV} (hd : closeA σ (.agg [d, f, r]) = some (p.enc, σ')) (bs : Nat) : callT T 10 [.agg [d, f, r]] bs σ = some (res2 (checkP p), σ) :=
  call_pure (T := T) (f := 10) (bs := bs) (args' := [p.enc]) rfl rfl rfl (show closeT σ [.agg [d, f, r]] = some ([p.enc], σ') by unfold closeT; rw [hd]; rfl) (by simp) (check_ok p hp)
theorem raw_prog (rules : List (List GRaw)) (facts : List GRaw) (hr : RawsOk rules) (hf : FactsOk facts) : ∃ fs rs, rs.length ≤ 6 ∧ fs.length ≤ 12 ∧ rs = rulesR rules ∧ fs = (facts.take 12).map factR ∧
    (∀ bs σ, callT T 9 [.isl (encRR rules) false, .isl (facts.map GRaw.enc) false] bs σ = some (.agg [.isl (relsD.map GD.enc) false, .isl (fs.map GU.enc) false, .isl (rs.map GR.enc) false], σ)) ∧
    ∀ rs' : List GR, (∀ r ∈ rs', r ∈ rs) → rs'.length ≤ 64 → checkP ⟨relsD, fs, rs'⟩ = firstP ⟨relsD, [], []⟩ rs' 0 ∧ (GP.mk relsD fs rs').size ≤ 1000000000 := by
  refine ⟨_, _, (rulesR_B rules).2, (facts_B facts).2, rfl, rfl, fun bs σ => callProg6 rules facts hr.1 hr.2 hf.1 hf.2 bs σ, fun rs' h1 h2 => ⟨check_rules6 facts rs' ?_ h2, ?_⟩⟩
  · rw [List.all_eq_true]
    exact fun r hr' => List.all_eq_true.1 (rulesR_B rules).1 r (h1 r hr')
  · have := GP.size_le ⟨relsD, (facts.take 12).map factR, rs'⟩ 20 200 1000 relsD_size (facts_size facts) fun r hr' => rulesR_size rules r (h1 r hr')
    have e1 : relsD.length = 6 := rfl
    have e2 := (facts_B facts).2
    simp only [e1] at this
    omega
set_option maxHeartbeats 1000000 in
theorem scopeLess_ok (rules : List (List GRaw)) (facts : List GRaw) (which : Int) (hr : RawsOk rules) (hf : FactsOk facts) (hw : GV.i64ok which) : pureT T c3 [.isl (encRR rules) false, .isl (facts.map GRaw.enc) false, .int .i64 which] = some (.bool true) := by
  obtain ⟨fs, rs, h6, h12, _, _, hP, hC⟩ := raw_prog rules facts hr hf
  obtain ⟨hc1, hs1⟩ := hC rs (fun _ h => h) (by omega)
  have hck := callCheck _ hs1
  rw [hc1] at hck
  simp only [GP.enc_eq] at hck
  obtain ⟨⟨e, n⟩, hen⟩ : ∃ x, firstP ⟨relsD, [], []⟩ rs 0 = x := ⟨_, rfl⟩
  rw [hen] at hck
  apply pure_enter (by simp [c3])
  by_cases h0 : rs.length = 0
  · have h0' : (rs.length : Int) = 0 := by omega
    have : rs = [] := List.length_eq_zero_iff.1 h0
    subst this
    injection hen with e1 e2; subst e1 e2
    simp only [List.map_nil] at hck hP
    simp [c3, callAwake6, hP, setRun, hck]
  · have h0' : ¬ (rs.length : Int) = 0 := by omega
    have hpk := pick6 which rs.length (by omega) hw
    have hkl := pickN_lt (c := which) (n := rs.length) (by omega)
    generalize pickN which rs.length = k at *
    have hspl : rs = rs.take k ++ rs[k] :: rs.drop (k + 1) := by rw [List.getElem_cons_drop, List.take_append_drop]
    obtain ⟨hc2, hs2⟩ := hC (rs.take k ++ rs.drop (k + 1)) (fun r h => by
      rcases List.mem_append.1 h with h | h
      · exact List.mem_of_mem_take h
      · exact List.mem_of_mem_drop h) (by simp; omega)
    obtain ⟨⟨f, m⟩, hfm⟩ : ∃ x, firstP ⟨relsD, [], []⟩ (rs.take k ++ rs.drop (k + 1)) 0 = x := ⟨_, rfl⟩
    rw [hfm] at hc2
    have hlaw := less_plain ⟨relsD, [], []⟩ (rs.take k) (rs.drop (k + 1)) rs[k] k (by simp; omega) e n f m (by rw [← hspl]; exact hen) hfm
    have hsl1 : ∀ c, slSlV 6 none (some (.int .i64 (k : Int))) (.isl (rs.map GR.enc) c) = some (.isl ((rs.map GR.enc).take k) false) := fun c => slI_take (by simp; omega)
    have hsl2 : ∀ c, slSlV 6 (some (.int .i64 ((k : Int) + 1))) none (.isl (rs.map GR.enc) c) = some (.isl ((rs.map GR.enc).drop (k + 1)) false) := fun c => slI_drop (n := k + 1) (by simp; omega) (lenIs_map GR.enc 6 (fun _ => rfl) rs)
    have hwk : IntKind.i64.wrap ((k : Int) + 1) = (k : Int) + 1 := wr64 (by omega) (by omega)
    obtain ⟨x1, σ1, a1, L1, l1, k1⟩ := (LO.nil 2 6 true [AObj.cells [.isl (relsD.map GD.enc) false, .isl (fs.map GU.enc) false, .isl (rs.map GR.enc) false] 0 false, AObj.cells [.isl (relsD.map GD.enc) false, .isl (fs.map GU.enc) false, .isl (rs.map GR.enc) false] 0 false]).isl (bytes := 104) (b := false) ((rs.map GR.enc).take k) (by rw [← List.map_take]; exact GR.encs_okEl _) (by simp; omega) (by omega) (by omega) (by simp)
    obtain ⟨x2, σ2, a2, L2, l2, k2⟩ := L1.isl (bytes := 104) (b := false) ((rs.map GR.enc).drop (k + 1)) (by rw [← List.map_drop]; exact GR.encs_okEl _) (by simp; omega) (by omega) (by omega) (by simp at l1; omega)
    have g1 : σ1[1]? = some (.cells [.isl (relsD.map GD.enc) false, .isl (fs.map GU.enc) false, .isl (rs.map GR.enc) false] 0 false) := by rw [k1 1 (by omega)]; rfl
    have g2 : σ2[1]? = some (.cells [.isl (relsD.map GD.enc) false, .isl (fs.map GU.enc) false, .isl (rs.map GR.enc) false] 0 false) := by rw [k2 1 (by omega)]; exact g1
    have hl2 : 2 ≤ σ2.length := by simp at l1; omega
    have hcl := fun τ => L2.close1 τ
    rw [List.nil_append, ← List.map_take, ← List.map_drop, ← List.map_append] at hcl
    have hck2 : ∀ bs τ, callT T 10 [.agg [.isl (relsD.map GD.enc) false, .isl (fs.map GU.enc) false, x2]] bs τ = some (res2 (f, m), τ) := fun bs τ => by
      rw [← hc2]
      exact callCheckI _ hs2 (σ' := τ) (by simp [closeA, closeL, hcl, GP.enc_eq]) bs
    have gs : ∀ o, (σ2.set 1 o)[1]? = some o := fun o => list_set_at (by omega)
    simp [c3, callAwake6, hP, setRun, hck, h0', h0, hpk, hsl1, hsl2, hwk, a1, L1.closeS, a2, g2, L2.solid, L2.cells, gs, hck2, chkO_l, objOf, k1]
    have hb := first_lt ⟨relsD, [], []⟩ rs 0
    rw [hen] at hb
    simp only at hb
    have hwn : IntKind.i64.wrap (n - 1) = n - 1 := wr64 (by omega) (by omega)
    rw [hwn]
    omega
end Go.Proofs.Ytiikmmbfhbianaa
end
section
set_option linter.unusedVariables false
set_option linter.unusedSimpArgs false
set_option linter.unnecessarySimpa false
set_option maxRecDepth 100000
namespace Go.Proofs.Ytiikmmbfhbianaa
open Go.Mach
def bN (n : ByteArray) : ByteArray := ⟨#[78]⟩ ++ n
mutual
def turnT : GT → GT
  | .mk k n v l => if k = 1 then .mk 1 (bN n) (.mk 0 0 ⟨#[]⟩ []) [] else .mk k n v (turnL l)
def turnL : List GT → List GT
  | [] => []
  | t :: l => turnT t :: turnL l
end
theorem turnL_map : ∀ l : List GT, turnL l = l.map turnT
  | [] => rfl
  | t :: l => by simp only [turnL, List.map_cons, turnL_map l]
theorem turnT_eq (t : GT) : turnT t = if t.kind = 1 then .mk 1 (bN t.name) (.mk 0 0 ⟨#[]⟩ []) [] else .mk t.kind t.name t.value (turnL t.args) := by cases t; rfl
theorem turn_step (t : GT) (hs : t.size ≤ 100000000000) (H : ∀ bs σ, callT T 12 [.isl (GT.encs t.args) false] bs σ = some (.isl (GT.encs (turnL t.args)) false, σ)) : pureT T c24 [t.enc] = some (turnT t).enc := by
  have hn := GT.name_le t
  have h1 : (⟨#[78]⟩ : ByteArray).size = 1 := rfl
  have h3 : (1 : Int) + (t.name.size : Int) ≤ 9223372036854775807 := by omega
  rw [turnT_eq]
  apply pure_enter (by simp [c24])
  by_cases hk : t.kind = 1
  · simp [c24, hk, h1, h3, setRun, GT.enc, bN]
  · simp [c24, hk, H, setRun, GT.enc]
theorem turned_ok : ∀ (k : Nat) (l : List GT), GT.sizes l ≤ k → k ≤ 100000000 → pureT T c12 [.isl (GT.encs l) false] = some (.isl (GT.encs (turnL l)) false) := by
  intro k
  induction k using Nat.strongRecOn with
  | ind k ih =>
    intro l hl hk
    have hlen := GT.len_sizes l
    have hT : ∀ t ∈ l, ∀ bs σ, callT T 24 [t.enc] bs σ = some ((turnT t).enc, σ) := fun t ht bs σ => by
      have hm := GT.sizes_mem ht
      have ha := GT.args_le t
      refine call_clean rfl rfl rfl (by simp) (turn_step t (by omega) fun bs σ => call_clean rfl rfl rfl (by simp) (ih (GT.sizes t.args) (by omega) t.args (Nat.le_refl _) (by omega)))
    rw [turnL_map]
    apply pure_enter (by simp [c12])
    simp [c12]
    refine W_for T 0 20 l.length (fun i f σ => f 0 = .isl (GT.encs l) false ∧ f 4 = .int .i64 (i : Int) ∧ LX 0 7 σ (GT.encs ((l.take i).map turnT)) (f 3)) ?_ _ _ ?_
    · rintro i f σ hi ⟨h0, h4, hL⟩
      by_cases hlt : i < l.length
      · have hw : IntKind.i64.wrap ((i : Int) + 1) = (i : Int) + 1 := wr64 (by omega) (by omega)
        have hc := hT l[i] (List.getElem_mem hlt)
        have htk : (l.take (i + 1)).map turnT = (l.take i).map turnT ++ [turnT l[i]] := by rw [List.take_succ_eq_append_getElem hlt, List.map_append]; rfl
        have hel : (GT.encs ((l.take i).map turnT)).length ≤ 1000000000 := by simp; omega
        rw [htk]
        generalize (l.take i).map turnT = es at *
        simp [h0, h4, hlt, hc, setRun, ← GT.enc_eq, -appendA_ag]
        refine stW_app1 (N := 0) hL rfl rfl (by omega) (by omega) (Nat.zero_le _) hel fun x' σ' hL' hlen' hk' => ?_
        simp [h0, h4, hw]
        exact LX.snocT _ hL'
      · have he : i = l.length := by omega
        subst he
        rw [List.take_length] at hL
        obtain ⟨σ', hcl, _⟩ := hL.closeA
        have hr : closeR σ (f 3) = some (.isl (GT.encs (l.map turnT)) false, σ') := by
          rcases hL with ⟨h1, h2⟩ | ⟨k, cs, fz, h2, _⟩ | ⟨k, h2, _⟩ <;> rw [h2] at hcl ⊢ <;> exact hcl
        simp [h0, h4, hr, endP, res1]
    · simp
      exact .inl ⟨rfl, rfl⟩
theorem callTurned (l : List GT) (h : GT.sizes l ≤ 100000000) (bs : Nat) (σ : Heap) : callT T 12 [.isl (GT.encs l) false] bs σ = some (.isl (GT.encs (turnL l)) false, σ) :=
  call_clean rfl rfl rfl (by simp) (turned_ok _ l (Nat.le_refl _) h)
def turnG (x : GL) : GL := ⟨x.kind, if x.kind = 4 then bN x.name else x.name, turnL x.args⟩
def turnR (r : GR) : GR := ⟨r.label, r.head, turnL r.args, r.agg, r.pos, r.body.map turnG⟩
theorem bN_inj {a b : ByteArray} (h : bN a = bN b) : a = b := by
  have h1 : (bN a).data.toList = (bN b).data.toList := by rw [h]
  simp only [bN, ByteArray.data_append, Array.toList_append, List.append_cancel_left_eq] at h1
  cases a; cases b
  simp only at h1
  congr 1
  exact Array.toList_inj.1 h1
theorem memB_turn (m : ByteArray) (b : List ByteArray) : memB (bN m) (b.map bN) = memB m b := by
  have : memB (bN m) (b.map bN) = true ↔ memB m b = true := by
    rw [memB_iff, memB_iff]
    constructor
    · intro h
      obtain ⟨x, hx, e⟩ := List.mem_map.1 h
      rw [← bN_inj e]; exact hx
    · exact fun h => List.mem_map.2 ⟨m, h, rfl⟩
  cases h1 : memB (bN m) (b.map bN) <;> cases h2 : memB m b <;> simp_all
theorem addB_turn (b : List ByteArray) (n : ByteArray) : addB (b.map bN) (bN n) = (addB b n).map bN := by
  unfold addB
  rw [memB_turn]
  split
  · rfl
  · rw [List.map_append]; rfl
theorem fold_turn : ∀ (ns b : List ByteArray), (ns.map bN).foldl addB (b.map bN) = (ns.foldl addB b).map bN
  | [], b => rfl
  | n :: ns, b => by rw [List.map_cons, List.foldl_cons, List.foldl_cons, addB_turn, fold_turn ns]
mutual
theorem vs1_turn : ∀ t : GT, vs1 (turnT t) = (vs1 t).map bN
  | .mk k n v l => by
    by_cases h : k = 1
    · simp [turnT, vs1, h]
    · simp only [turnT, vs1, if_neg h]
      exact vsL_turn l
theorem vsL_turn : ∀ l : List GT, vsL (turnL l) = (vsL l).map bN
  | [] => rfl
  | t :: l => by simp only [turnL, vsL, List.map_append, vs1_turn t, vsL_turn l]
end
theorem kind_turn (t : GT) : (turnT t).kind = t.kind := by
  rw [turnT_eq]
  split
  · rename_i h; rw [h]
  · rfl
theorem name_turn (t : GT) (h : t.kind = 1) : (turnT t).name = bN t.name := by rw [turnT_eq, if_pos h]
theorem tops_turn (l : List GT) : tops (turnL l) = (tops l).map bN := by
  unfold tops
  rw [turnL_map, List.filter_map, List.map_map, List.map_map]
  have : ((fun t : GT => decide (t.kind = 1)) ∘ turnT) = fun t => decide (t.kind = 1) := by funext t; simp [kind_turn]
  rw [this]
  apply List.map_congr_left
  intro t ht
  rw [List.mem_filter] at ht
  exact name_turn t (by simpa using ht.2)
theorem allB_turn (b : List ByteArray) (l : List GT) : allB (b.map bN) (turnL l) = allB b l := by
  unfold allB
  rw [vsL_turn, List.all_map]
  congr 1
  funext m
  exact memB_turn m b
theorem takes_turn (b : List ByteArray) (x : GL) : takesP (b.map bN) (turnG x) = ((takesP b x).1, (takesP b x).2.map bN) := by
  have h1 : takesB (b.map bN) (turnG x) = (takesB b x).map bN := by
    unfold takesB
    show (if x.kind = 1 then (tops (turnL x.args)).foldl addB (b.map bN) else b.map bN) = _
    split
    · rw [tops_turn, fold_turn]
    · rfl
  unfold takesP
  rw [h1]
  have h2 : allB ((takesB b x).map bN) (turnG x).args = allB (takesB b x) x.args := allB_turn _ _
  have h3 : (turnG x).kind = x.kind := rfl
  rw [h2, h3]
  by_cases ha : allB (takesB b x) x.args = false
  · simp only [if_pos ha]
  · simp only [if_neg ha]
    by_cases hk : x.kind ≠ 4
    · simp only [if_pos hk]
    · simp only [if_neg hk]
      have hk4 : x.kind = 4 := by simpa using hk
      have hn : (turnG x).name = bN x.name := by simp [turnG, hk4]
      rw [hn, memB_turn]
      split
      · rfl
      · rw [addB_turn]
theorem goB_turn : ∀ (ls : List GL) (b : List ByteArray), goB (b.map bN) (ls.map turnG) = ((goB b ls).1, (goB b ls).2.map bN)
  | [], b => rfl
  | l :: ls, b => by
    simp only [List.map_cons, goB, takes_turn]
    split
    · rfl
    · exact goB_turn ls _
theorem rels_turn (p : GP) (r : GR) : relsB p (turnR r) = relsB p r := by
  unfold relsB
  have h1 : (turnR r).args.length = r.args.length := by simp [turnR, turnL_map]
  have h2 : (turnR r).body.any (badL p) = r.body.any (badL p) := by
    show (r.body.map turnG).any (badL p) = _
    rw [List.any_map]
    congr 1
    funext x
    simp only [Function.comp, badL]
    have e1 : (turnG x).kind = x.kind := rfl
    have e2 : (turnG x).args.length = x.args.length := by simp [turnG, turnL_map]
    rw [e1, e2]
    by_cases h : x.kind = 1 ∨ x.kind = 2
    · have : (turnG x).name = x.name := by
        simp only [turnG]; rw [if_neg (by omega)]
      rw [this]
    · have h1 : ¬ x.kind = 1 := fun e => h (.inl e)
      have h2 : ¬ x.kind = 2 := fun e => h (.inr e)
      simp [h1, h2]
  rw [h1, h2]; rfl
theorem rule_turn (p : GP) (r : GR) : ruleP p (turnR r) = ruleP p r := by
  unfold ruleP
  have h := goB_turn r.body []
  have h1 : (turnR r).body = r.body.map turnG := rfl
  have h2 : (turnR r).args = turnL r.args := rfl
  rw [rels_turn, h1, h2]
  rw [List.map_nil] at h
  rw [h]
  simp only [allB_turn]
theorem first_turn (p : GP) : ∀ (l : List GR) (i : Nat), firstP p (l.map turnR) i = firstP p l i
  | [], i => rfl
  | r :: l, i => by simp only [List.map_cons, firstP, rule_turn, first_turn p l]
theorem vTn_RT : ∀ n, n < 6 → termR 8 (turnT (vTn n)) = true := by decide +kernel
theorem numT_RT : ∀ n : Nat, n < 6 → termR 8 (turnT (numT n)) = true := by decide +kernel
theorem addrT_RT : ∀ n, n < 3 → termR 8 (turnT (addrT n)) = true := by decide +kernel
theorem sumT_RT : ∀ n, n < 6 → termR 8 (turnT (sumT n)) = true := by decide +kernel
theorem vT_RT (c : Int) : termR 8 (turnT (vT c)) = true := vTn_RT _ (pickN_lt (by omega))
theorem argR_RT (k : Int) : termR 8 (turnT (argR k)) = true := by
  unfold argR
  split
  · exact numT_RT _ (Nat.lt_of_lt_of_le (pickN_lt (by omega)) (by omega))
  split
  · exact addrT_RT _ (pickN_lt (by omega))
  split
  · exact sumT_RT _ (pickN_lt (by omega))
  · exact vT_RT k
theorem atom_argsBT (x : GRaw) : argsB (turnL (atomR x)) = true := by
  obtain ⟨h1, h2, _⟩ := rel_arity x
  unfold argsB atomR
  have h3 : (turnL (argsR x (relR x).arity.toNat)).all (termR 8) = true := by
    rw [turnL_map, List.all_map, List.all_eq_true]
    intro t ht
    obtain ⟨i, _, rfl⟩ := List.mem_map.1 ht
    simp only [Function.comp]
    split
    · exact vT_RT _
    · exact argR_RT _
  have h4 : headOK (turnL (argsR x (relR x).arity.toNat)) = true := by
    obtain ⟨m, hm⟩ : ∃ m, (relR x).arity.toNat = m + 1 := ⟨_, (Nat.succ_pred_eq_of_pos h1).symm⟩
    rw [hm, argsR_succ]; rfl
  have h5 : (turnL (argsR x (relR x).arity.toNat)).length = (relR x).arity.toNat := by rw [turnL_map]; simp
  rw [h3, h4, h5]
  simp; omega
theorem vName_OKT : ∀ n, n < 6 → varOK (bN (vName n)) = true := by decide +kernel
theorem opT_RT : ∀ a, a < 6 → ∀ b, b < 6 → ∀ o, o < 2 → termR 8 (turnT (.mk 4 (if o = 0 then ⟨#[43]⟩ else ⟨#[45]⟩) (.mk 0 0 ⟨#[]⟩ []) [vTn a, vTn b])) = true := by decide +kernel
theorem opN_RT : ∀ a, a < 6 → ∀ o, o < 2 → termR 8 (turnT (.mk 4 (if o = 0 then ⟨#[43]⟩ else ⟨#[45]⟩) (.mk 0 0 ⟨#[]⟩ []) [vTn a, numT 1])) = true := by decide +kernel
theorem litR_BT (x : GRaw) : litB (turnG (litR x)) = true := by
  unfold litR
  split
  · simp [litB, turnG, rel_OK, atom_argsBT]
  split
  · simp [litB, turnG, rel_OK, atom_argsBT]
  split
  · have h1 := tSix_OK _ (pickN_lt (c := x.name) (n := 6) (by omega))
    have h2 := numT_RT (pickN x.n2 4) (Nat.lt_of_lt_of_le (pickN_lt (by omega)) (by omega))
    have h3 : termR 8 (turnT (if pickN x.n3 2 = 0 then numT (pickN x.n2 4) else vT x.n1)) = true := by
      split
      · exact h2
      · exact vT_RT _
    generalize tSix.getD (pickN x.name 6) ⟨#[]⟩ = o at *
    simp [litB, turnG, turnL, h1, vT_RT, h3]
  · have h1 := vName_OKT _ (pickN_lt (c := x.n0) (n := 6) (by omega))
    have h3 : termR 8 (turnT (.mk 4 (if pickN x.n3 2 = 0 then ⟨#[43]⟩ else ⟨#[45]⟩) (.mk 0 0 ⟨#[]⟩ []) [vT x.n1, if pickN (x.n3.tdiv 2) 2 = 0 then numT 1 else vT x.n2])) = true := by
      split
      · rename_i h
        split
        · exact opN_RT _ (pickN_lt (c := x.n1) (by omega)) 0 (by omega)
        · exact opT_RT _ (pickN_lt (c := x.n1) (by omega)) _ (pickN_lt (c := x.n2) (by omega)) 0 (by omega)
      · split
        · exact opN_RT _ (pickN_lt (c := x.n1) (by omega)) 1 (by omega)
        · exact opT_RT _ (pickN_lt (c := x.n1) (by omega)) _ (pickN_lt (c := x.n2) (by omega)) 1 (by omega)
    simp [litB, turnG, turnL, h1, h3]
theorem ruleR_BT (l : List GRaw) (n : Nat) (hn : n < 26) : ruleB (turnR (ruleR l n)) = true := by
  have hb := ruleR_B l n hn
  unfold ruleB at hb
  simp only [Bool.and_eq_true] at hb
  obtain ⟨⟨⟨⟨⟨b1, b2⟩, b3⟩, b4⟩, b5⟩, b6⟩ := hb
  have h2 : ((ruleR l n).body.map turnG).all litB = true := by
    rw [List.all_map, List.all_eq_true]; intro y hy
    obtain ⟨x, rfl⟩ := bodyR_mem l hy
    exact litR_BT x
  have h3 : aggB (turnR (ruleR l n)) = true := by
    unfold aggB at b6 ⊢
    have e1 : (turnR (ruleR l n)).agg = (ruleR l n).agg := rfl
    have e2 : (turnR (ruleR l n)).pos = (ruleR l n).pos := rfl
    have e3 : (turnR (ruleR l n)).args = turnL (ruleR l n).args := rfl
    have e4 : (turnL (ruleR l n).args).length = (ruleR l n).args.length := by rw [turnL_map]; simp
    have e5 : ∀ i, ((turnL (ruleR l n).args)[i]?).map GT.kind = ((ruleR l n).args[i]?).map GT.kind := fun i => by
      rw [turnL_map, List.getElem?_map, Option.map_map]
      congr 1
      funext t; exact kind_turn t
    rw [e1, e2, e3, e4, e5]; exact b6
  have b3' : argsB (turnR (ruleR l n)).args = true := atom_argsBT (headR l)
  have b4' : decide (1 ≤ (turnR (ruleR l n)).body.length ∧ (turnR (ruleR l n)).body.length ≤ 8) = true := by
    simp only [turnR, List.length_map]; exact b4
  have h2' : (turnR (ruleR l n)).body.all litB = true := h2
  unfold ruleB
  rw [h3, h2', b3', b4']
  have e1 : (turnR (ruleR l n)).label = (ruleR l n).label := rfl
  have e2 : (turnR (ruleR l n)).head = (ruleR l n).head := rfl
  rw [e1, e2, b1, b2]; rfl
end Go.Proofs.Ytiikmmbfhbianaa
end
